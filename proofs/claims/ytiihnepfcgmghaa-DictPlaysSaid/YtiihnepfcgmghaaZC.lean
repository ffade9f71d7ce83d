/- What one operation does to both dictionaries. -/
import Derived.Test.YtiihnepfcgmghaaZB
namespace Go.Proofs.Ytiihnepfcgmghaa
open Go.RowKit Go.Maps
set_option linter.unusedVariables false
set_option linter.unusedSimpArgs false

/-- the two dictionaries, with the same texts -/
structure Both (w0 : World) (D R : Nat) (w : World) (l : List ByteArray) (F G : Nat → Prop) : Prop where
  df : DF w0 F D w l
  rf : RefAt w0 G R w l
  apart : ∀ k, F k → ¬ G k
  nodup : l.Nodup
section
variable {w0 w w' : World} {D R : Nat} {l l' : List ByteArray} {F G : Nat → Prop}
theorem Both.step (h : Both w0 D R w l F G) (hB : Below w.heap.size w w') : Both w0 D R w' l F G := ⟨h.df.step hB, h.rf.step hB, h.apart, h.nodup⟩
theorem Both.dict {k : Nat} (h : Both w0 D R w l F G) (ht : Turn F w w') (hd : DF w0 (fun j => F j ∨ (w.heap.size ≤ j ∧ j < k)) D w' l) : Both w0 D R w' l (fun j => F j ∨ (w.heap.size ≤ j ∧ j < k)) G :=
  ⟨hd, h.rf.turn ht (fun k hk => ⟨(h.df.sub k hk).1, h.apart k hk⟩), fun j hj hg => by
    rcases hj with hj | hj
    · exact h.apart j hj hg
    · have := (h.rf.sub j hg).2; omega, h.nodup⟩
end
/-- what an operation's cells are -/
def opC (k n : Int) (t u : ByteArray) : Array Value := #[.int .i64 k, .int .i64 n, .string t, .string u]
def six (k : Int) : Int := Int.tmod k 6
set_option maxRecDepth 100000 in
set_option maxHeartbeats 16000000 in
theorem does18_put (w0 w : World) (D R : Nat) (l : List ByteArray) (F G : Nat → Prop) (h : Both w0 D R w l F G) (hl : l.length < 4096) (k n : Int) (t u : ByteArray) (ht : t.size ≤ maxLen) (hk : Int.tmod k 6 ≠ 3 ∧ Int.tmod k 6 ≠ -3 ∧ Int.tmod k 6 ≠ 4 ∧ Int.tmod k 6 ≠ -4 ∧ Int.tmod k 6 ≠ 5 ∧ Int.tmod k 6 ≠ -5) (hk2 : -9223372036854775808 ≤ k ∧ k ≤ 9223372036854775807) :
    Calls Try.prog 18 #[ptrV D, ptrV R, .agg (opC k n t u)] w fun e w' => e = .returned (.bool true) ∧ ∃ F' G', Both w0 D R w' (putT l t) F' G' := by
  obtain ⟨h1, h2, h3, h4, h5, h6⟩ := hk
  obtain ⟨m, hm⟩ : ∃ m, m = Int.tmod k 6 := ⟨_, rfl⟩
  have HH := Lib.hid h
  have hb := Blk.new w 52 (opC k n t u)
  have HB := Lib.hid (h.step (Below.al (Below.refl w.heap.size w) (Obj.cells (opC k n t u) 52)))
  have HK := Lib.hid hb
  have c0 := Blk.cell hb 0
  have c2 := Blk.cell hb 2
  unfold ptrV opC at *
  clear h hb
  go_enter Try.func18, Try.ntmps18
  go_wp2_with fail
  generalize w.alloc (Obj.cells #[Value.int IntKind.i64 k, Value.int IntKind.i64 n, Value.string t, Value.string u] 52) = w1 at *
  have HP := Lib.hid (HB.out.df.put t ht hl)
  unfold ptrV at HP
  refine HP.out.mono ?_
  rintro e w2 ⟨k2, rfl, ht2, hk22, hd2⟩
  have hr2 := HB.out.rf.turn ht2 (fun k hk => ⟨(HB.out.df.sub k hk).1, HB.out.apart k hk⟩)
  have hbk := HK.out.turn ht2 (fun hF => by have := (HH.out.df.sub _ hF).2; omega)
  have c2 : w2.cell? ⟨w.heap.size, 2, none⟩ = some (.string t) := Blk.cell hbk 2
  have HR := Lib.hid (rput31 hr2 t ht hl)
  have H2 := Lib.hid (And.intro hd2 (And.intro hr2 hk22))
  unfold ptrV at HR
  clear hd2 hr2 ht2 hk22 HP hbk c0
  go_wp2_with fail
  refine HR.out.mono ?_
  rintro e w3 ⟨k3, rfl, ht3, hk33, hr3⟩
  have H3 := Lib.hid (And.intro (H2.out.1.turn ht3 (fun g hg => ⟨(H2.out.2.1.sub g hg).1, fun hF => by
    rcases hF with hF | hF
    · exact HB.out.apart g hF hg
    · have := (HB.out.rf.sub g hg).2; omega⟩)) (And.intro hr3 (show ∀ g, (F g ∨ (w1.heap.size ≤ g ∧ g < k2)) → ¬ (G g ∨ (w2.heap.size ≤ g ∧ g < k3)) from fun g hg hG => by
    have hg2 := (H2.out.1.sub g hg).2
    rcases hG with hG | hG
    · rcases hg with hg | hg
      · exact HB.out.apart g hg hG
      · have := (HB.out.rf.sub g hG).2; omega
    · omega)))
  clear ht3 hk33 hr3 HR
  go_wp2_with fail
  go_ret
  exact ⟨by simp, _, _, H3.out.1, H3.out.2.1, H3.out.2.2, putT_nodup HH.out.nodup⟩
set_option maxRecDepth 100000 in
set_option maxHeartbeats 16000000 in
theorem does18_text (w0 w : World) (D R : Nat) (l : List ByteArray) (F G : Nat → Prop) (h : Both w0 D R w l F G) (hl : l.length < 4096) (k n : Int) (t u : ByteArray) (hn : -9223372036854775808 ≤ n ∧ n ≤ 9223372036854775807) (hk : Int.tmod k 6 = 4 ∨ Int.tmod k 6 = -4) :
    Calls Try.prog 18 #[ptrV D, ptrV R, .agg (opC k n t u)] w fun e w' => e = .returned (.bool true) ∧ ∃ F' G', Both w0 D R w' l F' G' := by
  have HH := Lib.hid h
  have hb := Blk.new w 52 (opC k n t u)
  have HB := Lib.hid (h.step (Below.al (Below.refl w.heap.size w) (Obj.cells (opC k n t u) 52)))
  have HK := Lib.hid hb
  have c0 := Blk.cell hb 0
  have c1 := Blk.cell hb 1
  obtain ⟨a, c, hq⟩ := HB.out.rf.q
  have HQ := Lib.hid hq
  have HT := Lib.hid (textAll HB.out.df.dic n hn)
  have HT2 := Lib.hid (rtext29 R l n hn _ hq)
  have HR := Lib.hid (HB.out.df.rankAll h.nodup n hn)
  unfold ptrV opC at *
  clear h hb hq
  rcases hk with hk | hk <;> (
    go_enter Try.func18, Try.ntmps18
    go_wp2_with fail
    generalize w.alloc (Obj.cells #[Value.int IntKind.i64 k, Value.int IntKind.i64 n, Value.string t, Value.string u] 52) = w1 at *
    refine HT.out.mono ?_
    rintro e w2 ⟨rfl, rfl⟩
    clear HT
    go_wp2_with fail
    refine HT2.out.mono ?_
    rintro e w2 ⟨rfl, rfl⟩
    clear HT2
    go_wp2_with fail
    refine HR.out.mono ?_
    rintro e w2 ⟨k2, rfl, ht2, hk22, hd2⟩
    have H2 := Lib.hid (HB.out.dict ht2 hd2)
    have hbk := HK.out.turn ht2 (fun hF => by have := (HH.out.df.sub _ hF).2; omega)
    have c1 : w2.cell? ⟨w.heap.size, 1, none⟩ = some (.int .i64 n) := Blk.cell hbk 1
    obtain ⟨a2, cc2, hq2⟩ := H2.out.rf.q
    have HR2 := Lib.hid (rrank30 R l n hn w2 hq2 H2.out.rf.size H2.out.rf.short)
    unfold ptrV at HR2
    clear HR hd2 ht2 hk22 hbk hq2 c0
    go_wp2_with fail
    refine HR2.out.mono ?_
    rintro e w3 ⟨rfl, hB3⟩
    have H3 := Lib.hid (H2.out.step hB3)
    clear HR2 hB3
    go_wp2_with fail
    go_ret
    exact ⟨by simp, _, _, H3.out⟩)
end Go.Proofs.Ytiihnepfcgmghaa
