/- What one operation does: the copy. -/
import Derived.Test.YtiihnepfcgmghaaZC
namespace Go.Proofs.Ytiihnepfcgmghaa
open Go.RowKit Go.Maps
set_option linter.unusedVariables false
set_option linter.unusedSimpArgs false
theorem Both.turn {w0 w w' : World} {D R : Nat} {l : List ByteArray} {F G H : Nat → Prop} (h : Both w0 D R w l F G) (ht : Turn H w w') (hH : ∀ k, H k → w0.heap.size ≤ k ∧ ¬ F k ∧ ¬ G k) : Both w0 D R w' l F G :=
  ⟨h.df.turn ht (fun k hk => ⟨(hH k hk).1, (hH k hk).2.1⟩), h.rf.turn ht (fun k hk => ⟨(hH k hk).1, (hH k hk).2.2⟩), h.apart, h.nodup⟩
/-- nothing of both lies so high -/
theorem Both.high {w0 w : World} {D R : Nat} {l : List ByteArray} {F G : Nat → Prop} (h : Both w0 D R w l F G) {k : Nat} (hk : w.heap.size ≤ k) : w0.heap.size ≤ k ∧ ¬ F k ∧ ¬ G k :=
  ⟨Nat.le_trans h.df.below.size hk, fun hF => by have := (h.df.sub k hF).2; omega, fun hG => by have := (h.rf.sub k hG).2; omega⟩
set_option maxRecDepth 100000 in
set_option maxHeartbeats 16000000 in
theorem does18_copy (w0 w : World) (D R : Nat) (l : List ByteArray) (F G : Nat → Prop) (h : Both w0 D R w l F G) (hl : l.length < 4096) (k n : Int) (t u : ByteArray) (hts : t.size + 6 ≤ maxLen) (hk : Int.tmod k 6 = 5 ∨ Int.tmod k 6 = -5) :
    Calls Try.prog 18 #[ptrV D, ptrV R, .agg (opC k n t u)] w fun e w' => e = .returned (.bool true) ∧ ∃ F' G', Both w0 D R w' l F' G' := by
  have HH := Lib.hid h
  have hb := Blk.new w 52 (opC k n t u)
  have HB := Lib.hid (h.step (Below.al (Below.refl w.heap.size w) (Obj.cells (opC k n t u) 52)))
  have HK := Lib.hid hb
  have c0 := Blk.cell hb 0
  have HC := Lib.hid HB.out.df.copy
  have e6 : (⟨#[111, 116, 104, 101, 114, 32]⟩ : ByteArray).size = 6 := rfl
  have hts2 := hts
  unfold maxLen at hts2
  have hadd := fun w : World => run_string_add_sum (P := Try.prog) w ⟨#[111, 116, 104, 101, 114, 32]⟩ t (by rw [e6]; omega)
  have HS := Lib.hid (show ((⟨#[111, 116, 104, 101, 114, 32]⟩ : ByteArray) ++ t).size ≤ maxLen by rw [ByteArray.size_append, e6]; omega)
  unfold ptrV opC at *
  clear h hb e6 hts hts2
  rcases hk with hk | hk <;> (
    go_enter Try.func18, Try.ntmps18
    go_wp2_with fail
    generalize w.alloc (Obj.cells #[Value.int IntKind.i64 k, Value.int IntKind.i64 n, Value.string t, Value.string u] 52) = w1 at *
    refine HC.out.mono ?_
    rintro e w2 ⟨C, rfl, hB2, hd2⟩
    have hbk := HK.out.below hB2 HK.out.lt
    have c2 : w2.cell? ⟨w.heap.size, 2, none⟩ = some (.string t) := Blk.cell hbk 2
    have h12 := hB2.size
    have H2 := Lib.hid (And.intro (HB.out.step hB2) (And.intro hd2 hB2.size))
    have HL1 := Lib.hid (lenD hd2.dic)
    have HL2 := Lib.hid (lenD H2.out.1.df.dic)
    have HP := Lib.hid (hd2.put _ HS.out hl)
    unfold ptrV at HL1 HL2 HP
    clear HC hB2 hd2 hbk c0
    go_wp2_with fail
    refine HL1.out.mono ?_
    rintro e w3 ⟨rfl, rfl⟩
    clear HL1
    go_wp2_with fail
    refine HL2.out.mono ?_
    rintro e w3 ⟨rfl, rfl⟩
    clear HL2
    go_wp2_with fail
    refine HP.out.mono ?_
    rintro e w3 ⟨k3, rfl, ht3, hk3, hd3⟩
    have h23 := ht3.size
    have H3 := Lib.hid (And.intro (H2.out.1.turn ht3 (fun k hk => HB.out.high hk.1)) (And.intro hd3 hk3))
    have HC := Lib.hid hd3.copy
    unfold ptrV at HC
    clear HP ht3 hk3 hd3 hadd c2
    go_wp2_with fail
    refine HC.out.mono ?_
    rintro e w4 ⟨E, rfl, hB4, hd4⟩
    have H4 := Lib.hid (And.intro (H3.out.1.step hB4) (And.intro (H3.out.2.1.step hB4) (And.intro hd4 hB4.size)))
    have HX := Lib.hid hd4.sorted
    unfold ptrV at HX
    clear HC hB4 hd4
    go_wp2_with fail
    refine HX.out.mono ?_
    rintro e w5 ⟨v1, s, k5, rfl, hs, ht5, hk5, hd5, ho5⟩
    have H5 := Lib.hid (And.intro (H4.out.1.turn ht5 (fun k hk => HB.out.high (by have := hk.1; omega))) (And.intro (H4.out.2.1.turn ht5 (fun k hk => ⟨Nat.le_trans H3.out.1.df.below.size hk.1, fun hF => by have := (H3.out.2.1.sub k hF).2; have := hk.1; omega⟩)) (And.intro hs ho5)))
    obtain ⟨a1, c1, rfl⟩ := owns_form ho5
    have HX := Lib.hid H5.out.2.1.sorted
    unfold ptrV at HX
    clear hs ht5 hd5 ho5
    go_wp2_with fail
    refine HX.out.mono ?_
    rintro e w6 ⟨v2, s', k6, rfl, hs, ht6, hk6, hd6, ho6⟩
    have es := sort_one (putT_nodup HH.out.nodup) H5.out.2.2.1 hs
    subst es
    have hk3' := H3.out.2.2
    have ho5 := owns_turn H5.out.2.2.2 ht6 (fun g hg hF => by
      have := (H5.out.2.2.2.lt g hg).1
      have := (H4.out.2.1.sub g hF).2
      omega)
    have H6 := Lib.hid (H5.out.1.turn ht6 (fun k hk => HB.out.high (by
      rcases hk with hk | hk
      · exact hk.1
      · have := hk.1; omega)))
    have HX := Lib.hid (same14 _ _ _ _ _ w6 (rowI_nat (Row.of_owns ho5) hs.len.symm) (rowI_nat (Row.of_owns ho6) hs.len.symm))
    obtain ⟨a2, c2, rfl⟩ := owns_form ho6
    clear hs ht6 hd6 ho6 ho5
    go_wp2_with fail
    refine HX.out.mono ?_
    rintro e w7 ⟨rfl, hB7⟩
    have H7 := Lib.hid (H6.out.step hB7)
    clear HX hB7
    go_wp2_with fail
    go_ret
    exact ⟨by simp, _, _, H7.out⟩)
end Go.Proofs.Ytiihnepfcgmghaa
