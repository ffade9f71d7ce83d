/- What one operation does: what is asked of both. -/
import Derived.Test.YtiihnepfcgmghaaZD
namespace Go.Proofs.Ytiihnepfcgmghaa
open Go.RowKit Go.Maps
set_option linter.unusedVariables false
set_option linter.unusedSimpArgs false
theorem owns_full {w : World} {b base : Nat} {T : TypeId} {l : List Value} {n : Nat} (h : Blk w b T l.toArray) (hn : l.length = n) (hm : n ≤ maxLen) (hb : base ≤ b) : w.ownsRow base T 1 (.slice (some ⟨b, 0, none⟩) n n) n l := by
  subst hn
  exact ⟨by omega, .inr ⟨b, l.length, _, rfl, hb, h, Nat.le_refl _, hm, by simp, by rw [Nat.mul_one]; exact List.take_of_length_le (by simp)⟩⟩
theorem rowI_blk {w : World} {b n : Nat} {s : List Nat} (h : Blk w b 3 (ints (s.map Int.ofNat))) (hn : s.length = n) (hm : n ≤ maxLen) : RowI w.heap.size w (.slice (some ⟨b, 0, none⟩) n n) (s.map Int.ofNat) := by
  have h2 : Blk w b 3 (natV s).toArray := by rw [natV_ints]; exact h
  exact rowI_nat (Row.of_owns (owns_full (base := 0) h2 (by unfold natV; rw [List.length_map]; exact hn) hm (Nat.zero_le _))) hn.symm
/-- a row that may be overwritten -/
def OutR (w0 : World) (F G : Nat → Prop) (w : World) (a : Option Addr) (n : Nat) : Prop :=
  n = 0 ∨ ∃ g cur, a = some ⟨g, 0, none⟩ ∧ Blk w g 3 cur ∧ n ≤ cur.size ∧ (w0.heap.size ≤ g ∧ ¬ F g ∧ ¬ G g)
section
variable {w0 w w' : World} {F G : Nat → Prop} {a : Option Addr} {n c : Nat} {s : List Nat}
theorem OutR.of (h : RowO w0 F w (.slice a s.length c) s) (hG : ∀ g, (Value.slice a s.length c).ownBlock = some g → ¬ G g) : OutR w0 F G w a s.length := by
  rcases h.owns.2 with ⟨h1, h2⟩ | ⟨g, cap, cur, hv, hb, hh, h3, h4, h5, h6⟩
  · exact .inl h2
  · injection hv with e1 e2 e3
    subst e1 e3
    refine .inr ⟨g, cur, rfl, hh, ?_, hb, h.out g rfl, hG g rfl⟩
    have := congrArg List.length h6
    have h7 := h.owns.1
    rw [List.length_take] at this
    simp only [Array.length_toList] at this
    omega
theorem OutR.step (h : OutR w0 F G w a n) (hB : Below w.heap.size w w') : OutR w0 F G w' a n := by
  rcases h with h | ⟨g, cur, e, hb, hn, ho⟩
  · exact .inl h
  · exact .inr ⟨g, cur, e, hb.below hB hb.lt, hn, ho⟩
theorem OutR.set (h : OutR w0 F G w a n) (g j : Nat) (v : Value) : OutR w0 F G (w.setCell ⟨g, j, none⟩ v) a n := by
  rcases h with h | ⟨g2, cur, e, hb, hn, ho⟩
  · exact .inl h
  · by_cases hg : g = g2
    · subst hg
      exact .inr ⟨g, cur.setIfInBounds j v, e, Blk.set hb j v, by simpa using hn, ho⟩
    · exact .inr ⟨g2, cur, e, Blk.other hb (p := ⟨g, j, none⟩) hg v, hn, ho⟩
theorem Both.set {D R : Nat} {l : List ByteArray} (h : Both w0 D R w l F G) {g : Nat} (hg : w0.heap.size ≤ g ∧ ¬ F g ∧ ¬ G g) (j : Nat) (v : Value) : Both w0 D R (w.setCell ⟨g, j, none⟩ v) l F G :=
  h.turn (H := fun k => k = g) ((Turn.refl (fun k => k = g) w).setCell (p := ⟨g, j, none⟩) rfl v) (fun k hk => by subst hk; exact hg)
end
set_option maxRecDepth 100000 in
set_option maxHeartbeats 16000000 in
theorem does18_find (w0 w : World) (D R : Nat) (l : List ByteArray) (F G : Nat → Prop) (h : Both w0 D R w l F G) (hl : l.length < 4096) (k n : Int) (t u : ByteArray) (ht : t.size ≤ maxLen) (hu : u.size ≤ maxLen) (hk : Int.tmod k 6 = 3 ∨ Int.tmod k 6 = -3) :
    Calls Try.prog 18 #[ptrV D, ptrV R, .agg (opC k n t u)] w fun e w' => e = .returned (.bool true) ∧ ∃ F' G', Both w0 D R w' l F' G' := by
  have HH := Lib.hid h
  have hb := Blk.new w 52 (opC k n t u)
  have HB := Lib.hid (h.step (Below.al (Below.refl w.heap.size w) (Obj.cells (opC k n t u) 52)))
  have HK := Lib.hid hb
  have c0 := Blk.cell hb 0
  have c2 := Blk.cell hb 2
  have HF := Lib.hid (findD HB.out.df.dic t ht)
  obtain ⟨a, c, hq⟩ := HB.out.rf.q
  have HF2 := Lib.hid (rfind27 R l t _ hq (by omega))
  have HTU := Lib.hid (And.intro ht hu)
  have hl2 : ∀ s, IsSort l s → s.length ≤ 4096 := fun s hs => by have := hs.len; omega
  have HL2 := Lib.hid hl2
  unfold ptrV opC findV at *
  generalize (idx l t).getD 0 = fi at *
  generalize (idx l t).isSome = fo at *
  clear h hb hq ht hu hl2
  rcases hk with hk | hk <;> (
    go_enter Try.func18, Try.ntmps18
    go_wp2_with fail
    generalize w.alloc (Obj.cells #[Value.int IntKind.i64 k, Value.int IntKind.i64 n, Value.string t, Value.string u] 52) = w1 at *
    refine HF.out.mono ?_
    rintro e w2 ⟨rfl, rfl⟩
    clear HF
    go_wp2_with fail
    refine HF2.out.mono ?_
    rintro e w2 ⟨rfl, hB2⟩
    have hbk := HK.out.below hB2 HK.out.lt
    have c2 : w2.cell? ⟨w.heap.size, 2, none⟩ = some (.string t) := Blk.cell hbk 2
    have c3 : w2.cell? ⟨w.heap.size, 3, none⟩ = some (.string u) := Blk.cell hbk 3
    have h12 := hB2.size
    have H2 := Lib.hid (And.intro (HB.out.step hB2) hbk)
    have HX := Lib.hid (H2.out.1.df.between t u)
    unfold ptrV at HX
    clear hB2 hbk HF2 c0
    go_wp2_with fail
    refine HX.out.mono ?_
    rintro e w3 ⟨v1, s, k3, rfl, hs, ht3, hk3, hd3, ho3⟩
    have HS := Lib.hid hs
    have h23 := ht3.size
    have H3 := Lib.hid (And.intro (H2.out.1.dict ht3 hd3) (And.intro (RowO.new H2.out.1.df hk3 ho3) (And.intro (H2.out.2.turn ht3 (fun hF => by have := (HH.out.df.sub _ hF).2; omega)) (show ∀ g, v1.ownBlock = some g → w2.heap.size ≤ g from fun g hg => by have := (ho3.lt g hg).1; omega))))
    obtain ⟨a1, c1, rfl⟩ := owns_form ho3
    have HX := Lib.hid hd3.sorted
    unfold ptrV at HX
    clear hs ht3 hd3 ho3 c2 c3
    go_wp2_with fail
    refine HX.out.mono ?_
    rintro e w4 ⟨v2, s', k4, rfl, hs, ht4, hk4, hd4, ho4⟩
    have es := sort_one HH.out.nodup HS.out hs
    subst es
    rw [← hs.len] at ho4
    have h34 := ht4.size
    have H4 := Lib.hid (And.intro (H3.out.1.dict ht4 hd4) (And.intro (H3.out.2.1.call (k := k4) ht4) (And.intro (RowO.new H3.out.1.df hk4 ho4) (And.intro (H3.out.2.2.1.turn ht4 (fun hF => by
      have h5 := H2.out.2.lt
      have h6 := HK.out.lt
      rcases hF with hF | hF
      · have := (HH.out.df.sub _ hF).2; omega
      · omega)) (show ∀ g, v2.ownBlock = some g → w3.heap.size ≤ g from fun g hg => by have := (ho4.lt g hg).1; omega)))))
    obtain ⟨a2, cc2, rfl⟩ := owns_form ho4
    have c2 : w4.cell? ⟨w.heap.size, 2, none⟩ = some (.string t) := Blk.cell H4.out.2.2.2.1 2
    have c3 : w4.cell? ⟨w.heap.size, 3, none⟩ = some (.string u) := Blk.cell H4.out.2.2.2.1 3
    obtain ⟨qa, qc, hq⟩ := H4.out.1.rf.q
    have HX := Lib.hid (rbetween28 R l s t u HTU.out.1 HTU.out.2 w4 hq H4.out.1.rf.size H4.out.1.rf.short HH.out.nodup HS.out)
    unfold ptrV at HX
    clear hs ht4 hd4 ho4 hq
    go_wp2_with fail
    refine HX.out.mono ?_
    rintro e w5 ⟨v3, rfl, ho5, hB5⟩
    have H5 := Lib.hid (And.intro (H4.out.1.step hB5) (And.intro (H4.out.2.1.below hB5) (H4.out.2.2.1.below hB5)))
    have HX := Lib.hid (same14 _ _ _ _ _ w5 H5.out.2.1.row (rowI_nat (Row.of_owns ho5) rfl))
    obtain ⟨a3, cc3, rfl⟩ := owns_form ho5
    clear ho5 hB5 c2 c3
    go_wp2_with fail
    refine HX.out.mono ?_
    rintro e w6 ⟨rfl, hB6⟩
    have H6 := Lib.hid (And.intro (H5.out.1.step hB6) (And.intro (H5.out.2.1.below hB6) (H5.out.2.2.below hB6)))
    obtain ⟨qa2, qc2, hq⟩ := H6.out.1.rf.q
    have HX := Lib.hid (rsorted19 R l s w6 hq H6.out.1.rf.size H6.out.1.rf.short HH.out.nodup HS.out)
    unfold ptrV at HX
    clear hB6 hq
    go_wp2_with fail
    refine HX.out.mono ?_
    rintro e w7 ⟨rfl, hb7, hB7⟩
    have hsl : s.length ≤ maxLen := Nat.le_trans (HL2.out s HS.out) (by decide)
    have H7 := Lib.hid (And.intro (H6.out.1.step hB7) (And.intro (H6.out.2.1.below hB7) (H6.out.2.2.below hB7)))
    have HX := Lib.hid (same14 _ _ _ _ _ w7 H7.out.2.2.row (rowI_blk hb7 HS.out.len (HS.out.len ▸ hsl)))
    clear hb7 hB7 hsl
    go_wp2_with fail
    refine HX.out.mono ?_
    rintro e w8 ⟨rfl, hB8⟩
    have H8 := Lib.hid (And.intro (H7.out.1.step hB8) (And.intro (OutR.of (H7.out.2.1.below hB8) (fun g hg hG => by have := (HB.out.rf.sub g hG).2; have := H3.out.2.2.2 g hg; omega)) (OutR.of (H7.out.2.2.below hB8) (fun g hg hG => by have := (HB.out.rf.sub g hG).2; have := H4.out.2.2.2.2 g hg; omega))))
    have hn1 := Nat.le_trans (betw_len l s t u) (HL2.out s HS.out)
    have hn2 := HL2.out s HS.out
    clear hB8
    generalize (betw l s t u).length = n1 at *
    generalize s.length = n2 at *
    go_wp2_with fail
    go_loopw [15] (fun x wr => ∃ j : Nat, j ≤ n1 ∧ x = .int .i64 j ∧ Both w0 D R wr l _ G ∧ OutR w0 _ G wr a1 n1 ∧ OutR w0 _ G wr a2 n2) (fun x _ => n1 - (intOf x).toNat)
    case atStart => exact ⟨0, by omega, rfl, H8.out⟩
    case round =>
      obtain ⟨j, hj, rfl, hI⟩ := hrel
      have HI := Lib.hid hI
      clear hI
      by_cases hlt : j < n1
      · have hd1 : decide ((j : Int) < n1) = true := decide_eq_true (by omega)
        rcases HI.out.2.1 with h0 | ⟨g, cur, ea, hbk, hsz, hout⟩
        · omega
        subst ea
        have f0 := Blk.free hbk j
        have g0 := Blk.cell hbk j
        have hjc : j < cur.size := by omega
        rw [Array.getElem?_eq_getElem hjc] at g0
        generalize cur[j] = y at g0
        have HO := Lib.hid hout
        clear hbk hsz hout hjc
        go_wp2_with fail
        go_roundw
        case rel => exact ⟨j + 1, by omega, by go_num, HI.out.1.set HO.out j _, HI.out.2.1.set g j _, HI.out.2.2.set g j _⟩
        case measure => simp [intOf]; omega
      · have hd1 : decide ((j : Int) < n1) = false := decide_eq_false (by omega)
        obtain ⟨wq, hwq⟩ : ∃ wq, wq = wr := ⟨_, rfl⟩
        subst hwq
        go_wp2_with fail
        go_loopw [16] (fun x wr => ∃ j : Nat, j ≤ n2 ∧ x = .int .i64 j ∧ Both w0 D R wr l _ G ∧ OutR w0 _ G wr a2 n2) (fun x _ => n2 - (intOf x).toNat)
        case atStart => exact ⟨0, by omega, rfl, HI.out.1, HI.out.2.2⟩
        case round =>
          obtain ⟨i, hi, rfl, hI⟩ := hrel
          have HI2 := Lib.hid hI
          clear hI
          by_cases hlt : i < n2
          · have hd1 : decide ((i : Int) < n2) = true := decide_eq_true (by omega)
            rcases HI2.out.2 with h0 | ⟨g, cur, ea, hbk, hsz, hout⟩
            · omega
            subst ea
            have f0 := Blk.free hbk i
            have g0 := Blk.cell hbk i
            have hjc : i < cur.size := by omega
            rw [Array.getElem?_eq_getElem hjc] at g0
            generalize cur[i] = y at g0
            have HO := Lib.hid hout
            clear hbk hsz hout hjc
            go_wp2_with fail
            go_roundw
            case rel => exact ⟨i + 1, by omega, by go_num, HI2.out.1.set HO.out i _, HI2.out.2.set g i _⟩
            case measure => simp [intOf]; omega
          · have hd1 : decide ((i : Int) < n2) = false := decide_eq_false (by omega)
            go_wp2_with fail
            go_ret
            exact ⟨by simp, _, _, HI2.out.1⟩)
end Go.Proofs.Ytiihnepfcgmghaa
