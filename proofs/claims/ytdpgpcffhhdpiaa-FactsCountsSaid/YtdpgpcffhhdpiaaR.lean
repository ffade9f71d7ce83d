/- A store of facts: awake. -/
import Derived.Test.YtdpgpcffhhdpiaaQ
namespace Go.Proofs.Ytdpgpcffhhdpiaa
open Go.RowKit Go.Maps
set_option linter.unusedVariables false
set_option linter.unusedSimpArgs false

theorem owns_full2 {w : World} {b base : Nat} {T : TypeId} {l : List Value} {n : Nat} (h : Blk w b T l.toArray) (hn : l.length = n * 2) (hm : n ≤ maxLen) (hb : base ≤ b) : w.ownsRow base T 2 (.slice (some ⟨b, 0, none⟩) n n) n l :=
  ⟨by omega, .inr ⟨b, n, _, rfl, hb, h, Nat.le_refl _, hm, by simp [hn], List.take_of_length_le (by simp [hn])⟩⟩
/-- a fact of facts that can be read -/
theorem open_fact {A : Nat} {w : World} {v : Value} {l : List FactT} (h : RowF A w v l) {k : Nat} {f : FactT} (hk : l[k]? = some f) :
    ∃ b off c, v = .slice (some ⟨b, off, none⟩) l.length c ∧ b < A ∧ ∃ ad cd am cm, w.cell? ⟨b, off + k * 2, none⟩ = some (.slice ad f.dims.length cd) ∧ w.cell? ⟨b, off + (k * 2 + 1), none⟩ = some (.slice am f.meas.length cm) ∧
      f.dims.length ≤ cd ∧ cd ≤ 9223372036854775807 ∧ f.meas.length ≤ cm ∧ cm ≤ 9223372036854775807 ∧
      (0 < f.dims.length → ∃ bd od, ad = some ⟨bd, od, none⟩ ∧ bd < A ∧ ∀ j, j < f.dims.length → w.cell? ⟨bd, od + j, none⟩ = some (.string (f.dims.getD j ByteArray.empty))) ∧
      (0 < f.meas.length → ∃ bd od, am = some ⟨bd, od, none⟩ ∧ bd < A ∧ ∀ j, j < f.meas.length → w.cell? ⟨bd, od + j, none⟩ = some (.int .i64 (f.meas.getD j 0))) := by
  obtain ⟨ps, hps, ⟨a, c, rfl, -, -, hc⟩, hel⟩ := h
  have hkl := (List.getElem?_eq_some_iff.1 hk).1
  obtain ⟨b, off, rfl, hb, hcell⟩ := hc (by omega)
  obtain ⟨⟨vd, vm⟩, hget⟩ : ∃ p, ps[k]? = some p := ⟨_, List.getElem?_eq_getElem (by omega)⟩
  obtain ⟨hd, hm⟩ := hel k f _ hk hget
  obtain ⟨ad, cd, hvd, hd1, hd2, hcd⟩ := hd.open
  obtain ⟨am, cm, hvm, hm1, hm2, hcm⟩ := hm.open
  simp only at hvd hvm
  subst hvd hvm
  have x0 := hcell k _ hget 0 (by omega)
  have x1 := hcell k _ hget 1 (by omega)
  exact ⟨b, off, c, by rw [hps], hb, ad, cd, am, cm, by simpa using x0, by rw [← Nat.add_assoc]; simpa using x1, hd1, hd2, hm1, hm2, hcd, hcm⟩
def bx : ByteArray := ⟨#[120]⟩
def by' : ByteArray := ⟨#[121]⟩
def bp : ByteArray := ⟨#[112]⟩
def bq : ByteArray := ⟨#[113]⟩
def fa1 : FactT := ⟨[bx, bp], [1]⟩
def fa2 : FactT := ⟨[by', bp], [2]⟩
def fa3 : FactT := ⟨[bx, bq], [3]⟩
def fa4 : FactT := ⟨[bx], []⟩
theorem short_all (l : List FactT) (h : ∀ f ∈ l, ∀ s ∈ f.dims, s.size ≤ 64) : ∀ f ∈ l, shortF f := fun f hf s hs => by have := h f hf s hs; omega
theorem ck1 : checkE 2 1 (valsI (flat [])) [fa1, fa2] = 0 := by kernel_rfl
theorem ck2 : checkE 2 1 (valsI (flat [[fa1, fa2]])) [fa3] = 0 := by kernel_rfl
theorem ck3 : checkE 2 1 (valsI (flat [[fa1, fa2], [fa3]])) [fa4] = 26 := by kernel_rfl
theorem cv : (if 0 ≤ (1 : Int) ∧ (1 : Int) < (2 : Nat) then (valsI (flat [[fa1, fa2], [fa3]]) (1 : Int).toNat).length else 0) = 2 := by kernel_rfl
theorem cmt : (if 0 ≤ (0 : Int) ∧ (0 : Int) < (2 : Nat) then cntF (0 : Int).toNat bx (cutB [[fa1, fa2], [fa3]] 0 2) else 0) = 2 := by kernel_rfl
theorem cs12 : (cutB [[fa1, fa2], [fa3]] 1 2).length = 1 := by kernel_rfl
theorem cc01 : cutB [[fa1, fa2], [fa3]] 0 1 = [fa1, fa2] := by rfl
theorem owns_b1 {w w' : World} {base : Nat} {e : TypeId} {size n : Nat} {v : Value} {xs : List Value} (h : w.ownsRow base e size v n xs) (hB : Below w.heap.size w w') : w'.ownsRow base e size v n xs :=
  owns_turn h (Turn.of_below (F := fun _ => False) hB (fun k h1 h2 => by omega)) (fun g _ h => h)
theorem facts_two {A : Nat} {w1 w2 : World} {vd1 vm1 vd2 vm2 : Value} {f1 f2 : FactT} (h1 : w1.ownsRow A 9 1 vd1 f1.dims.length (f1.dims.map .string)) (h2 : w1.ownsRow A 2 1 vm1 f1.meas.length (f1.meas.map (.int .i64))) (hB : Below w1.heap.size w1 w2)
    (h3 : w2.ownsRow A 9 1 vd2 f2.dims.length (f2.dims.map .string)) (h4 : w2.ownsRow A 2 1 vm2 f2.meas.length (f2.meas.map (.int .i64))) (hA : A ≤ w2.heap.size) :
    FactsN A (w2.alloc (Obj.cells #[vd1, vm1, vd2, vm2] 41)) (.slice (some ⟨w2.heap.size, 0, none⟩) 2 2) [f1, f2] := by
  refine ⟨[(vd1, vm1), (vd2, vm2)], rfl, owns_full2 (Blk.new w2 41 #[vd1, vm1, vd2, vm2]) rfl (by decide) hA, fun k f p hf hp => ?_⟩
  match k, hf, hp with
  | 0, hf, hp => cases hf; cases hp; exact ⟨(owns_b1 h1 hB).alloc _, (owns_b1 h2 hB).alloc _⟩
  | 1, hf, hp => cases hf; cases hp; exact ⟨h3.alloc _, h4.alloc _⟩
theorem facts_one {A : Nat} {w2 : World} {vd2 vm2 : Value} {f2 : FactT} (h3 : w2.ownsRow A 9 1 vd2 f2.dims.length (f2.dims.map .string)) (h4 : w2.ownsRow A 2 1 vm2 f2.meas.length (f2.meas.map (.int .i64))) (hA : A ≤ w2.heap.size) :
    FactsN A (w2.alloc (Obj.cells #[vd2, vm2] 41)) (.slice (some ⟨w2.heap.size, 0, none⟩) 1 1) [f2] := by
  refine ⟨[(vd2, vm2)], rfl, owns_full2 (Blk.new w2 41 #[vd2, vm2]) rfl (by decide) hA, fun k f p hf hp => ?_⟩
  match k, hf, hp with
  | 0, hf, hp => cases hf; cases hp; exact ⟨h3.alloc _, h4.alloc _⟩
set_option maxRecDepth 100000 in
set_option maxHeartbeats 32000000 in
theorem awake8 (w : World) : Calls Try.prog 8 #[] w fun e w' => e = .returned (.bool true) ∧ Below w.heap.size w w' := by
  have HN := Lib.hid (newB 2 1 (by omega) (by omega) w)
  unfold intV ptrV at HN
  go_enter Try.func8, Try.ntmps8
  go_wp2_with fail
  refine HN.out.mono ?_
  rintro e w1 ⟨rfl, hB1, hA1⟩
  have HB1 := Lib.hid hB1
  have HA1 := Lib.hid hA1
  clear hB1 hA1 HN
  have HX := Lib.hid (new9_bad w1)
  go_wp2_with fail
  refine HX.out.mono ?_
  rintro e w2 ⟨rfl, rfl⟩
  have HF1 := Lib.hid (fact22 bx bp 1 w1)
  have HF1' := HF1
  unfold bx bp at HF1'
  clear HX HF1
  go_wp2_with fail
  refine HF1'.out.mono ?_
  rintro e w2 ⟨vd1, vm1, rfl, hB2, hd1, hm1⟩
  have H1 := Lib.hid (And.intro hB2 (And.intro hd1 hm1))
  obtain ⟨ad1, cd1, rfl⟩ := owns_form hd1
  obtain ⟨am1, cm1, rfl⟩ := owns_form hm1
  have HF2 := Lib.hid (fact22 by' bp 2 w2)
  unfold by' bp at HF2
  clear hB2 hd1 hm1 HF1'
  go_wp2_with fail
  refine HF2.out.mono ?_
  rintro e w3 ⟨vd2, vm2, rfl, hB3, hd2, hm2⟩
  have H2 := Lib.hid (And.intro hB3 (And.intro hd2 hm2))
  obtain ⟨ad2, cd2, rfl⟩ := owns_form hd2
  obtain ⟨am2, cm2, rfl⟩ := owns_form hm2
  clear hB3 hd2 hm2 HF2
  go_wp2_with fail
  have hFN : FactsN w1.heap.size (w3.alloc (Obj.cells #[.slice ad1 2 cd1, .slice am1 1 cm1, .slice ad2 2 cd2, .slice am2 1 cm2] 41)) (.slice (some ⟨w3.heap.size, 0, none⟩) 2 2) [fa1, fa2] :=
    facts_two (f1 := fa1) (f2 := fa2) H1.out.2.1 H1.out.2.2 H2.out.1 (owns_lower H2.out.2.1 H1.out.1.size) (owns_lower H2.out.2.2 H1.out.1.size) (Nat.le_trans H1.out.1.size H2.out.1.size)
  have hB4 : Below w1.heap.size w1 (w3.alloc (Obj.cells #[.slice ad1 2 cd1, .slice am1 1 cm1, .slice ad2 2 cd2, .slice am2 1 cm2] 41)) := Below.al (Below.call H1.out.1 H2.out.1) _
  have HW4 := Lib.hid (And.intro hFN hB4)
  clear hFN hB4
  generalize w3.alloc (Obj.cells #[.slice ad1 2 cd1, .slice am1 1 cm1, .slice ad2 2 cd2, .slice am2 1 cm2] 41) = w4 at *
  have HAP := Lib.hid (appendB (HA1.out.below HW4.out.2) (.slice (some ⟨w3.heap.size, 0, none⟩) 2 2) [fa1, fa2] (HW4.out.1.rowK (fun k hk _ => hk.2)) (short_all _ (by decide)) (fun k hk => Nat.lt_of_lt_of_le hk.2 HW4.out.2.size) (by decide))
  rw [ck1] at HAP
  unfold intV ptrV at HAP
  refine HAP.out.mono ?_
  rintro e w5 hh
  rcases hh with ⟨h0, -⟩ | ⟨-, rfl, hT5, hA5⟩
  · exact absurd rfl h0
  have HA5 := Lib.hid (And.intro hT5 hA5)
  clear hT5 hA5 HAP
  have HF3 := Lib.hid (fact22 bx bq 3 w5)
  unfold bx bq at HF3
  go_wp2_with fail
  refine HF3.out.mono ?_
  rintro e w6 ⟨vd3, vm3, rfl, hB6, hd3, hm3⟩
  have H3 := Lib.hid (And.intro hB6 (And.intro hd3 hm3))
  obtain ⟨ad3, cd3, rfl⟩ := owns_form hd3
  obtain ⟨am3, cm3, rfl⟩ := owns_form hm3
  clear hB6 hd3 hm3 HF3
  go_wp2_with fail
  have hFN : FactsN w5.heap.size (w6.alloc (Obj.cells #[.slice ad3 2 cd3, .slice am3 1 cm3] 41)) (.slice (some ⟨w6.heap.size, 0, none⟩) 1 1) [fa3] :=
    facts_one (f2 := fa3) H3.out.2.1 H3.out.2.2 H3.out.1.size
  have hB7 : Below w5.heap.size w5 (w6.alloc (Obj.cells #[.slice ad3 2 cd3, .slice am3 1 cm3] 41)) := Below.al H3.out.1 _
  have HW7 := Lib.hid (And.intro hFN hB7)
  clear hFN hB7
  generalize w6.alloc (Obj.cells #[.slice ad3 2 cd3, .slice am3 1 cm3] 41) = w7 at *
  have hF5 : ∀ k, ((w.heap.size ≤ k ∧ k < w1.heap.size) ∨ (w4.heap.size ≤ k ∧ k < w5.heap.size)) → k < w5.heap.size := fun k hk => by
    have h1 := HW4.out.2.size
    have h2 := HA5.out.1.size
    omega
  have HF5 := Lib.hid hF5
  have HAP := Lib.hid (appendB (HA5.out.2.below HW7.out.2) (.slice (some ⟨w6.heap.size, 0, none⟩) 1 1) [fa3] (HW7.out.1.rowK (fun k hk _ => hF5 k hk)) (short_all _ (by decide)) (fun k hk => Nat.lt_of_lt_of_le (hF5 k hk) HW7.out.2.size) (by decide))
  rw [show checkE 2 1 (valsI (flat ([] ++ [[fa1, fa2]]))) [fa3] = 0 from ck2] at HAP
  unfold intV ptrV at HAP
  clear hF5
  refine HAP.out.mono ?_
  rintro e w8 hh
  rcases hh with ⟨h0, -⟩ | ⟨-, rfl, hT8, hA8⟩
  · exact absurd rfl h0
  have HA8 := Lib.hid (And.intro hT8 hA8)
  clear hT8 hA8 HAP
  go_wp2_with fail
  have hFN : FactsN w8.heap.size ((w8.alloc (Obj.cells #[.string bx] 9)).alloc (Obj.cells #[.slice (some ⟨w8.heap.size, 0, none⟩) 1 1, .slice none 0 0] 41)) (.slice (some ⟨w8.heap.size + 1, 0, none⟩) 1 1) [fa4] := by
    have := facts_one (A := w8.heap.size) (w2 := w8.alloc (Obj.cells #[.string bx] 9)) (f2 := fa4) (vd2 := .slice (some ⟨w8.heap.size, 0, none⟩) 1 1) (vm2 := .slice none 0 0) (owns_full (Blk.new w8 9 [Value.string bx].toArray) rfl (by decide) (Nat.le_refl _)) (World.ownsRow_nil _ _ _ _) (by rw [alloc_size]; omega)
    rw [alloc_size] at this
    exact this
  have hB9 : Below w8.heap.size w8 ((w8.alloc (Obj.cells #[.string bx] 9)).alloc (Obj.cells #[.slice (some ⟨w8.heap.size, 0, none⟩) 1 1, .slice none 0 0] 41)) := Below.al (Below.al (Below.refl _ _) _) _
  have HW9 := Lib.hid (And.intro hFN hB9)
  unfold bx at HW9
  clear hFN hB9
  have hA8' : BAt (fun k => k < w8.heap.size) w.heap.size w8 2 1 [[fa1, fa2], [fa3]] := HA8.out.2.mono (fun k hk => by
    have h1 := HW7.out.2.size
    have h2 := HA8.out.1.size
    rcases hk with h | h
    · have := HF5.out k h; omega
    · exact h.2)
  have HA8' := Lib.hid hA8'
  clear hA8'
  generalize (w8.alloc (Obj.cells #[.string { data := #[120] }] 9)).alloc (Obj.cells #[.slice (some ⟨w8.heap.size, 0, none⟩) 1 1, .slice none 0 0] 41) = w9 at *
  have HAP := Lib.hid (appendB (HA8'.out.below HW9.out.2) (.slice (some ⟨w8.heap.size + 1, 0, none⟩) 1 1) [fa4] (HW9.out.1.rowK (fun k hk _ => hk)) (short_all _ (by decide)) (fun k hk => Nat.lt_of_lt_of_le hk HW9.out.2.size) (by decide))
  rw [ck3] at HAP
  unfold intV ptrV at HAP
  refine HAP.out.mono ?_
  rintro e w10 hh
  rcases hh with ⟨-, rfl, hB10⟩ | ⟨h0, -⟩
  rotate_left
  · exact absurd h0 (by decide)
  have HA10 := Lib.hid ((HA8'.out.below HW9.out.2).below hB10)
  have HB10 := Lib.hid (Below.call HW9.out.2 hB10)
  clear hB10 HAP
  have HSC := Lib.hid (scanB HA10.out 0 1 (by unfold allInt; omega) (by unfold allInt; omega))
  rw [cc01] at HSC
  unfold ptrV at HSC
  go_wp2_with fail
  refine HSC.out.mono ?_
  rintro e w11 ⟨v, rfl, hB11, hF11⟩
  obtain ⟨b, off, c, rfl, hb, ad, cd, am, cm, k0, k1, h1, h2, h3, h4, hD, hM⟩ := open_fact hF11.rowF (k := 1) (f := fa2) rfl
  obtain ⟨bd, od, rfl, hbd, hcd⟩ := hD (by decide)
  obtain ⟨bm, om, rfl, hbm, hcm⟩ := hM (by decide)
  have hcd0 := hcd 0 (by decide)
  have hcm0 := hcm 0 (by decide)
  rw [show fa2.dims.getD 0 ByteArray.empty = ⟨#[121]⟩ from rfl] at hcd0
  rw [show fa2.meas.getD 0 0 = 2 from rfl] at hcm0
  rw [show [fa1, fa2].length = 2 from rfl] at *
  rw [show fa2.dims.length = 2 from rfl] at *
  rw [show fa2.meas.length = 1 from rfl] at *
  rw [Nat.add_zero] at hcd0 hcm0
  have HC := Lib.hid (And.intro k0 (And.intro k1 (And.intro hcd0 hcm0)))
  have HB11 := Lib.hid hB11
  have HA11 := Lib.hid (HA10.out.below hB11)
  have HZ := Lib.hid (And.intro hb (And.intro hbd hbm))
  clear hF11 k0 k1 h1 h2 h3 h4 hD hM hcd hcm hcd0 hcm0 hB11 HSC hb hbd hbm
  have HQ1 := Lib.hid (seqB HA11.out)
  unfold intV ptrV at HQ1
  go_wp2_with fail
  refine HQ1.out.mono ?_
  rintro e w12 ⟨rfl, rfl⟩
  have HQ2 := Lib.hid (lenB HA11.out)
  rw [show (flat [[fa1, fa2], [fa3]]).length = 3 from rfl] at HQ2
  unfold intV ptrV at HQ2
  clear HQ1
  go_wp2_with fail
  refine HQ2.out.mono ?_
  rintro e w12 ⟨rfl, n, rfl⟩
  have hk0 := HC.out.1
  have hk1 := HC.out.2.1
  have hk2 := HC.out.2.2.1
  have hk3 := HC.out.2.2.2
  clear HQ2
  go_wp2_with fail
  clear hk0 hk1 hk2 hk3
  have HA12 := Lib.hid (HA11.out.below (Below.drewN (Below.refl _ _) n))
  have HV := Lib.hid (valuesB HA12.out 1 (by unfold allInt; omega))
  rw [cv] at HV
  unfold intV ptrV at HV
  refine HV.out.mono ?_
  rintro e w13 ⟨rfl, hB13⟩
  have HA13 := Lib.hid (HA12.out.below hB13)
  have HB13 := Lib.hid hB13
  clear hB13 HV
  have HV := Lib.hid (matchB HA13.out 0 (by unfold allInt; omega) bx (by decide) 2 (by unfold allInt; omega))
  rw [cmt] at HV
  unfold intV ptrV bx at HV
  go_wp2_with fail
  refine HV.out.mono ?_
  rintro e w14 ⟨rfl, hB14⟩
  have HA14 := Lib.hid (HA13.out.below hB14)
  have HB14 := Lib.hid hB14
  clear hB14 HV
  have HV := Lib.hid (segsB HA14.out (by decide))
  rw [show ((flat [[fa1, fa2], [fa3]]).length + 255) / 256 = 1 from rfl] at HV
  unfold intV ptrV at HV
  go_wp2_with fail
  refine HV.out.mono ?_
  rintro e w15 ⟨rfl, n2, rfl⟩
  have HA15 := Lib.hid (HA14.out.below (Below.drewN (Below.refl _ _) n2))
  clear HV
  have HV := Lib.hid (sizeB HA15.out 1 2 (by unfold allInt; omega) (by unfold allInt; omega))
  rw [cs12] at HV
  unfold intV ptrV at HV
  go_wp2_with fail
  refine HV.out.mono ?_
  rintro e w16 ⟨rfl, hB16⟩
  have HB16 := Lib.hid hB16
  clear hB16 HV
  go_wp2_with fail
  go_ret
  refine ⟨rfl, ?_⟩
  have z1 := HB1.out
  have T5 : Below w.heap.size w w5 := (Below.call z1 HW4.out.2).trans (HA5.out.1.below (Nat.le_trans z1.size HW4.out.2.size) (fun k hk hF => by omega))
  have T8 : Below w.heap.size w w8 := (Below.call T5 HW7.out.2).trans (HA8.out.1.below (Nat.le_trans T5.size HW7.out.2.size) (fun k hk hF => by
    have h1 := HW4.out.2.size
    have h2 := z1.size
    omega))
  exact Below.call (Below.call (Below.call (Below.call (Below.drewN (Below.call (Below.call T8 HB10.out) HB11.out) n) HB13.out) HB14.out) (Below.drewN (Below.refl _ _) n2)) HB16.out
end Go.Proofs.Ytdpgpcffhhdpiaa
