/- A store of facts: between, Size, Segments, dim, Values. -/
import Derived.Test.YtdpgpcffhhdpiaaJ
import Derived.BigRegion
namespace Go.Proofs.Ytdpgpcffhhdpiaa
open Go.RowKit Go.Maps
set_option linter.unusedVariables false
set_option linter.unusedSimpArgs false

/-- how many facts the batches up to one hold -/
def atN (ends : List Nat) (k : Nat) : Nat := if k = 0 then 0 else ends.getD (k - 1) 0
def clampE (n : Nat) (v : Int) : Nat := (min (max v 0) (n : Int)).toNat
def atE (ends : List Nat) (v : Int) : Nat := atN ends (clampE ends.length v)
theorem DictAt.below {G : Nat → Prop} {D : Nat} {w w' : World} {l : List ByteArray} (h : DictAt G D w l) (hB : Below w.heap.size w w') : DictAt G D w' l := by
  obtain ⟨⟨vt, vm, hb, ho, hf, hm⟩, hd, hz, hs⟩ := h
  refine ⟨⟨vt, vm, Blk.below hb hB hb.lt, ?_, hf, ?_⟩, hd, hz, hs⟩
  · refine ⟨ho.1, ?_⟩
    rcases ho.2 with h1 | ⟨g, cap, cur, hv, hg, hh, q⟩
    · exact .inl h1
    · exact .inr ⟨g, cap, cur, hv, hg, (hB.block g (Array.getElem?_eq_some_iff.1 hh).1).trans hh, q⟩
  · rcases hm with h1 | ⟨bm, h1, h2, h3⟩
    · exact .inl h1
    · exact .inr ⟨bm, h1, h2.block (hB.block bm h2.lt), h3⟩
def toE (ends : List Nat) (a b : Int) : Nat := max (atE ends a) (atE ends b)
section
variable {F : Nat → Prop} {B : Nat} {w : World} {d m ng : Nat} {L : Nat → List ByteArray} {okD okM : Nat → Nat → Prop} {T : Nat → Nat → ByteArray} {Y : Nat → Nat → Int} {ends : List Nat}
set_option maxRecDepth 100000 in
theorem clo34 (h : Core F B w d m L ng okD okM T Y ends) (x : Nat) (hx : Blk w x 24 #[ptrV B]) (v : Int) (hv : -9223372036854775808 ≤ v ∧ v ≤ 9223372036854775807) :
    Calls Try.prog 34 #[.int .i64 v, .pointer (some ⟨x, 0, none⟩)] w fun e w' => e = .returned (intV (atE ends v)) ∧ ∃ n, w' = w.drewN n := by
  obtain ⟨⟨vD, vS, vE, ds, gs, Fs⟩, h⟩ := h
  have hfew := h.few
  have hb := h.blk
  have ho := h.eO
  simp only at hb ho
  obtain ⟨hl, a, c, hv2, hcap, hmax, hc⟩ := Row.of_owns ho
  subst hv2
  have cx : w.cell? ⟨x, 0, none⟩ = some (.pointer (some ⟨B, 0, none⟩)) := Blk.cell hx 0
  have c3 : w.cell? ⟨B, 3, none⟩ = some (.slice a ends.length c) := Blk.cell hb 3
  obtain ⟨k, hk⟩ : ∃ k : Nat, k = clampE ends.length v := ⟨_, rfl⟩
  have hkI : min (max v 0) (ends.length : Int) = (k : Int) := by unfold clampE at hk; omega
  have hkl : k ≤ ends.length := by omega
  unfold atE
  rw [← hk]
  obtain ⟨X, hX⟩ : ∃ X : Nat, (if v < 0 then (0 : Int) else v) = (X : Int) := ⟨v.toNat, by split <;> omega⟩
  have hmn : (if ends.length < X then (ends.length : Int) else (X : Int)) = (k : Int) := by
    have e : max v 0 = (X : Int) := by rw [← hX]; split <;> omega
    rw [e] at hkI
    split <;> omega
  have HMN := Lib.hid hmn
  have hkv : k ≠ 0 → 1 ≤ v := by omega
  clear hmn hk hkI
  by_cases h0 : k = 0
  · subst h0
    have hk1 : atN ends 0 = 0 := rfl
    rw [hk1]
    clear hb h ho hc hl hx hkl hkv
    unfold intV
    have hmn := HMN.out
    clear HMN
    go_enter Try.func34, Try.ntmps34
    go_wp2_with fail
    go_ret
    exact ⟨rfl, 0, rfl⟩
  · obtain ⟨b, off, rfl, hbl, hcell⟩ := hc (by omega)
    have hv1 := hkv h0
    obtain rfl : v = (X : Int) := by rw [← hX]; split <;> omega
    clear hX hkv
    have hz := hcell (k - 1) (by omega)
    have hget : (ends.map intV).getD (k - 1) undef = intV (ends.getD (k - 1) 0) := by
      rw [List.getD_eq_getElem?_getD, List.getElem?_map, List.getElem?_eq_getElem (by omega), List.getD_eq_getElem?_getD, List.getElem?_eq_getElem (by omega)]
      rfl
    rw [hget] at hz
    have d1 : ((k : Int) == 0) = false := by rw [beq_eq_false_iff_ne]; omega
    have d4 : (0 : Int) ≤ (k : Int) - 1 := by omega
    have d5 : (k : Int) - 1 < ends.length := by omega
    have d6 : ((k : Int) - 1).toNat = k - 1 := by omega
    have hk1 : atN ends k = ends.getD (k - 1) 0 := if_neg h0
    rw [hk1]
    generalize ends.getD (k - 1) 0 = z at *
    have hkm : (k : Int) ≤ 4294967296 := by omega
    clear hcell hc hb h ho hl hx hkl hget hk1 h0
    unfold intV at hz ⊢
    have hmn := HMN.out
    clear HMN
    go_enter Try.func34, Try.ntmps34
    go_wp2_with fail
    go_ret
    exact ⟨rfl, 0, rfl⟩
theorem atN_le {ends : List Nat} {n : Nat} (h : ∀ x ∈ ends, x ≤ n) (k : Nat) : atN ends k ≤ n := by
  unfold atN
  split
  · omega
  · by_cases hk : k - 1 < ends.length
    · rw [List.getD_eq_getElem?_getD, List.getElem?_eq_getElem hk]
      exact h _ (List.getElem_mem hk)
    · rw [List.getD_eq_getElem?_getD, List.getElem?_eq_none (by omega)]
      exact Nat.zero_le _
theorem between26 (h : Core F B w d m L ng okD okM T Y ends) (a b : Int) (ha : -9223372036854775808 ≤ a ∧ a ≤ 9223372036854775807) (hb : -9223372036854775808 ≤ b ∧ b ≤ 9223372036854775807) :
    Calls Try.prog 26 #[ptrV B, .int .i64 a, .int .i64 b] w fun e w' => e = .returned (.tuple #[intV (atE ends a), intV (toE ends a b)]) ∧ Below w.heap.size w w' := by
  have hBl := Below.al (Below.refl w.heap.size w) (Obj.cells #[ptrV B] 24)
  have hbx := Blk.new w 24 #[ptrV B]
  have hC := h.below hBl
  have hmx : max (atE ends a) (atE ends b) = toE ends a b := rfl
  obtain ⟨w1, hw1⟩ : ∃ w1, w1 = w.alloc (Obj.cells #[ptrV B] 24) := ⟨_, rfl⟩
  rw [← hw1] at hBl hbx hC
  have HA := Lib.hid (clo34 hC _ hbx a ha)
  have HC := Lib.hid (And.intro hC (And.intro hbx hBl))
  unfold intV at HA
  unfold ptrV at hw1
  have hzA : atE ends a < 4294967296 := by
    obtain ⟨q, hq⟩ := h
    have := atN_le (n := 4294967295) (fun x hx => by have := hq.small x hx; omega) (clampE ends.length a)
    unfold atE; omega
  have hzB : atE ends b < 4294967296 := by
    obtain ⟨q, hq⟩ := h
    have := atN_le (n := 4294967295) (fun x hx => by have := hq.small x hx; omega) (clampE ends.length b)
    unfold atE; omega
  have HB := Lib.hid (show ∀ w2, Below w1.heap.size w1 w2 → Calls Try.prog 34 #[.int .i64 b, .pointer (some ⟨w.heap.size, 0, none⟩)] w2 fun e w' => e = .returned (.int .i64 (atE ends b : Nat)) ∧ ∃ n, w' = w2.drewN n from fun w2 h2 => clo34 (hC.below h2) _ (Blk.turn hbx (Turn.of_below (F := fun k => w1.heap.size ≤ k) h2 (fun k h _ => h)) (by have := hbx.lt; omega)) b hb)
  unfold intV ptrV
  rw [← hmx]
  generalize atE ends a = za at *
  generalize atE ends b = zb at *
  clear h hbx hC hBl hmx
  go_enter Try.func26, Try.ntmps26
  go_upto_region 2 with fail
  rw [← hw1]
  clear hw1
  go_wp2_with fail
  refine HA.out.mono ?_
  rintro e w2 ⟨rfl, n2, rfl⟩
  have hB2 : Below w1.heap.size w1 (w1.drewN n2) := Below.drewN (Below.refl _ w1) n2
  have HB2 := Lib.hid hB2
  have HB3 := Lib.hid (HB.out _ hB2)
  clear hB2 HB
  generalize w1.drewN n2 = w2 at *
  go_wp2_with fail
  refine HB3.out.mono ?_
  rintro e w3 ⟨rfl, n3, rfl⟩
  have HB4 := Lib.hid (Below.drewN ((HC.out.2.2.trans (HB2.out.mono HC.out.2.2.size))) n3)
  generalize w2.drewN n3 = w3 at *
  go_wp2_with fail
  · rw [Nat.max_eq_right (show za ≤ zb by omega)]
    go_ret2
    exact ⟨rfl, HB4.out⟩
  · rw [Nat.max_eq_left (show zb ≤ za by omega)]
    go_ret2
    exact ⟨rfl, HB4.out⟩
theorem size14 (h : Core F B w d m L ng okD okM T Y ends) (a b : Int) (ha : -9223372036854775808 ≤ a ∧ a ≤ 9223372036854775807) (hb : -9223372036854775808 ≤ b ∧ b ≤ 9223372036854775807) :
    Calls Try.prog 14 #[ptrV B, .int .i64 a, .int .i64 b] w fun e w' => e = .returned (intV (toE ends a b - atE ends a)) ∧ Below w.heap.size w w' := by
  have HT := Lib.hid (there25 h)
  have HB := Lib.hid (between26 h a b ha hb)
  have hle : atE ends a ≤ toE ends a b := Nat.le_max_left _ _
  have hz : toE ends a b < 4294967296 := by
    obtain ⟨q, hq⟩ := h
    have h1 := atN_le (n := 4294967295) (fun x hx => by have := hq.small x hx; omega) (clampE ends.length a)
    have h2 := atN_le (n := 4294967295) (fun x hx => by have := hq.small x hx; omega) (clampE ends.length b)
    unfold toE atE; omega
  generalize toE ends a b = zb at *
  generalize atE ends a = za at *
  have hsub : ((zb - za : Nat) : Int) = (zb : Int) - (za : Int) := by omega
  have HS := Lib.hid hsub
  unfold intV ptrV at *
  clear h hsub
  go_enter Try.func14, Try.ntmps14
  go_wp2_with fail
  refine HT.out.mono ?_
  rintro e w1 ⟨rfl, rfl⟩
  go_wp2_with fail
  refine HB.out.mono ?_
  rintro e w1 ⟨rfl, hB⟩
  have HBB := Lib.hid hB
  clear hB
  go_wp2_with fail
  go_ret
  exact ⟨by rw [HS.out]; rfl, HBB.out⟩
theorem segs17 (h : Core F B w d m L ng okD okM T Y ends) (hl : lastE ends < 4294967296) : Calls Try.prog 17 #[ptrV B] w fun e w' => e = .returned (intV ((lastE ends + 255) / 256)) ∧ ∃ n, w' = w.drewN n := by
  have HL := Lib.hid (len16 h)
  generalize lastE ends = z at *
  have hsub : (((z + 255) / 256 : Nat) : Int) = ((z : Int) + 256 - 1) / 256 := by omega
  have HS := Lib.hid hsub
  unfold intV ptrV at *
  clear h hsub
  go_enter Try.func17, Try.ntmps17
  go_wp2_with fail
  refine HL.out.mono ?_
  rintro e w1 ⟨rfl, n, rfl⟩
  generalize hw : w.drewN n = w1 at *
  have HW := Lib.hid hw
  clear hw
  go_wp2_with fail
  go_ret
  refine ⟨?_, n, HW.out.symm⟩
  rw [HS.out]
  rfl
theorem dim28 (h : Core F B w d m L ng okD okM T Y ends) (i : Int) (hi : -9223372036854775808 ≤ i ∧ i ≤ 9223372036854775807) :
    Calls Try.prog 28 #[ptrV B, .int .i64 i] w fun e w' => (e = .returned (.pointer none) ∧ ¬ (0 ≤ i ∧ i < d) ∨ ∃ (D : Nat) (G : Nat → Prop), e = .returned (ptrV D) ∧ (0 ≤ i ∧ i < d) ∧ DictAt G D w (L i.toNat)) ∧ Below w.heap.size w w' := by
  have HT := Lib.hid (there25 h)
  have hC := h
  obtain ⟨q, hq⟩ := h
  have hdO := hq.dO
  have hbB := hq.blk
  have hhd := hq.hd
  have HQ := Lib.hid hq
  obtain ⟨vD, hvD⟩ : ∃ v, v = q.vD := ⟨_, rfl⟩
  obtain ⟨vS, hvS⟩ : ∃ v, v = q.vS := ⟨_, rfl⟩
  obtain ⟨vE, hvE⟩ : ∃ v, v = q.vE := ⟨_, rfl⟩
  rw [← hvD, ← hvS, ← hvE] at hbB
  rw [← hvD] at hdO
  clear hvD hvS hvE
  obtain ⟨-, aD, cD, hv3, hcap3, hmax3, hc3⟩ := Row.of_owns hdO
  subst hv3
  have c0 : w.cell? ⟨B, 0, none⟩ = some (.slice aD d cD) := Blk.cell hbB 0
  have HCC := Lib.hid hc3
  unfold ptrV at *
  clear hq hdO hbB hc3 hC
  by_cases hneg : i < 0
  · have d1 : decide (i < 0) = true := decide_eq_true hneg
    go_enter Try.func28, Try.ntmps28
    go_wp2_with fail
    refine HT.out.mono ?_
    rintro e w1 ⟨rfl, rfl⟩
    go_wp2_with fail
    go_ret
    exact ⟨.inl ⟨rfl, by omega⟩, Below.refl _ _⟩
  · have d1 : decide (i < 0) = false := decide_eq_false hneg
    by_cases hbig : i < d
    · have d2 : decide ((d : Int) ≤ i) = false := decide_eq_false (by omega)
      obtain ⟨k, rfl⟩ : ∃ k : Nat, i = (k : Int) := ⟨i.toNat, by omega⟩
      obtain ⟨vb, vo, rfl, hvb, hcell3⟩ := HCC.out (by omega)
      obtain ⟨D, hD⟩ : ∃ D, q.ds[k]? = some D := ⟨_, List.getElem?_eq_getElem (by rw [HQ.out.dl]; omega)⟩
      have y1 : w.cell? ⟨vb, vo + k, none⟩ = some (.pointer (some ⟨D, 0, none⟩)) := by
        rw [hcell3 k (by omega), List.getD_eq_getElem?_getD, List.getElem?_map, hD]
        rfl
      have HD := Lib.hid hD
      clear hcell3 hD HCC
      go_enter Try.func28, Try.ntmps28
      go_wp2_with fail
      refine HT.out.mono ?_
      rintro e w1 ⟨rfl, rfl⟩
      go_wp2_with fail
      go_ret
      exact ⟨.inr ⟨D, _, rfl, by omega, by have := HQ.out.dict k D HD.out; simpa using this⟩, Below.refl _ _⟩
    · have d2 : decide ((d : Int) ≤ i) = true := decide_eq_true (by omega)
      clear HCC
      go_enter Try.func28, Try.ntmps28
      go_wp2_with fail
      refine HT.out.mono ?_
      rintro e w1 ⟨rfl, rfl⟩
      go_wp2_with fail
      go_ret
      exact ⟨.inl ⟨rfl, by omega⟩, Below.refl _ _⟩
theorem values18 (h : Core F B w d m L ng okD okM T Y ends) (i : Int) (hi : -9223372036854775808 ≤ i ∧ i ≤ 9223372036854775807) :
    Calls Try.prog 18 #[ptrV B, .int .i64 i] w fun e w' => e = .returned (intV (if 0 ≤ i ∧ i < d then (L i.toNat).length else 0)) ∧ Below w.heap.size w w' := by
  have HD := Lib.hid (dim28 h i hi)
  have HR1 := Lib.hid (fun hn : ¬ (0 ≤ i ∧ i < d) => show (if 0 ≤ i ∧ i < d then (L i.toNat).length else 0) = 0 from if_neg hn)
  have HR2 := Lib.hid (fun hn : (0 ≤ i ∧ i < d) => show (if 0 ≤ i ∧ i < d then (L i.toNat).length else 0) = (L i.toNat).length from if_pos hn)
  generalize (if 0 ≤ i ∧ i < d then (L i.toNat).length else 0) = r at *
  unfold ptrV at HD ⊢
  clear h
  go_enter Try.func18, Try.ntmps18
  go_wp2_with fail
  refine HD.out.mono ?_
  rintro e w1 ⟨hh, hB⟩
  have HB := Lib.hid hB
  rcases hh with ⟨rfl, hn⟩ | ⟨D, G, rfl, hin, hdict⟩
  · have HL := Lib.hid (len29_nil w1)
    have HN := Lib.hid hn
    clear hn hB
    go_wp2_with fail
    refine HL.out.mono ?_
    rintro e w2 ⟨rfl, rfl⟩
    go_wp2_with fail
    go_ret
    exact ⟨by rw [HR1.out HN.out]; rfl, HB.out⟩
  · have HL := Lib.hid (len29 G D (L i.toNat) w1 (hdict.below hB))
    have HN := Lib.hid hin
    clear hin hB hdict
    go_wp2_with fail
    refine HL.out.mono ?_
    rintro e w2 ⟨rfl, rfl⟩
    go_wp2_with fail
    go_ret
    exact ⟨by rw [HR2.out HN.out]; rfl, HB.out⟩
end
end Go.Proofs.Ytdpgpcffhhdpiaa
