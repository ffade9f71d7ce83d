/- SetsCross: the walk. -/
import Derived.Test.YtbcnmkdlaoaoeaaL
import Derived.Test.YtbcnmkdlaoaoeaaN
import Derived.Test.YtbcnmkdlaoaoeaaBase14
import Derived.Test.YtbcnmkdlaoaoeaaBase15
namespace Go.Proofs.Ytbcnmkdlaoaoeaa
open Go.RowKit
set_option linter.unusedVariables false
set_option linter.unusedSimpArgs false

theorem Try.info32' : (Try.prog.info? 32).map (fun i => (i.zero, i.size, i.bytes)) = some (some (.agg #[.int .i64 0, .slice none 0 0, .slice none 0 0]), 3, 56) := by kernel_rfl

theorem grp_one {B : Nat} {w : World} {xs : List Value} {n : Nat} {gs : List Grp} (hl : xs.length = n * 3) (h : ∀ j, j < n → GrpAt B w (xs.getD (j * 3) undef) (xs.getD (j * 3 + 1) undef) (xs.getD (j * 3 + 2) undef) (gs.getD j zeroG)) : ∀ u ∈ xs, u.oneCell' = true := by
  intro u hu
  obtain ⟨i, hi, rfl⟩ := List.getElem_of_mem hu
  have e : xs[i] = xs.getD i undef := by rw [List.getD_eq_getElem?_getD, List.getElem?_eq_getElem hi]; rfl
  rw [e]
  have hg := h (i / 3) (by omega)
  have h3 : i = i / 3 * 3 ∨ i = i / 3 * 3 + 1 ∨ i = i / 3 * 3 + 2 := by omega
  rcases h3 with h3 | h3 | h3 <;> rw [h3]
  · rw [hg.k]; rfl
  · obtain ⟨a, c, hv, -⟩ := hg.c.open; rw [hv]; rfl
  · obtain ⟨a, c, hv, -⟩ := hg.s.open; rw [hv]; rfl

theorem grps_append {B : Nat} {w : World} {xs ys : List Value} {a b : List Grp} (hl : xs.length = a.length * 3) (h : ∀ j, j < a.length → GrpAt B w (xs.getD (j * 3) undef) (xs.getD (j * 3 + 1) undef) (xs.getD (j * 3 + 2) undef) (a.getD j zeroG))
    (h2 : ∀ j, j < b.length → GrpAt B w (ys.getD (j * 3) undef) (ys.getD (j * 3 + 1) undef) (ys.getD (j * 3 + 2) undef) (b.getD j zeroG)) :
    ∀ j, j < (a ++ b).length → GrpAt B w ((xs ++ ys).getD (j * 3) undef) ((xs ++ ys).getD (j * 3 + 1) undef) ((xs ++ ys).getD (j * 3 + 2) undef) ((a ++ b).getD j zeroG) := by
  intro j hj
  by_cases hja : j < a.length
  · have e : ∀ i, i < xs.length → (xs ++ ys).getD i undef = xs.getD i undef := fun i hi => by simp only [List.getD_eq_getElem?_getD, List.getElem?_append_left hi]
    have e2 : (a ++ b).getD j zeroG = a.getD j zeroG := by simp only [List.getD_eq_getElem?_getD, List.getElem?_append_left hja]
    rw [e _ (by omega), e _ (by omega), e _ (by omega), e2]
    exact h j hja
  · have hjb : j - a.length < b.length := by rw [List.length_append] at hj; omega
    have e : ∀ i, xs.length ≤ i → (xs ++ ys).getD i undef = ys.getD (i - xs.length) undef := fun i hi => by simp only [List.getD_eq_getElem?_getD, List.getElem?_append_right hi]
    have e2 : (a ++ b).getD j zeroG = b.getD (j - a.length) zeroG := by simp only [List.getD_eq_getElem?_getD, List.getElem?_append_right (show a.length ≤ j by omega)]
    rw [e _ (by omega), e _ (by omega), e _ (by omega), e2, show j * 3 - xs.length = (j - a.length) * 3 by omega, show j * 3 + 1 - xs.length = (j - a.length) * 3 + 1 by omega, show j * 3 + 2 - xs.length = (j - a.length) * 3 + 2 by omega]
    exact h2 _ hjb

theorem nat_at (L : List Nat) (k : Nat) (h : k < L.length) : (L.map fun n : Nat => (n : Int)).getD k 0 = ((L.getD k 0 : Nat) : Int) := by
  simp [List.getD_eq_getElem?_getD, h]

theorem mul_in {x y : Nat} (hx : x ≤ 64) (hy : y ≤ 64) : x * y ≤ 4096 := Nat.mul_le_mul hx hy
theorem mul_wrap {x y q : Nat} (hx : x ≤ 64) (hy : y ≤ 64) (hq : x * y = q) : IntKind.i64.wrap ((x : Int) * y) = (q : Int) := by
  have h := mul_in hx hy
  subst hq
  rw [← Int.natCast_mul]
  exact IntWalk.i64_in _ (by omega)
theorem mul_wrap' {x y q : Nat} (hx : x ≤ 64) (hy : y ≤ 64) (hq : x * y = q) : wrap64 ((x : Int) * y) = (q : Int) := by
  have h := mul_in hx hy
  subst hq
  rw [← Int.natCast_mul]
  exact w64 (by omega)
theorem add_wrap {x y q : Nat} (hx : x ≤ 4096) (hy : y ≤ 64) (hq : x + y = q) : IntKind.i64.wrap ((x : Int) + y) = (q : Int) := by
  subst hq
  rw [← Int.natCast_add]
  exact IntWalk.i64_in _ (by omega)

set_option maxHeartbeats 8000000 in
set_option maxRecDepth 100000 in
theorem cross4 (a b : List Grp) (va vb : Value) (w : World) (ha : RowG w.heap.size w va a) (hb : RowG w.heap.size w vb b) (hwa : a.length * 56 ≤ 140737488351232) (hwb : b.length * 56 ≤ 140737488351232) (hwab : (a.length + b.length) * 56 ≤ 140737488355328) :
    Calls Try.prog 4 #[va, vb] w fun e w' => e = .returned (.bool true) ∧ Below w.heap.size w w' := by
  obtain ⟨i0, hi0, hz0, hz1, hz2⟩ := info_parts Try.info32'
  obtain ⟨aa, ka, rfl, -⟩ := ha.open
  obtain ⟨ab, kb, rfl, -⟩ := hb.open
  have HA := Lib.hid ha
  have HBB := Lib.hid hb
  clear ha hb
  go_enter Try.func4, Try.ntmps4
  go_wp2_with fail
  refine (awake6 w).mono ?_
  rintro e w1 ⟨rfl, hB1⟩
  obtain ⟨wd, hwd⟩ : ∃ wd, wd = w1.alloc (Obj.cells #[.string ⟨#[97]⟩, .string ⟨#[98]⟩, .string ⟨#[99]⟩, .string ⟨#[100]⟩] 9) := ⟨_, rfl⟩
  have hBd : Below w.heap.size w wd := by rw [hwd]; exact Below.al hB1 _
  have hdb : Blk wd w1.heap.size 9 #[.string ⟨#[97]⟩, .string ⟨#[98]⟩, .string ⟨#[99]⟩, .string ⟨#[100]⟩] := by rw [hwd]; exact Blk.new _ _ _
  have hsd : wd.heap.size = w1.heap.size + 1 := by rw [hwd]; simp
  have hs1 := hB1.size
  have HBD := Lib.hid hBd
  have HDB := Lib.hid hdb
  have HSD := Lib.hid hsd
  go_upto_region 4 with fail
  rw [← hwd]
  clear hwd hBd hdb hsd hB1
  obtain ⟨xa, hra, hga⟩ := (HA.out.mono HBD.out HBD.out.size).row
  obtain ⟨xb, hrb, hgb⟩ := (HBB.out.mono HBD.out HBD.out.size).row
  have HG := Lib.hid (And.intro hga hgb)
  have HRB := Lib.hid hrb
  have o1 := grp_one hra.len hga
  have o2 := grp_one hrb.len hgb
  have HXL := Lib.hid hra.len
  have HRA := Lib.hid hra
  clear hga hgb hra hrb
  go_upto_region 5 with (at_builtin; refine wpList_append_row rfl _ _ 33 rfl (w1.heap.size + 1) 32 i0 _ 3 56 Try.underlying33 hi0 hz0 hz1 hz2 rfl (by omega) (.slice none 0 0) 0 [] rfl (World.ownsRow_nil _ _ _ _) _ (.slice aa a.length ka) a.length xa rfl HRA.out o1 (by unfold maxLen; omega) (by omega) (by rw [HSD.out]; omega) ?_; intro v1 w2 hown1 hg1 hat1)
  obtain ⟨a1, k1, rfl⟩ := owns_form hown1
  have hB2 : Below wd.heap.size wd w2 := (Below.refl _ _).grown hg1 (Nat.le_refl _) (by simp [Value.ownBlock])
  have HB2 := Lib.hid hB2
  have HOWN1 := Lib.hid hown1
  have HRB2 := Lib.hid (HRB.out.mono hB2 (Nat.le_refl _))
  have hs2 := hB2.size
  clear hB2 hown1 hg1 hat1
  go_upto_region 6 with (at_builtin; refine wpList_append_row rfl _ _ 33 rfl (w1.heap.size + 1) 32 i0 _ 3 56 Try.underlying33 hi0 hz0 hz1 hz2 rfl (by omega) (.slice a1 (0 + a.length) k1) (0 + a.length) ([] ++ xa) rfl HOWN1.out _ (.slice ab b.length kb) b.length xb rfl HRB2.out o2 (by unfold maxLen; omega) (by omega) (by rw [HSD.out] at hs2; omega) ?_; intro v2 w3 hown2 hg2 hat2)
  obtain ⟨a2, k2, rfl⟩ := owns_form hown2
  have hB3 : Below wd.heap.size wd w3 := HB2.out.grown hg2 hs2 (fun k hk => by have := (HOWN1.out.lt k hk).1; rw [HSD.out]; exact this)
  have hlen : 0 + a.length + b.length = (a ++ b).length := by simp
  rw [hlen, List.nil_append] at hown2
  rw [hlen]
  have HAB := Lib.hid (show RowG w3.heap.size w3 (.slice a2 (a ++ b).length k2) (a ++ b) from ⟨xa ++ xb, Row.of_owns hown2, fun j hj => (grps_append HXL.out HG.out.1 HG.out.2 j hj).mono hB3 hB3.size⟩)
  have hbad0 := fun dims h => cross_bad dims a b h
  have hgood0 := fun dims h => cross_good dims a b h
  have hcl0 : (a ++ b).length = a.length + b.length := by simp
  obtain ⟨c, hc⟩ : ∃ c, a ++ b = c := ⟨_, rfl⟩
  rw [hc] at hbad0 hgood0 HAB hcl0 ⊢
  have HCL0 := Lib.hid hcl0
  clear hcl0
  have HW3 := Lib.hid (HBD.out.trans (hB3.mono HBD.out.size))
  have HD3 := Lib.hid (Blk.below HDB.out hB3 HDB.out.lt)
  clear hB3 hown2 hg2 hat2 hlen hc HB2 HOWN1 HRB2 HRA HRB HG HXL o1 o2 hs2
  obtain ⟨dims, hdims⟩ : ∃ dims : List ByteArray, dims = [⟨#[97]⟩, ⟨#[98]⟩, ⟨#[99]⟩, ⟨#[100]⟩] := ⟨_, rfl⟩
  have hd6 : dims.length ≤ 6 := by rw [hdims]; decide
  have hdl : dims.length = 4 := by rw [hdims]; rfl
  have hrd : RowS w3.heap.size w3 (.slice (some ⟨w1.heap.size, 0, none⟩) 4 4) dims := RowS.of_blk HD3.out (by rw [hdims]; rfl) hdl.symm (by decide)
  have HRD := Lib.hid hrd
  have HX1 := Lib.hid (expand8 _ _ dims a w3 hrd (HA.out.mono HW3.out HW3.out.size) (by omega))
  have hbad := hbad0 dims hd6
  have hgood := hgood0 dims hd6
  have hlt1 := expand_lt dims a hd6
  have hlt2 := expand_lt dims b hd6
  have hlen1 := expand_len dims a hd6
  have hlen2 := expand_len dims b hd6
  have hx2 := fun w hd hg hb => expand8 (.slice (some ⟨w1.heap.size, 0, none⟩) 4 4) (.slice ab b.length kb) dims b w hd hg hb
  have hx3 := fun w hd hg hb => expand8 (.slice (some ⟨w1.heap.size, 0, none⟩) 4 4) (.slice a2 c.length k2) dims c w hd hg hb
  obtain ⟨L, E, hLE⟩ : ∃ L E, expandL dims a = (L, E) := ⟨_, _, rfl⟩
  obtain ⟨M, F, hMF⟩ : ∃ M F, expandL dims b = (M, F) := ⟨_, _, rfl⟩
  obtain ⟨K, G, hKG⟩ : ∃ K G, expandL dims c = (K, G) := ⟨_, _, rfl⟩
  rw [hLE] at HX1 hbad hgood hlt1 hlen1
  rw [hMF] at hx2 hbad hgood hlt2 hlen2
  rw [hKG] at hx3 hbad hgood
  simp only at hx2 hx3 hbad hgood hlt1 hlt2 hlen1 hlen2
  have HX2 := Lib.hid hx2
  have HX3 := Lib.hid hx3
  have HBAD := Lib.hid hbad
  have HGOOD := Lib.hid hgood
  have HLT := Lib.hid (And.intro hlt1 hlt2)
  clear hx2 hx3 hbad hgood hbad0 hgood0 hlt1 hlt2 hLE hMF hKG hdims hdl hrd
  go_wp2_with fail
  refine HX1.out.mono ?_
  rintro e w4 ⟨vl, rfl, hr1, hB4⟩
  have HRL := Lib.hid hr1
  have HB4 := Lib.hid hB4
  clear hr1 hB4 HX1
  go_wp2_with fail
  refine (HX2.out w4 (HRD.out.mono HB4.out HB4.out.size) (HBB.out.mono (Below.call HW3.out HB4.out) (Below.call HW3.out HB4.out).size) (by omega)).mono ?_
  rintro e w5 ⟨vm, rfl, hr2, hB5⟩
  have HRM := Lib.hid hr2
  have HB5 := Lib.hid (HB4.out.trans (hB5.mono HB4.out.size))
  have HRL2 := Lib.hid (HRL.out.mono hB5 hB5.size)
  clear hr2 hB5 HX2 HRL HB4
  go_wp2_with fail
  refine (HX3.out w5 (HRD.out.mono HB5.out HB5.out.size) (HAB.out.mono HB5.out HB5.out.size) (by have := HCL0.out; omega)).mono ?_
  rintro e w6 ⟨vk, rfl, hr3, hB6⟩
  have HRK := Lib.hid hr3
  have HB6 := Lib.hid (HB5.out.trans (hB6.mono HB5.out.size))
  have HRL3 := Lib.hid (HRL2.out.mono hB6 hB6.size)
  have HRM3 := Lib.hid (HRM.out.mono hB6 hB6.size)
  have HBF := Lib.hid (Below.call HW3.out HB6.out)
  clear hr3 hB6 HX3 HRL2 HRM HB5 HB6 HRD HAB HW3 HD3 HA HBB HBD HDB HSD
  obtain ⟨al, kl, rfl, hkl, hml, hcl⟩ := HRL3.out.open
  obtain ⟨am, km, rfl, hkm, hmm, hcm⟩ := HRM3.out.open
  obtain ⟨ak, kk, rfl, hkk, hmk, hck⟩ := HRK.out.open
  simp only [List.length_map] at hkl hkm hkk hcl hcm hck ⊢
  have HCL := Lib.hid hcl
  have HCM := Lib.hid hcm
  have HCK := Lib.hid hck
  clear hcl hcm hck HRL3 HRM3 HRK
  by_cases hE : E = 0
  · by_cases hF : F = 0
    · have hg := HGOOD.out hE hF
      subst hE hF
      by_cases h64 : 64 < L.length * M.length
      · rw [if_pos h64] at hg
        injection hg with g1 g2
        subst g1 g2
        obtain ⟨q, hq⟩ : ∃ q, L.length * M.length = q := ⟨_, rfl⟩
        rw [hq] at h64
        have hI : decide ((64 : Int) < q) = true := decide_eq_true (by omega)
        have hw := mul_wrap' hlen1 hlen2 hq
        have hw2 := mul_wrap hlen1 hlen2 hq
        clear hq
        go_wp2_with fail
        go_ret
        exact ⟨rfl, HBF.out⟩
      · rw [if_neg h64] at hg
        injection hg with g1 g2
        subst g2
        have hKl : K.length = L.length * M.length := by rw [g1, crossL_len]
        have hKat : ∀ i k, i < L.length → k < M.length → K.getD (i * M.length + k) 0 = L.getD i 0 ||| M.getD k 0 := fun i k hi hk => by rw [g1]; exact crossL_at L M i k hi hk
        have HKAT := Lib.hid hKat
        clear g1 hKat
        obtain ⟨q, hq⟩ : ∃ q, L.length * M.length = q := ⟨_, rfl⟩
        rw [hq] at h64 hKl
        have hI : decide ((64 : Int) < q) = false := decide_eq_false (by omega)
        have hne : ((K.length : Int) != (q : Int)) = false := by simp [hKl]
        have HKL := Lib.hid hKl
        have HQ := Lib.hid hq
        have hw := mul_wrap' hlen1 hlen2 hq
        have hw2 := mul_wrap hlen1 hlen2 hq
        clear hq hKl
        go_wp2_with fail
        clear hw hw2 hne hI
        go_loopw [14] (fun i wr => ∃ k n : Nat, k ≤ L.length ∧ i = .int .i64 k ∧ wr = w6.drewN n) (fun i _ => L.length - (intOf i).toNat)
        case atStart => exact ⟨0, 0, by omega, rfl, rfl⟩
        case round =>
          obtain ⟨i, n, hi, rfl, rfl⟩ := hrel
          by_cases hil : i < L.length
          · have hI1 : (i : Int) < L.length := by omega
            go_wp2_with fail
            go_loopw [15] (fun j wr => ∃ k n : Nat, k ≤ M.length ∧ j = .int .i64 k ∧ wr = w6.drewN n) (fun j _ => M.length - (intOf j).toNat)
            case atStart => exact ⟨0, n, by omega, rfl, rfl⟩
            case round =>
              obtain ⟨k, n2, hk, rfl, rfl⟩ := hrel
              by_cases hkl2 : k < M.length
              · have hI2 : (k : Int) < M.length := by omega
                obtain ⟨bl, ol, rfl, -, hcl⟩ := HCL.out (by omega)
                obtain ⟨bm, om, rfl, -, hcm⟩ := HCM.out (by omega)
                have hidx : i * M.length + k < L.length * M.length := by
                  have : (i + 1) * M.length ≤ L.length * M.length := Nat.mul_le_mul_right _ hil
                  rw [Nat.add_mul] at this
                  omega
                have hK0 : i * M.length + k < K.length := by rw [HKL.out, ← HQ.out]; exact hidx
                obtain ⟨bk, ok, rfl, -, hck⟩ := HCK.out (by omega)
                have q1 := hcl i hil
                have q2 := hcm k hkl2
                have q3 := hck (i * M.length + k) hK0
                rw [nat_at L i hil] at q1
                rw [nat_at M k hkl2] at q2
                rw [nat_at K _ hK0, HKAT.out i k hil hkl2] at q3
                have hx := HLT.out.1 i
                have hy := HLT.out.2 k
                obtain ⟨x, hxe⟩ : ∃ x, L.getD i 0 = x := ⟨_, rfl⟩
                obtain ⟨y, hye⟩ : ∃ y, M.getD k 0 = y := ⟨_, rfl⟩
                rw [hxe] at q1 q3 hx
                rw [hye] at q2 q3 hy
                have hor := or64 x y hx hy
                obtain ⟨o, ho⟩ : ∃ o, x ||| y = o := ⟨_, rfl⟩
                rw [ho] at q3 hor
                obtain ⟨p1, hp1⟩ : ∃ p1, i * M.length = p1 := ⟨_, rfl⟩
                rw [hp1] at q3 hK0
                have hp1b : p1 ≤ 4096 := by rw [← hp1]; exact mul_in (by omega) hlen2
                obtain ⟨p2, hp2⟩ : ∃ p2, p1 + k = p2 := ⟨_, rfl⟩
                rw [hp2] at q3 hK0
                have hK1 : (p2 : Int) < K.length := by omega
                have hK2 : (0 : Int) ≤ p2 := by omega
                have hI0 : (0 : Int) ≤ i := by omega
                have hk0 : (0 : Int) ≤ k := by omega
                have e1 := mul_wrap (by omega) hlen2 hp1
                have e2 := add_wrap hp1b (by omega) hp2
                clear hxe hye ho hp1 hp2 hcl hcm hck HCL HCM HCK hidx
                go_wp2_with fail
                go_quiet (fail)
                clear e1 e2 hor q1 q2 q3
                go_wp2_with fail
                go_roundw
                case rel => exact ⟨k + 1, _, by omega, by go_num, rfl⟩
                case measure => simp [intOf]; omega
              · have hI2 : decide ((k : Int) < M.length) = false := decide_eq_false (by omega)
                go_wp2_with fail
                go_roundw
                case rel => exact ⟨i + 1, _, by omega, by go_num, rfl⟩
                case measure => simp [intOf]; omega
          · have hI1 : decide ((i : Int) < L.length) = false := decide_eq_false (by omega)
            go_wp2_with fail
            go_ret
            exact ⟨rfl, Below.drewN HBF.out n⟩
    · have hne : G ≠ 0 ∨ K = [] := HBAD.out (.inr hF)
      subst hE
      have d1 : (F != 0) = true := by simpa using hF
      by_cases hG : G = 0
      · have hK : K = [] := by rcases hne with h | h; exact absurd hG h; exact h
        subst hG hK
        go_wp2_with fail
        go_ret
        exact ⟨rfl, HBF.out⟩
      · have d2 : (G != 0) = true := by simpa using hG
        go_wp2_with fail
        go_ret
        exact ⟨rfl, HBF.out⟩
  · have hne : G ≠ 0 ∨ K = [] := HBAD.out (.inl hE)
    have d1 : (E != 0) = true := by simpa using hE
    by_cases hG : G = 0
    · have hK : K = [] := by rcases hne with h | h; exact absurd hG h; exact h
      subst hG hK
      go_wp2_with fail
      go_ret
      exact ⟨rfl, HBF.out⟩
    · have d2 : (G != 0) = true := by simpa using hG
      go_wp2_with fail
      go_ret
      exact ⟨rfl, HBF.out⟩
end Go.Proofs.Ytbcnmkdlaoaoeaa
