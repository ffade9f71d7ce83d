/- AccumAsked: the walk. -/
import Derived.Test.YtlhncphnhgbclaaT
namespace Go.Proofs.Ytlhncphnhgbclaa
open Go.RowKit
set_option linter.unusedVariables false
set_option linter.unusedSimpArgs false

theorem rep_at (n i : Nat) : (List.replicate n zeroP).getD i zeroP = zeroP := by
  simp [List.getD_eq_getElem?_getD, List.getElem?_replicate]
  split <;> rfl
theorem valid_zero (n : Nat) : validB 0 (List.replicate n zeroP) (n : Int) = true := by
  have h : anyBad 0 (List.replicate n zeroP) = false := anyBad_no (fun j _ => by rw [rep_at]; decide)
  unfold validB
  rw [h]
  simp
theorem RowP.rep {w : World} {base : Nat} {v : Value} {n : Nat} (h : w.ownsRow base 46 5 v n (partsC (List.replicate n zeroP))) : RowP w.heap.size w v (List.replicate n zeroP) := by
  unfold RowP
  rw [List.length_replicate]
  exact Row.of_owns h

set_option maxRecDepth 100000 in
set_option maxHeartbeats 8000000 in
theorem asked6 (c1 c2 meas : Int) (va vb : Value) (ps qs : List Prt) (w : World) (h1 : RowP w.heap.size w va ps) (h2 : RowP w.heap.size w vb qs) :
    Calls Try.prog 6 #[.agg #[.int .i64 c1, va], .agg #[.int .i64 c2, vb], .int .i64 meas] w fun e w' => e = .returned (.bool true) ∧ Below w.heap.size w w' := by
  obtain ⟨n, hn, hn4⟩ : ∃ n : Nat, min (max meas 0) 4 = (n : Int) ∧ n ≤ 4 := ⟨(min (max meas 0) 4).toNat, by omega, by omega⟩
  have HN := Lib.hid hn
  clear hn
  obtain ⟨s, hs⟩ : ∃ s, sameB c1 c2 ps qs = s := ⟨_, rfl⟩
  obtain ⟨t, ht⟩ : ∃ t, validB c1 ps meas = t := ⟨_, rfl⟩
  have HS := Lib.hid hs
  have HT := Lib.hid ht
  have HZ := Lib.hid (valid_zero n)
  clear hs ht
  have hA0 : Blk ((w.alloc (Obj.cells #[.int .i64 c1, va] 39)).alloc (Obj.cells #[.int .i64 c2, vb] 39)) w.heap.size 39 #[.int .i64 c1, va] := (Blk.newAt _ _ _ rfl).alloc _
  have hC0 : Blk ((w.alloc (Obj.cells #[.int .i64 c1, va] 39)).alloc (Obj.cells #[.int .i64 c2, vb] 39)) (w.heap.size + 1) 39 #[.int .i64 c2, vb] := Blk.newAt _ _ _ (by simp)
  have hX0 : Below w.heap.size w ((w.alloc (Obj.cells #[.int .i64 c1, va] 39)).alloc (Obj.cells #[.int .i64 c2, vb] 39)) := Below.al (Below.al (Below.refl _ _) _) _
  have H1 := Lib.hid h1
  have H2 := Lib.hid h2
  obtain ⟨a1, k1, rfl, -, -, -⟩ := h1.open
  obtain ⟨a2, k2, rfl, -, -, -⟩ := h2.open
  generalize hva : (Value.slice a1 ps.length k1) = va at *
  generalize hvb : (Value.slice a2 qs.length k2) = vb at *
  clear h1 h2
  subst hva
  subst hvb
  go_enter Try.func6, Try.ntmps6
  go_wp2_with fail
  refine (awake10 _).mono ?_
  rintro e w1 ⟨rfl, hX1⟩
  have hA1 := Blk.below hA0 hX1 (Blk.lt hA0)
  have hC1 := Blk.below hC0 hX1 (Blk.lt hC0)
  have hX2 := Below.call hX0 hX1
  clear hA0 hC0 hX0 hX1
  go_wp2_with fail
  refine (new21 meas n _ HN.out hn4).mono ?_
  rintro e w2 ⟨v0, rfl, own0, hX3⟩
  obtain ⟨a0, k0, rfl⟩ := owns_form own0
  go_upto_region 3 with (fail)
  have hD0 : Blk (w2.alloc (Obj.cells #[.int .i64 0, .slice a0 n k0] 39)) w2.heap.size 39 #[.int .i64 0, .slice a0 n k0] := Blk.newAt _ _ _ rfl
  have hA2 := Blk.alloc (Blk.below hA1 hX3 (Blk.lt hA1)) (Obj.cells #[.int .i64 0, .slice a0 n k0] 39)
  have hC2 := Blk.alloc (Blk.below hC1 hX3 (Blk.lt hC1)) (Obj.cells #[.int .i64 0, .slice a0 n k0] 39)
  have hX4 := Below.al (Below.call hX2 hX3) (Obj.cells #[.int .i64 0, .slice a0 n k0] 39)
  have r0 : RowP (w2.alloc (Obj.cells #[.int .i64 0, .slice a0 n k0] 39)).heap.size (w2.alloc (Obj.cells #[.int .i64 0, .slice a0 n k0] 39)) (.slice a0 n k0) (List.replicate n zeroP) := Row.mono (RowP.rep own0) (Below.al (Below.refl _ _) _) (by simp)
  obtain ⟨b8, hb8⟩ : ∃ b, b = w2.heap.size := ⟨_, rfl⟩
  rw [← hb8] at hD0 ⊢
  generalize w2.alloc (Obj.cells #[.int .i64 0, .slice a0 n k0] 39) = wq at *
  clear hA1 hC1 hX2 hX3 own0 hb8
  have hlq := Blk.lt hD0
  refine hp_start (fun w' => Below wq.heap.size wq w') 5 rfl (by kernel_rfl) (fun c a a' w hd h => ⟨hd ▸ h.1, h.2⟩) (fun hP => ?_)
  rw [show Array.replicate 5 false = #[false, false, false, false, false] from rfl]
  have HS0 : Below wq.heap.size wq wq.drew := (Below.refl _ _).drew
  refine hp_load_at hP 0 (some 13) rfl rfl (by kernel_rfl) rfl 39 _ rfl b8 0 rfl #[.int .i64 0, .slice a0 n k0] _ (fun w' hS' j hj => (hS'.cell (by exact hlq)).trans (by rw [Nat.zero_add]; exact Blk.cell hD0 j)) Try.underlying39 rfl info39 HS0 ?_
  simp only [Act.put, List.setIfInBounds_toArray, List.set_cons_zero, List.set_cons_succ]
  refine hp_take hP 1 (some 14) _ rfl rfl (by kernel_rfl) rfl (fun w' hS' => by go_simp; rfl) HS0 ?_
  simp only [Act.put, List.setIfInBounds_toArray, List.set_cons_zero, List.set_cons_succ]
  refine hp_call 2 (some 15) rfl rfl (by kernel_rfl) rfl 23 #[.int .i64 meas] (by go_simp) ((new23 meas n _ HN.out hn4).mono ?_)
  rintro e w3 ⟨v1, rfl, own1, hX5⟩
  have HS1 : Below wq.heap.size wq w3 := HS0.trans hX5
  refine ⟨_, rfl, HS1, ?_⟩
  simp only [Act.put, List.setIfInBounds_toArray, List.set_cons_zero, List.set_cons_succ]
  refine hp_call 3 (some 16) rfl rfl (by kernel_rfl) rfl 22 #[.agg #[.int .i64 0, .slice a0 n k0], .agg #[.int .i64 0, v1]] (by go_simp) ((same22 0 _ _ (List.replicate n zeroP) _ (Row.mono r0 HS1 HS1.size) (RowP.rep own1)).mono ?_)
  rintro e w4 ⟨rfl, hX6⟩
  have HS2 : Below wq.heap.size wq w4 := Below.call HS1 hX6
  refine ⟨_, rfl, HS2, ?_⟩
  simp only [Act.put, List.setIfInBounds_toArray, List.set_cons_zero, List.set_cons_succ]
  refine hp_take hP 4 (some 9) _ rfl rfl (by kernel_rfl) rfl (fun w' hS' => by go_simp; rfl) HS2 ?_
  simp only [Act.put, List.setIfInBounds_toArray, List.set_cons_zero, List.set_cons_succ]
  refine hk_done (by kernel_rfl) ?_
  have hA := Blk.below hA2 HS2 (Blk.lt hA2)
  have hC := Blk.below hC2 HS2 (Blk.lt hC2)
  have hD := Blk.below hD0 HS2 hlq
  have r0 := Row.mono r0 HS2 HS2.size
  have hX7 := Below.call hX4 HS2
  have r1 := Row.mono H1.out hX7 hX7.size
  have r2 := Row.mono H2.out hX7 hX7.size
  clear hA2 hC2 hD0 HS0 HS1 HS2 hX4 hX5 hX6 own1 hlq hP
  have hlA := Blk.lt hA
  have hlC := Blk.lt hC
  have hlD := Blk.lt hD
  have u1 : w4.cell? ⟨b8, 1, none⟩ = some (.slice a0 n k0) := Blk.cell hD 1
  go_wp2_with fail
  refine wp_region_below (by kernel_rfl) (by kernel_rfl) ?_
  refine qb_pure rfl _ (fun w' hB' => by go_simp; rfl) ?_
  simp only [Act.put, List.setIfInBounds_toArray, List.set_cons_zero, List.set_cons_succ]
  refine qb_pure rfl _ (fun w' hB' => by go_simp; rfl) ?_
  simp only [Act.put, List.setIfInBounds_toArray, List.set_cons_zero, List.set_cons_succ]
  refine qb_pure rfl _ (fun w' hB' => by go_simp; rfl) ?_
  simp only [Act.put, List.setIfInBounds_toArray, List.set_cons_zero, List.set_cons_succ]
  refine qb_pure rfl _ (fun w' hB' => by go_simp; rfl) ?_
  simp only [Act.put, List.setIfInBounds_toArray, List.set_cons_zero, List.set_cons_succ]
  refine qb_pure rfl _ (fun w' hB' => by go_simp; rfl) ?_
  simp only [Act.put, List.setIfInBounds_toArray, List.set_cons_zero, List.set_cons_succ]
  refine qb_load_at rfl 39 (.tmp 3) rfl w.heap.size 0 rfl #[.int .i64 c1, (.slice a1 ps.length k1)] _ hlA (fun j _ => by rw [Nat.zero_add]; exact Blk.cell hA j) Try.underlying39 rfl info39 ?_
  simp only [Act.put, List.setIfInBounds_toArray, List.set_cons_zero, List.set_cons_succ]
  refine qb_load_at rfl 39 (.tmp 4) rfl (w.heap.size + 1) 0 rfl #[.int .i64 c2, (.slice a2 qs.length k2)] _ hlC (fun j _ => by rw [Nat.zero_add]; exact Blk.cell hC j) Try.underlying39 rfl info39 ?_
  simp only [Act.put, List.setIfInBounds_toArray, List.set_cons_zero, List.set_cons_succ]
  refine qb_call rfl 24 #[.agg #[.int .i64 c1, (.slice a1 ps.length k1)], .agg #[.int .i64 c2, (.slice a2 qs.length k2)]] (.bool s) (fun w' => by go_simp) (fun w' hB' => by rw [← HS.out]; exact same24g c1 c2 (.slice a1 ps.length k1) (.slice a2 qs.length k2) ps qs w' (Row.mono r1 hB' hB'.size) (Row.mono r2 hB' hB'.size)) ?_
  simp only [Act.put, List.setIfInBounds_toArray, List.set_cons_zero, List.set_cons_succ]
  refine qb_load_at rfl 39 (.tmp 3) rfl w.heap.size 0 rfl #[.int .i64 c1, (.slice a1 ps.length k1)] _ hlA (fun j _ => by rw [Nat.zero_add]; exact Blk.cell hA j) Try.underlying39 rfl info39 ?_
  simp only [Act.put, List.setIfInBounds_toArray, List.set_cons_zero, List.set_cons_succ]
  refine qb_load_at rfl 39 (.tmp 4) rfl (w.heap.size + 1) 0 rfl #[.int .i64 c2, (.slice a2 qs.length k2)] _ hlC (fun j _ => by rw [Nat.zero_add]; exact Blk.cell hC j) Try.underlying39 rfl info39 ?_
  simp only [Act.put, List.setIfInBounds_toArray, List.set_cons_zero, List.set_cons_succ]
  refine qb_call rfl 22 #[.agg #[.int .i64 c1, (.slice a1 ps.length k1)], .agg #[.int .i64 c2, (.slice a2 qs.length k2)]] (.bool s) (fun w' => by go_simp) (fun w' hB' => by rw [← HS.out]; exact same22g c1 c2 (.slice a1 ps.length k1) (.slice a2 qs.length k2) ps qs w' (Row.mono r1 hB' hB'.size) (Row.mono r2 hB' hB'.size)) ?_
  simp only [Act.put, List.setIfInBounds_toArray, List.set_cons_zero, List.set_cons_succ]
  refine qb_pure rfl (.bool true) (fun w' hB' => by go_simp) ?_
  simp only [Act.put, List.setIfInBounds_toArray, List.set_cons_zero, List.set_cons_succ]
  refine qb_pure rfl _ (fun w' hB' => by go_simp; rfl) ?_
  simp only [Act.put, List.setIfInBounds_toArray, List.set_cons_zero, List.set_cons_succ]
  refine qb_pure rfl _ (fun w' hB' => by go_simp; rfl) ?_
  simp only [Act.put, List.setIfInBounds_toArray, List.set_cons_zero, List.set_cons_succ]
  refine qb_load_at rfl 39 (.tmp 3) rfl w.heap.size 0 rfl #[.int .i64 c1, (.slice a1 ps.length k1)] _ hlA (fun j _ => by rw [Nat.zero_add]; exact Blk.cell hA j) Try.underlying39 rfl info39 ?_
  simp only [Act.put, List.setIfInBounds_toArray, List.set_cons_zero, List.set_cons_succ]
  refine qb_pure rfl _ (fun w' hB' => by go_simp; rfl) ?_
  simp only [Act.put, List.setIfInBounds_toArray, List.set_cons_zero, List.set_cons_succ]
  refine qb_call rfl 25 #[.agg #[.int .i64 c1, (.slice a1 ps.length k1)], .int .i64 meas] (.bool t) (fun w' => by go_simp) (fun w' hB' => by rw [← HT.out]; exact valid25g c1 meas (.slice a1 ps.length k1) ps w' (Row.mono r1 hB' hB'.size)) ?_
  simp only [Act.put, List.setIfInBounds_toArray, List.set_cons_zero, List.set_cons_succ]
  refine qb_load_at rfl 39 (.tmp 3) rfl w.heap.size 0 rfl #[.int .i64 c1, (.slice a1 ps.length k1)] _ hlA (fun j _ => by rw [Nat.zero_add]; exact Blk.cell hA j) Try.underlying39 rfl info39 ?_
  simp only [Act.put, List.setIfInBounds_toArray, List.set_cons_zero, List.set_cons_succ]
  refine qb_pure rfl _ (fun w' hB' => by go_simp; rfl) ?_
  simp only [Act.put, List.setIfInBounds_toArray, List.set_cons_zero, List.set_cons_succ]
  refine qb_call rfl 26 #[.agg #[.int .i64 c1, (.slice a1 ps.length k1)], .int .i64 meas] (.bool t) (fun w' => by go_simp) (fun w' hB' => by rw [← HT.out]; exact valid26g c1 meas (.slice a1 ps.length k1) ps w' (Row.mono r1 hB' hB'.size)) ?_
  simp only [Act.put, List.setIfInBounds_toArray, List.set_cons_zero, List.set_cons_succ]
  refine qb_pure rfl (.bool true) (fun w' hB' => by go_simp) ?_
  simp only [Act.put, List.setIfInBounds_toArray, List.set_cons_zero, List.set_cons_succ]
  refine qb_pure rfl _ (fun w' hB' => by go_simp; rfl) ?_
  simp only [Act.put, List.setIfInBounds_toArray, List.set_cons_zero, List.set_cons_succ]
  refine qb_pure rfl _ (fun w' hB' => by go_simp; rfl) ?_
  simp only [Act.put, List.setIfInBounds_toArray, List.set_cons_zero, List.set_cons_succ]
  refine qb_load_at rfl 39 (.tmp 8) rfl b8 0 rfl #[.int .i64 0, .slice a0 n k0] _ hlD (fun j _ => by rw [Nat.zero_add]; exact Blk.cell hD j) Try.underlying39 rfl info39 ?_
  simp only [Act.put, List.setIfInBounds_toArray, List.set_cons_zero, List.set_cons_succ]
  refine qb_pure rfl _ (fun w' hB' => by go_simp; rfl) ?_
  simp only [Act.put, List.setIfInBounds_toArray, List.set_cons_zero, List.set_cons_succ]
  refine qb_pure rfl (.slice a0 n k0) (fun w' hB' => by have cc := (hB'.cell (by exact hlD)).trans u1; go_simp) ?_
  simp only [Act.put, List.setIfInBounds_toArray, List.set_cons_zero, List.set_cons_succ]
  refine qb_pure rfl (.int .i64 (n : Int)) (fun w' hB' => by go_simp) ?_
  simp only [Act.put, List.setIfInBounds_toArray, List.set_cons_zero, List.set_cons_succ]
  refine qb_call rfl 25 #[.agg #[.int .i64 0, .slice a0 n k0], .int .i64 (n : Int)] (.bool true) (fun w' => by go_simp) (fun w' hB' => by rw [← HZ.out]; exact valid25g 0 (n : Int) _ (List.replicate n zeroP) w' (Row.mono r0 hB' hB'.size)) ?_
  simp only [Act.put, List.setIfInBounds_toArray, List.set_cons_zero, List.set_cons_succ]
  refine qb_pure rfl _ (fun w' hB' => by go_simp; rfl) ?_
  simp only [Act.put, List.setIfInBounds_toArray, List.set_cons_zero, List.set_cons_succ]
  refine qb_pure rfl _ (fun w' hB' => by go_simp; rfl) ?_
  simp only [Act.put, List.setIfInBounds_toArray, List.set_cons_zero, List.set_cons_succ]
  refine qb_nil ?_
  intro w5 hX8
  have hX9 := Below.call hX7 hX8
  go_wp2_with fail
  go_ret
  exact ⟨by first | rfl | simp, hX9⟩
end Go.Proofs.Ytlhncphnhgbclaa
