/- The numbers of the chapter's examples, and what is awake. -/
import Derived.Test.YtfgnmcmkjfnogaaF
import Derived.Deep.DeepCutAuto
namespace Go.Proofs.Ytfgnmcmkjfnogaa
open Go.RowKit
set_option linter.unusedVariables false
set_option linter.unusedSimpArgs false

/-- 258 numbers: weights, rows, bytes, costs, how many facts, a budget -/
def loopS (k : Nat) : List Int := (List.range 258).map fun i => if (64 ≤ i ∧ i < 64 + k) ∨ (128 ≤ i ∧ i < 128 + k) then 1000 else 0
theorem loopS_len (k : Nat) : (loopS k).length = 258 := by simp [loopS]
theorem loopS_at (k i : Nat) (h : i < 258) : (loopS k).getD i 0 = if (64 ≤ i ∧ i < 64 + k) ∨ (128 ≤ i ∧ i < 128 + k) then 1000 else 0 := by simp [loopS, h]
theorem loopS_step (k : Nat) (h : k < 64) : ((loopS k).set (64 + k) 1000).set (128 + k) 1000 = loopS (k + 1) := by
  apply List.ext_getElem
  · simp [loopS]
  · intro i h1 h2
    simp only [loopS, List.getElem_set, List.getElem_map, List.getElem_range]
    by_cases e1 : 128 + k = i
    · subst e1; rw [if_pos rfl, if_pos (by omega)]
    · rw [if_neg e1]
      by_cases e2 : 64 + k = i
      · subst e2; rw [if_pos rfl, if_pos (by omega)]
      · rw [if_neg e2]
        by_cases h3 : (64 ≤ i ∧ i < 64 + k) ∨ (128 ≤ i ∧ i < 128 + k)
        · rw [if_pos h3, if_pos (by omega)]
        · rw [if_neg h3, if_neg (by omega)]
def smallL : List Int := ((((((((((((((((((((loopS 64).set 71 50)).set 67 20)).set 65 5)).set 135 500)).set 131 200)).set 129 50)).set 256 100)).set 257 1000)).set 1 4)).set 3 1)
theorem smallL_def : ((((((((((((((((((((loopS 64).set 71 50)).set 67 20)).set 65 5)).set 135 500)).set 131 200)).set 129 50)).set 256 100)).set 257 1000)).set 1 4)).set 3 1) = smallL := by unfold smallL; rfl
theorem smallL_len : smallL.length = 258 := by decide +kernel
theorem Try.info24 : (Try.prog.info? 24).map (·.size) = some 258 := by kernel_rfl

theorem l71 : (loopS 64).getD 71 0 = 1000 := by decide +kernel
theorem l67 : (loopS 64).getD 67 0 = 1000 := by decide +kernel
theorem l65 : (loopS 64).getD 65 0 = 1000 := by decide +kernel
theorem l135 : (loopS 64).getD 135 0 = 1000 := by decide +kernel
theorem l131 : (loopS 64).getD 131 0 = 1000 := by decide +kernel
theorem l129 : (loopS 64).getD 129 0 = 1000 := by decide +kernel
theorem l256 : (loopS 64).getD 256 0 = 0 := by decide +kernel
theorem l257 : (loopS 64).getD 257 0 = 0 := by decide +kernel
theorem l1 : (loopS 64).getD 1 0 = 0 := by decide +kernel
theorem l3 : (loopS 64).getD 3 0 = 0 := by decide +kernel

set_option maxRecDepth 100000 in
set_option maxHeartbeats 4000000 in
theorem small27 (w : World) : Calls Try.prog 27 #[] w fun e w' => e = .returned (.agg (ints smallL)) ∧ Below w.heap.size w w' := by
  have hzv : ∀ w, (zeroValue 24).run Try.prog w = .ok (.agg (ints (loopS 0))) w := fun _ => by kernel_rfl
  go_enter Try.func27, Try.ntmps27
  go_wp2_with fail
  go_loopw [2] (fun i wr => ∃ k : Nat, k ≤ 64 ∧ i = .int .i64 k ∧ Arr wr (w.heap.size + 1) 24 (loopS k) ∧ Arr wr w.heap.size 24 (loopS 0) ∧ Below w.heap.size w wr) (fun i _ => 64 - (intOf i).toNat)
  case atStart =>
    refine ⟨0, by omega, rfl, ?_, ?_, ((Below.refl _ _).alloc (Nat.le_refl _) _).alloc (by simp) _⟩
    · exact Blk.newAt _ _ _ (by simp)
    · exact (Blk.newAt _ _ _ rfl).alloc _
  case round =>
    obtain ⟨k, hk, rfl, hA, hZ, hB⟩ := hrel
    by_cases hlt : k < 64
    · have c1 := Arr.cell hA (j := 64 + k) (by rw [loopS_len]; omega)
      have c2 := Arr.cell hA (j := 128 + k) (by rw [loopS_len]; omega)
      have f1 := Arr.free hA
      have hkI : (k : Int) < 64 := by omega
      go_wp2_with fail
      have hA1 := Arr.set (Arr.set hA (64 + k) 1000) (128 + k) 1000
      rw [loopS_step k hlt] at hA1
      have hZ1 := Blk.other (Blk.other hZ (p := ⟨w.heap.size + 1, 64 + k, none⟩) (by simp) (.int .i64 1000)) (p := ⟨w.heap.size + 1, 128 + k, none⟩) (by simp) (.int .i64 1000)
      go_roundw
      case rel => exact ⟨k + 1, by omega, by go_num, hA1, hZ1, (hB.setCell (p := ⟨w.heap.size + 1, 64 + k, none⟩) (by simp) _).setCell (p := ⟨w.heap.size + 1, 128 + k, none⟩) (by simp) _⟩
      case measure => simp [intOf]; omega
    · obtain rfl : k = 64 := by omega
      have c71 : wr.cell? ⟨w.heap.size + 1, 71, none⟩ = some (.int .i64 1000) := by rw [Arr.cell hA (j := 71) (by rw [loopS_len]; omega), l71]
      have c67 : wr.cell? ⟨w.heap.size + 1, 67, none⟩ = some (.int .i64 1000) := by rw [Arr.cell hA (j := 67) (by rw [loopS_len]; omega), l67]
      have c65 : wr.cell? ⟨w.heap.size + 1, 65, none⟩ = some (.int .i64 1000) := by rw [Arr.cell hA (j := 65) (by rw [loopS_len]; omega), l65]
      have c135 : wr.cell? ⟨w.heap.size + 1, 135, none⟩ = some (.int .i64 1000) := by rw [Arr.cell hA (j := 135) (by rw [loopS_len]; omega), l135]
      have c131 : wr.cell? ⟨w.heap.size + 1, 131, none⟩ = some (.int .i64 1000) := by rw [Arr.cell hA (j := 131) (by rw [loopS_len]; omega), l131]
      have c129 : wr.cell? ⟨w.heap.size + 1, 129, none⟩ = some (.int .i64 1000) := by rw [Arr.cell hA (j := 129) (by rw [loopS_len]; omega), l129]
      have c256 : wr.cell? ⟨w.heap.size + 1, 256, none⟩ = some (.int .i64 0) := by rw [Arr.cell hA (j := 256) (by rw [loopS_len]; omega), l256]
      have c257 : wr.cell? ⟨w.heap.size + 1, 257, none⟩ = some (.int .i64 0) := by rw [Arr.cell hA (j := 257) (by rw [loopS_len]; omega), l257]
      have c1 : wr.cell? ⟨w.heap.size + 1, 1, none⟩ = some (.int .i64 0) := by rw [Arr.cell hA (j := 1) (by rw [loopS_len]; omega), l1]
      have c3 : wr.cell? ⟨w.heap.size + 1, 3, none⟩ = some (.int .i64 0) := by rw [Arr.cell hA (j := 3) (by rw [loopS_len]; omega), l3]
      have f1 := Arr.free hA
      have hA0 := (Arr.set (Arr.set (Arr.set (Arr.set (Arr.set (Arr.set (Arr.set (Arr.set (Arr.set (Arr.set hA 71 50) 67 20) 65 5) 135 500) 131 200) 129 50) 256 100) 257 1000) 1 4) 3 1)
      have hA1 := hA0
      rw [smallL_def] at hA1
      have hZ1 := (Blk.other (Blk.other (Blk.other (Blk.other (Blk.other (Blk.other (Blk.other (Blk.other (Blk.other (Blk.other hZ (p := ⟨w.heap.size + 1, 71, none⟩) (by simp) (.int .i64 50)) (p := ⟨w.heap.size + 1, 67, none⟩) (by simp) (.int .i64 20)) (p := ⟨w.heap.size + 1, 65, none⟩) (by simp) (.int .i64 5)) (p := ⟨w.heap.size + 1, 135, none⟩) (by simp) (.int .i64 500)) (p := ⟨w.heap.size + 1, 131, none⟩) (by simp) (.int .i64 200)) (p := ⟨w.heap.size + 1, 129, none⟩) (by simp) (.int .i64 50)) (p := ⟨w.heap.size + 1, 256, none⟩) (by simp) (.int .i64 100)) (p := ⟨w.heap.size + 1, 257, none⟩) (by simp) (.int .i64 1000)) (p := ⟨w.heap.size + 1, 1, none⟩) (by simp) (.int .i64 4)) (p := ⟨w.heap.size + 1, 3, none⟩) (by simp) (.int .i64 1))
      have hB1 := ((((((((((hB.setCell (p := ⟨w.heap.size + 1, 71, none⟩) (by simp) (.int .i64 50)).setCell (p := ⟨w.heap.size + 1, 67, none⟩) (by simp) (.int .i64 20)).setCell (p := ⟨w.heap.size + 1, 65, none⟩) (by simp) (.int .i64 5)).setCell (p := ⟨w.heap.size + 1, 135, none⟩) (by simp) (.int .i64 500)).setCell (p := ⟨w.heap.size + 1, 131, none⟩) (by simp) (.int .i64 200)).setCell (p := ⟨w.heap.size + 1, 129, none⟩) (by simp) (.int .i64 50)).setCell (p := ⟨w.heap.size + 1, 256, none⟩) (by simp) (.int .i64 100)).setCell (p := ⟨w.heap.size + 1, 257, none⟩) (by simp) (.int .i64 1000)).setCell (p := ⟨w.heap.size + 1, 1, none⟩) (by simp) (.int .i64 4)).setCell (p := ⟨w.heap.size + 1, 3, none⟩) (by simp) (.int .i64 1))
      clear hA hA0 hZ hB
      go_upto_region 17 with (fail)
      refine wp_region_lit ?_
      refine wpList_load_at rfl 24 _ rfl _ _ rfl (ints smallL) _ (fun j _ => by rw [Nat.zero_add]; exact Blk.cell hA1 j) Try.underlying24 rfl (by rw [size_ints, smallL_len]; exact Try.info24) ?_
      refine wpList_store_row rfl 24 _ _ rfl w.heap.size (ints smallL) rfl rfl 24 _ hZ1 (by rw [size_ints, smallL_len]; exact Try.info24) (by rw [size_ints, size_ints, smallL_len, loopS_len]) (ints_one _) ?_
      have hZ2 := Blk.setRow (cs' := ints smallL) hZ1
      have hB2 := Below.setRow hB1 (Nat.le_refl _) (ints smallL)
      go_wp2_with fail
      refine bodyPost_ret (results_cell_row rfl _ _ w.heap.size 24 (ints smallL) (0, 0) _ rfl hZ2 Try.underlying24 rfl (by rw [size_ints, smallL_len]; exact Try.info24)) rfl ?_
      exact ⟨rfl, hB2⟩
end Go.Proofs.Ytfgnmcmkjfnogaa
