/- Accumulators: a part with a number more (the document's). -/
import Derived.Test.YtlhncphnhgbclaaW
namespace Go.Proofs.Ytlhncphnhgbclaa
open Go.RowKit
set_option linter.unusedVariables false
set_option linter.unusedSimpArgs false

set_option maxRecDepth 100000 in
set_option maxHeartbeats 4000000 in
theorem part44_none (p : Prt) (n : Int) (w : World) (h : p.any = false) (hn : -9223372036854775808 ≤ n ∧ n ≤ 9223372036854775807) :
    Calls Try.prog 44 #[partV p, .int .i64 n] w fun e w' => e = .returned (partV (takeP p n)) ∧ Below w.heap.size w w' := by
  have hr : takeP p n = ⟨true, w128 (p.sum + n), n, n⟩ := by simp [takeP, h]
  rw [hr]
  unfold partV
  rw [h]
  have e16 := fun w => add16 p.sum n w hn
  obtain ⟨S, hS⟩ : ∃ S, w128 (p.sum + n) = S := ⟨_, rfl⟩
  rw [hS] at e16 ⊢
  unfold sumV at e16
  clear hr h hS
  have hA0 : Blk ((w.alloc (Obj.cells #[.bool false, .int .i64 (hiW p.sum), .int .u64 (loW p.sum), .int .i64 p.mn, .int .i64 p.mx] 46)).alloc (Obj.cells #[.bool false, .int .i64 0, .int .u64 0, .int .i64 0, .int .i64 0] 46)) (w.heap.size + 1) 46 #[.bool false, .int .i64 0, .int .u64 0, .int .i64 0, .int .i64 0] := Blk.newAt _ _ _ (by simp)
  have hX0 : Below w.heap.size w ((w.alloc (Obj.cells #[.bool false, .int .i64 (hiW p.sum), .int .u64 (loW p.sum), .int .i64 p.mn, .int .i64 p.mx] 46)).alloc (Obj.cells #[.bool false, .int .i64 0, .int .u64 0, .int .i64 0, .int .i64 0] 46)) := Below.al (Below.al (Below.refl _ _) _) _
  go_enter Try.func44, Try.ntmps44
  go_wp2_with fail
  refine (e16 _).mono ?_
  rintro e w3 ⟨rfl, hX1⟩
  have hA3 := Blk.below hA0 hX1 (Blk.lt hA0)
  have hX2 := Below.call hX0 hX1
  clear hA0 hX0 hX1
  go_wp2_with (refine wpList_store_row rfl 46 _ _ rfl (w.heap.size + 1) #[.bool true, .int .i64 (hiW S), .int .u64 (loW S), .int .i64 n, .int .i64 n] rfl rfl 46 _ hA3 info46s rfl (by simp [Value.oneCell']) ?_)
  refine bodyPost_ret (results_cell_row rfl _ _ (w.heap.size + 1) 46 #[.bool true, .int .i64 (hiW S), .int .u64 (loW S), .int .i64 n, .int .i64 n] (0, 0) _ rfl (Blk.setRow hA3) Try.underlying46 rfl info46s) rfl ?_
  exact ⟨rfl, Below.setRow hX2 (by omega) _⟩

set_option maxRecDepth 100000 in
set_option maxHeartbeats 4000000 in
theorem part44_some (p : Prt) (n : Int) (w : World) (h : p.any = true) (hn : -9223372036854775808 ≤ n ∧ n ≤ 9223372036854775807) :
    Calls Try.prog 44 #[partV p, .int .i64 n] w fun e w' => e = .returned (partV (takeP p n)) ∧ Below w.heap.size w w' := by
  have hr : takeP p n = ⟨true, w128 (p.sum + n), if n < p.mn then n else p.mn, if p.mx < n then n else p.mx⟩ := by simp [takeP, h]
  rw [hr]
  unfold partV
  rw [h]
  have e16 := fun w => add16 p.sum n w hn
  obtain ⟨S, hS⟩ : ∃ S, w128 (p.sum + n) = S := ⟨_, rfl⟩
  rw [hS] at e16 ⊢
  unfold sumV at e16
  obtain ⟨mn, hmn⟩ : ∃ m, (if n < p.mn then n else p.mn) = m := ⟨_, rfl⟩
  obtain ⟨mx, hmx⟩ : ∃ m, (if p.mx < n then n else p.mx) = m := ⟨_, rfl⟩
  rw [hmn, hmx]
  have HMN := Lib.hid hmn
  have HMX := Lib.hid hmx
  clear hr h hS hmn hmx
  have hA0 : Blk ((w.alloc (Obj.cells #[.bool true, .int .i64 (hiW p.sum), .int .u64 (loW p.sum), .int .i64 p.mn, .int .i64 p.mx] 46)).alloc (Obj.cells #[.bool false, .int .i64 0, .int .u64 0, .int .i64 0, .int .i64 0] 46)) w.heap.size 46 #[.bool true, .int .i64 (hiW p.sum), .int .u64 (loW p.sum), .int .i64 p.mn, .int .i64 p.mx] := (Blk.newAt _ _ _ rfl).alloc _
  have hC0 : Blk ((w.alloc (Obj.cells #[.bool true, .int .i64 (hiW p.sum), .int .u64 (loW p.sum), .int .i64 p.mn, .int .i64 p.mx] 46)).alloc (Obj.cells #[.bool false, .int .i64 0, .int .u64 0, .int .i64 0, .int .i64 0] 46)) (w.heap.size + 1) 46 #[.bool false, .int .i64 0, .int .u64 0, .int .i64 0, .int .i64 0] := Blk.newAt _ _ _ (by simp)
  have hX0 : Below w.heap.size w ((w.alloc (Obj.cells #[.bool true, .int .i64 (hiW p.sum), .int .u64 (loW p.sum), .int .i64 p.mn, .int .i64 p.mx] 46)).alloc (Obj.cells #[.bool false, .int .i64 0, .int .u64 0, .int .i64 0, .int .i64 0] 46)) := Below.al (Below.al (Below.refl _ _) _) _
  go_enter Try.func44, Try.ntmps44
  go_wp2_with fail
  refine (e16 _).mono ?_
  rintro e w3 ⟨rfl, hX1⟩
  have hA3 := Blk.below hA0 hX1 (Blk.lt hA0)
  have hC3 := Blk.below hC0 hX1 (Blk.lt hC0)
  have hX2 := Below.call hX0 hX1
  clear hA0 hC0 hX0 hX1
  have y1 : w3.cell? ⟨w.heap.size, 1, none⟩ = some (.int .i64 (hiW p.sum)) := Blk.cell hA3 1
  have y2 : w3.cell? ⟨w.heap.size, 2, none⟩ = some (.int .u64 (loW p.sum)) := Blk.cell hA3 2
  have ff := Blk.free hA3
  go_upto_region 4 with (fail)
  have hA4 : Blk ((w3.setCell ⟨w.heap.size, 1, none⟩ (.int .i64 (hiW S))).setCell ⟨w.heap.size, 2, none⟩ (.int .u64 (loW S))) w.heap.size 46 #[.bool true, .int .i64 (hiW S), .int .u64 (loW S), .int .i64 p.mn, .int .i64 p.mx] := Blk.set (Blk.set hA3 1 (.int .i64 (hiW S))) 2 (.int .u64 (loW S))
  have hC4 := Blk.other (Blk.other hC3 (p := ⟨w.heap.size, 1, none⟩) (by simp) (.int .i64 (hiW S))) (p := ⟨w.heap.size, 2, none⟩) (by simp) (.int .u64 (loW S))
  have hX4 := (hX2.setCell (p := ⟨w.heap.size, 1, none⟩) (Nat.le_refl _) (.int .i64 (hiW S))).setCell (p := ⟨w.heap.size, 2, none⟩) (Nat.le_refl _) (.int .u64 (loW S))
  generalize (w3.setCell ⟨w.heap.size, 1, none⟩ (.int .i64 (hiW S))).setCell ⟨w.heap.size, 2, none⟩ (.int .u64 (loW S)) = w4 at *
  clear hA3 hC3 hX2 y1 y2 ff
  have z3 : w4.cell? ⟨w.heap.size, 3, none⟩ = some (.int .i64 p.mn) := Blk.cell hA4 3
  have f4 := Blk.free hA4
  by_cases hc : n < p.mn
  · have hcd : decide (n < p.mn) = true := by simpa using hc
    have hm : mn = n := by rw [← HMN.out, if_pos hc]
    have HM := Lib.hid hm
    clear hm hc
    go_upto_region 6 with (fail)
    have hA5 : Blk (w4.setCell ⟨w.heap.size, 3, none⟩ (.int .i64 n)) w.heap.size 46 #[.bool true, .int .i64 (hiW S), .int .u64 (loW S), .int .i64 n, .int .i64 p.mx] := Blk.set hA4 3 (.int .i64 n)
    have hC5 := Blk.other hC4 (p := ⟨w.heap.size, 3, none⟩) (by simp) (.int .i64 n)
    have hX5 := hX4.setCell (p := ⟨w.heap.size, 3, none⟩) (Nat.le_refl _) (.int .i64 n)
    generalize w4.setCell ⟨w.heap.size, 3, none⟩ (.int .i64 n) = w5 at *
    clear hA4 hC4 hX4 z3 f4
    have hA5' : Blk w5 w.heap.size 46 #[.bool true, .int .i64 (hiW S), .int .u64 (loW S), .int .i64 mn, .int .i64 p.mx] := by rw [HM.out]; exact hA5
    clear hA5
    have z4 : w5.cell? ⟨w.heap.size, 4, none⟩ = some (.int .i64 p.mx) := Blk.cell hA5' 4
    have f5 := Blk.free hA5'
    by_cases hd : p.mx < n
    · have hdd : decide (p.mx < n) = true := by simpa using hd
      have hm2 : mx = n := by rw [← HMX.out, if_pos hd]
      have HM2 := Lib.hid hm2
      clear hm2 hd
      go_upto_region 8 with (fail)
      have hA6 : Blk (w5.setCell ⟨w.heap.size, 4, none⟩ (.int .i64 n)) w.heap.size 46 #[.bool true, .int .i64 (hiW S), .int .u64 (loW S), .int .i64 mn, .int .i64 n] := Blk.set hA5' 4 (.int .i64 n)
      have hCf := Blk.other hC5 (p := ⟨w.heap.size, 4, none⟩) (by simp) (.int .i64 n)
      have hXf := hX5.setCell (p := ⟨w.heap.size, 4, none⟩) (Nat.le_refl _) (.int .i64 n)
      generalize w5.setCell ⟨w.heap.size, 4, none⟩ (.int .i64 n) = w6 at *
      have hAf : Blk w6 w.heap.size 46 #[.bool true, .int .i64 (hiW S), .int .u64 (loW S), .int .i64 mn, .int .i64 mx] := by rw [HM2.out]; exact hA6
      clear hA6 hA5' hC5 hX5 z4 f5
      go_wp2_with (first | (refine wpList_load_at rfl 46 _ rfl w.heap.size 0 rfl #[.bool true, .int .i64 (hiW S), .int .u64 (loW S), .int .i64 mn, .int .i64 mx] _ (fun j _ => by rw [Nat.zero_add]; exact Blk.cell hAf j) Try.underlying46 rfl info46s ?_) | (refine wpList_store_row rfl 46 _ _ rfl (w.heap.size + 1) #[.bool true, .int .i64 (hiW S), .int .u64 (loW S), .int .i64 mn, .int .i64 mx] rfl rfl 46 _ hCf info46s rfl (by simp [Value.oneCell']) ?_))
      refine bodyPost_ret (results_cell_row rfl _ _ (w.heap.size + 1) 46 #[.bool true, .int .i64 (hiW S), .int .u64 (loW S), .int .i64 mn, .int .i64 mx] (0, 0) _ rfl (Blk.setRow hCf) Try.underlying46 rfl info46s) rfl ?_
      exact ⟨rfl, Below.setRow hXf (by omega) _⟩
    · have hdd : decide (p.mx < n) = false := by simpa using hd
      have hm2 : mx = p.mx := by rw [← HMX.out, if_neg hd]
      have HM2 := Lib.hid hm2
      clear hm2 hd
      go_upto_region 8 with (fail)
      have hAf : Blk w5 w.heap.size 46 #[.bool true, .int .i64 (hiW S), .int .u64 (loW S), .int .i64 mn, .int .i64 mx] := by rw [HM2.out]; exact hA5'
      have hCf := hC5
      have hXf := hX5
      clear hA5' hC5 hX5 z4 f5
      go_wp2_with (first | (refine wpList_load_at rfl 46 _ rfl w.heap.size 0 rfl #[.bool true, .int .i64 (hiW S), .int .u64 (loW S), .int .i64 mn, .int .i64 mx] _ (fun j _ => by rw [Nat.zero_add]; exact Blk.cell hAf j) Try.underlying46 rfl info46s ?_) | (refine wpList_store_row rfl 46 _ _ rfl (w.heap.size + 1) #[.bool true, .int .i64 (hiW S), .int .u64 (loW S), .int .i64 mn, .int .i64 mx] rfl rfl 46 _ hCf info46s rfl (by simp [Value.oneCell']) ?_))
      refine bodyPost_ret (results_cell_row rfl _ _ (w.heap.size + 1) 46 #[.bool true, .int .i64 (hiW S), .int .u64 (loW S), .int .i64 mn, .int .i64 mx] (0, 0) _ rfl (Blk.setRow hCf) Try.underlying46 rfl info46s) rfl ?_
      exact ⟨rfl, Below.setRow hXf (by omega) _⟩
  · have hcd : decide (n < p.mn) = false := by simpa using hc
    have hm : mn = p.mn := by rw [← HMN.out, if_neg hc]
    have HM := Lib.hid hm
    clear hm hc
    go_upto_region 6 with (fail)
    have hA5' : Blk w4 w.heap.size 46 #[.bool true, .int .i64 (hiW S), .int .u64 (loW S), .int .i64 mn, .int .i64 p.mx] := by rw [HM.out]; exact hA4
    have hC5 := hC4
    have hX5 := hX4
    obtain ⟨w5, hw5⟩ : ∃ w5 : World, w5 = w4 := ⟨_, rfl⟩
    rw [← hw5] at hA5' hC5 hX5 ⊢
    clear hw5 hA4 hC4 hX4 z3 f4
    have z4 : w5.cell? ⟨w.heap.size, 4, none⟩ = some (.int .i64 p.mx) := Blk.cell hA5' 4
    have f5 := Blk.free hA5'
    by_cases hd : p.mx < n
    · have hdd : decide (p.mx < n) = true := by simpa using hd
      have hm2 : mx = n := by rw [← HMX.out, if_pos hd]
      have HM2 := Lib.hid hm2
      clear hm2 hd
      go_upto_region 8 with (fail)
      have hA6 : Blk (w5.setCell ⟨w.heap.size, 4, none⟩ (.int .i64 n)) w.heap.size 46 #[.bool true, .int .i64 (hiW S), .int .u64 (loW S), .int .i64 mn, .int .i64 n] := Blk.set hA5' 4 (.int .i64 n)
      have hCf := Blk.other hC5 (p := ⟨w.heap.size, 4, none⟩) (by simp) (.int .i64 n)
      have hXf := hX5.setCell (p := ⟨w.heap.size, 4, none⟩) (Nat.le_refl _) (.int .i64 n)
      generalize w5.setCell ⟨w.heap.size, 4, none⟩ (.int .i64 n) = w6 at *
      have hAf : Blk w6 w.heap.size 46 #[.bool true, .int .i64 (hiW S), .int .u64 (loW S), .int .i64 mn, .int .i64 mx] := by rw [HM2.out]; exact hA6
      clear hA6 hA5' hC5 hX5 z4 f5
      go_wp2_with (first | (refine wpList_load_at rfl 46 _ rfl w.heap.size 0 rfl #[.bool true, .int .i64 (hiW S), .int .u64 (loW S), .int .i64 mn, .int .i64 mx] _ (fun j _ => by rw [Nat.zero_add]; exact Blk.cell hAf j) Try.underlying46 rfl info46s ?_) | (refine wpList_store_row rfl 46 _ _ rfl (w.heap.size + 1) #[.bool true, .int .i64 (hiW S), .int .u64 (loW S), .int .i64 mn, .int .i64 mx] rfl rfl 46 _ hCf info46s rfl (by simp [Value.oneCell']) ?_))
      refine bodyPost_ret (results_cell_row rfl _ _ (w.heap.size + 1) 46 #[.bool true, .int .i64 (hiW S), .int .u64 (loW S), .int .i64 mn, .int .i64 mx] (0, 0) _ rfl (Blk.setRow hCf) Try.underlying46 rfl info46s) rfl ?_
      exact ⟨rfl, Below.setRow hXf (by omega) _⟩
    · have hdd : decide (p.mx < n) = false := by simpa using hd
      have hm2 : mx = p.mx := by rw [← HMX.out, if_neg hd]
      have HM2 := Lib.hid hm2
      clear hm2 hd
      go_upto_region 8 with (fail)
      have hAf : Blk w5 w.heap.size 46 #[.bool true, .int .i64 (hiW S), .int .u64 (loW S), .int .i64 mn, .int .i64 mx] := by rw [HM2.out]; exact hA5'
      have hCf := hC5
      have hXf := hX5
      clear hA5' hC5 hX5 z4 f5
      go_wp2_with (first | (refine wpList_load_at rfl 46 _ rfl w.heap.size 0 rfl #[.bool true, .int .i64 (hiW S), .int .u64 (loW S), .int .i64 mn, .int .i64 mx] _ (fun j _ => by rw [Nat.zero_add]; exact Blk.cell hAf j) Try.underlying46 rfl info46s ?_) | (refine wpList_store_row rfl 46 _ _ rfl (w.heap.size + 1) #[.bool true, .int .i64 (hiW S), .int .u64 (loW S), .int .i64 mn, .int .i64 mx] rfl rfl 46 _ hCf info46s rfl (by simp [Value.oneCell']) ?_))
      refine bodyPost_ret (results_cell_row rfl _ _ (w.heap.size + 1) 46 #[.bool true, .int .i64 (hiW S), .int .u64 (loW S), .int .i64 mn, .int .i64 mx] (0, 0) _ rfl (Blk.setRow hCf) Try.underlying46 rfl info46s) rfl ?_
      exact ⟨rfl, Below.setRow hXf (by omega) _⟩
end Go.Proofs.Ytlhncphnhgbclaa
