/- Accumulators: what two parts have (the document's), where both have numbers. -/
import Derived.Test.YtlhncphnhgbclaaX
namespace Go.Proofs.Ytlhncphnhgbclaa
open Go.RowKit
set_option linter.unusedVariables false
set_option linter.unusedSimpArgs false

set_option maxRecDepth 100000 in
set_option maxHeartbeats 4000000 in
theorem part45_both (p q : Prt) (w : World) (h : p.any = true) (hqa : q.any = true) :
    Calls Try.prog 45 #[partV p, partV q] w fun e w' => e = .returned (partV (bothP p q)) ∧ Below w.heap.size w w' := by
  have hr : bothP p q = ⟨true, w128 (p.sum + q.sum), if q.mn < p.mn then q.mn else p.mn, if p.mx < q.mx then q.mx else p.mx⟩ := by simp [bothP, h, hqa]
  rw [hr]
  unfold partV
  rw [h, hqa]
  have e16 := fun w => plus14 p.sum q.sum w
  obtain ⟨S, hS⟩ : ∃ S, w128 (p.sum + q.sum) = S := ⟨_, rfl⟩
  rw [hS] at e16 ⊢
  unfold sumV at e16
  obtain ⟨mn, hmn⟩ : ∃ m, (if q.mn < p.mn then q.mn else p.mn) = m := ⟨_, rfl⟩
  obtain ⟨mx, hmx⟩ : ∃ m, (if p.mx < q.mx then q.mx else p.mx) = m := ⟨_, rfl⟩
  rw [hmn, hmx]
  have HMN := Lib.hid hmn
  have HMX := Lib.hid hmx
  clear hr h hqa hS hmn hmx
  have hA0 : Blk (((w.alloc (Obj.cells #[.bool true, .int .i64 (hiW p.sum), .int .u64 (loW p.sum), .int .i64 p.mn, .int .i64 p.mx] 46)).alloc (Obj.cells #[.bool true, .int .i64 (hiW q.sum), .int .u64 (loW q.sum), .int .i64 q.mn, .int .i64 q.mx] 46)).alloc (Obj.cells #[.bool false, .int .i64 0, .int .u64 0, .int .i64 0, .int .i64 0] 46)) w.heap.size 46 #[.bool true, .int .i64 (hiW p.sum), .int .u64 (loW p.sum), .int .i64 p.mn, .int .i64 p.mx] := ((Blk.newAt _ _ _ rfl).alloc _).alloc _
  have hQ0 : Blk (((w.alloc (Obj.cells #[.bool true, .int .i64 (hiW p.sum), .int .u64 (loW p.sum), .int .i64 p.mn, .int .i64 p.mx] 46)).alloc (Obj.cells #[.bool true, .int .i64 (hiW q.sum), .int .u64 (loW q.sum), .int .i64 q.mn, .int .i64 q.mx] 46)).alloc (Obj.cells #[.bool false, .int .i64 0, .int .u64 0, .int .i64 0, .int .i64 0] 46)) (w.heap.size + 1) 46 #[.bool true, .int .i64 (hiW q.sum), .int .u64 (loW q.sum), .int .i64 q.mn, .int .i64 q.mx] := (Blk.newAt _ _ _ (by simp)).alloc _
  have hC0 : Blk (((w.alloc (Obj.cells #[.bool true, .int .i64 (hiW p.sum), .int .u64 (loW p.sum), .int .i64 p.mn, .int .i64 p.mx] 46)).alloc (Obj.cells #[.bool true, .int .i64 (hiW q.sum), .int .u64 (loW q.sum), .int .i64 q.mn, .int .i64 q.mx] 46)).alloc (Obj.cells #[.bool false, .int .i64 0, .int .u64 0, .int .i64 0, .int .i64 0] 46)) (w.heap.size + 1 + 1) 46 #[.bool false, .int .i64 0, .int .u64 0, .int .i64 0, .int .i64 0] := Blk.newAt _ _ _ (by simp)
  have hX0 : Below w.heap.size w (((w.alloc (Obj.cells #[.bool true, .int .i64 (hiW p.sum), .int .u64 (loW p.sum), .int .i64 p.mn, .int .i64 p.mx] 46)).alloc (Obj.cells #[.bool true, .int .i64 (hiW q.sum), .int .u64 (loW q.sum), .int .i64 q.mn, .int .i64 q.mx] 46)).alloc (Obj.cells #[.bool false, .int .i64 0, .int .u64 0, .int .i64 0, .int .i64 0] 46)) := Below.al (Below.al (Below.al (Below.refl _ _) _) _) _
  go_enter Try.func45, Try.ntmps45
  go_wp2_with fail
  refine (e16 _).mono ?_
  rintro e w3 ⟨rfl, hX1⟩
  have hA3 := Blk.below hA0 hX1 (Blk.lt hA0)
  have hC3 := Blk.below hC0 hX1 (Blk.lt hC0)
  have hQ3 := Blk.below hQ0 hX1 (Blk.lt hQ0)
  have hX2 := Below.call hX0 hX1
  clear hA0 hC0 hQ0 hX0 hX1
  have y1 : w3.cell? ⟨w.heap.size, 1, none⟩ = some (.int .i64 (hiW p.sum)) := Blk.cell hA3 1
  have y2 : w3.cell? ⟨w.heap.size, 2, none⟩ = some (.int .u64 (loW p.sum)) := Blk.cell hA3 2
  have ff := Blk.free hA3
  go_upto_region 8 with (fail)
  have hA4 : Blk ((w3.setCell ⟨w.heap.size, 1, none⟩ (.int .i64 (hiW S))).setCell ⟨w.heap.size, 2, none⟩ (.int .u64 (loW S))) w.heap.size 46 #[.bool true, .int .i64 (hiW S), .int .u64 (loW S), .int .i64 p.mn, .int .i64 p.mx] := Blk.set (Blk.set hA3 1 (.int .i64 (hiW S))) 2 (.int .u64 (loW S))
  have hC4 := Blk.other (Blk.other hC3 (p := ⟨w.heap.size, 1, none⟩) (by show w.heap.size ≠ _; omega) (.int .i64 (hiW S))) (p := ⟨w.heap.size, 2, none⟩) (by show w.heap.size ≠ _; omega) (.int .u64 (loW S))
  have hQ4 := Blk.other (Blk.other hQ3 (p := ⟨w.heap.size, 1, none⟩) (by show w.heap.size ≠ _; omega) (.int .i64 (hiW S))) (p := ⟨w.heap.size, 2, none⟩) (by show w.heap.size ≠ _; omega) (.int .u64 (loW S))
  have hX4 := (hX2.setCell (p := ⟨w.heap.size, 1, none⟩) (Nat.le_refl _) (.int .i64 (hiW S))).setCell (p := ⟨w.heap.size, 2, none⟩) (Nat.le_refl _) (.int .u64 (loW S))
  generalize (w3.setCell ⟨w.heap.size, 1, none⟩ (.int .i64 (hiW S))).setCell ⟨w.heap.size, 2, none⟩ (.int .u64 (loW S)) = w4 at *
  clear hA3 hC3 hQ3 hX2 y1 y2 ff
  have z3 : w4.cell? ⟨w.heap.size, 3, none⟩ = some (.int .i64 p.mn) := Blk.cell hA4 3
  have f4 := Blk.free hA4
  have v3 : w4.cell? ⟨w.heap.size + 1, 3, none⟩ = some (.int .i64 q.mn) := Blk.cell hQ4 3
  by_cases hc : q.mn < p.mn
  · have hcd : decide (q.mn < p.mn) = true := by simpa using hc
    have hm : mn = q.mn := by rw [← HMN.out, if_pos hc]
    have HM := Lib.hid hm
    clear hm hc
    go_upto_region 10 with (fail)
    have hA5 : Blk (w4.setCell ⟨w.heap.size, 3, none⟩ (.int .i64 q.mn)) w.heap.size 46 #[.bool true, .int .i64 (hiW S), .int .u64 (loW S), .int .i64 q.mn, .int .i64 p.mx] := Blk.set hA4 3 (.int .i64 q.mn)
    have hC5 := Blk.other hC4 (p := ⟨w.heap.size, 3, none⟩) (by show w.heap.size ≠ _; omega) (.int .i64 q.mn)
    have hQ5 := Blk.other hQ4 (p := ⟨w.heap.size, 3, none⟩) (by show w.heap.size ≠ _; omega) (.int .i64 q.mn)
    have hX5 := hX4.setCell (p := ⟨w.heap.size, 3, none⟩) (Nat.le_refl _) (.int .i64 q.mn)
    generalize w4.setCell ⟨w.heap.size, 3, none⟩ (.int .i64 q.mn) = w5 at *
    clear hA4 hC4 hQ4 hX4 z3 v3 f4
    have hA5' : Blk w5 w.heap.size 46 #[.bool true, .int .i64 (hiW S), .int .u64 (loW S), .int .i64 mn, .int .i64 p.mx] := by rw [HM.out]; exact hA5
    clear hA5
    have z4 : w5.cell? ⟨w.heap.size, 4, none⟩ = some (.int .i64 p.mx) := Blk.cell hA5' 4
    have f5 := Blk.free hA5'
    have v4 : w5.cell? ⟨w.heap.size + 1, 4, none⟩ = some (.int .i64 q.mx) := Blk.cell hQ5 4
    by_cases hd : p.mx < q.mx
    · have hdd : decide (p.mx < q.mx) = true := by simpa using hd
      have hm2 : mx = q.mx := by rw [← HMX.out, if_pos hd]
      have HM2 := Lib.hid hm2
      clear hm2 hd
      go_upto_region 12 with (fail)
      have hA6 : Blk (w5.setCell ⟨w.heap.size, 4, none⟩ (.int .i64 q.mx)) w.heap.size 46 #[.bool true, .int .i64 (hiW S), .int .u64 (loW S), .int .i64 mn, .int .i64 q.mx] := Blk.set hA5' 4 (.int .i64 q.mx)
      have hCf := Blk.other hC5 (p := ⟨w.heap.size, 4, none⟩) (by show w.heap.size ≠ _; omega) (.int .i64 q.mx)
      have hXf := hX5.setCell (p := ⟨w.heap.size, 4, none⟩) (Nat.le_refl _) (.int .i64 q.mx)
      generalize w5.setCell ⟨w.heap.size, 4, none⟩ (.int .i64 q.mx) = w6 at *
      have hAf : Blk w6 w.heap.size 46 #[.bool true, .int .i64 (hiW S), .int .u64 (loW S), .int .i64 mn, .int .i64 mx] := by rw [HM2.out]; exact hA6
      clear hA6 hA5' hC5 hX5 z4 f5
      go_wp2_with (first | (refine wpList_load_at rfl 46 _ rfl w.heap.size 0 rfl #[.bool true, .int .i64 (hiW S), .int .u64 (loW S), .int .i64 mn, .int .i64 mx] _ (fun j _ => by rw [Nat.zero_add]; exact Blk.cell hAf j) Try.underlying46 rfl info46s ?_) | (refine wpList_store_row rfl 46 _ _ rfl (w.heap.size + 1 + 1) #[.bool true, .int .i64 (hiW S), .int .u64 (loW S), .int .i64 mn, .int .i64 mx] rfl rfl 46 _ hCf info46s rfl (by simp [Value.oneCell']) ?_))
      refine bodyPost_ret (results_cell_row rfl _ _ (w.heap.size + 1 + 1) 46 #[.bool true, .int .i64 (hiW S), .int .u64 (loW S), .int .i64 mn, .int .i64 mx] (0, 0) _ rfl (Blk.setRow hCf) Try.underlying46 rfl info46s) rfl ?_
      exact ⟨rfl, Below.setRow hXf (by omega) _⟩
    · have hdd : decide (p.mx < q.mx) = false := by simpa using hd
      have hm2 : mx = p.mx := by rw [← HMX.out, if_neg hd]
      have HM2 := Lib.hid hm2
      clear hm2 hd
      go_upto_region 12 with (fail)
      have hAf : Blk w5 w.heap.size 46 #[.bool true, .int .i64 (hiW S), .int .u64 (loW S), .int .i64 mn, .int .i64 mx] := by rw [HM2.out]; exact hA5'
      have hCf := hC5
      have hXf := hX5
      clear hA5' hC5 hX5 z4 f5
      go_wp2_with (first | (refine wpList_load_at rfl 46 _ rfl w.heap.size 0 rfl #[.bool true, .int .i64 (hiW S), .int .u64 (loW S), .int .i64 mn, .int .i64 mx] _ (fun j _ => by rw [Nat.zero_add]; exact Blk.cell hAf j) Try.underlying46 rfl info46s ?_) | (refine wpList_store_row rfl 46 _ _ rfl (w.heap.size + 1 + 1) #[.bool true, .int .i64 (hiW S), .int .u64 (loW S), .int .i64 mn, .int .i64 mx] rfl rfl 46 _ hCf info46s rfl (by simp [Value.oneCell']) ?_))
      refine bodyPost_ret (results_cell_row rfl _ _ (w.heap.size + 1 + 1) 46 #[.bool true, .int .i64 (hiW S), .int .u64 (loW S), .int .i64 mn, .int .i64 mx] (0, 0) _ rfl (Blk.setRow hCf) Try.underlying46 rfl info46s) rfl ?_
      exact ⟨rfl, Below.setRow hXf (by omega) _⟩
  · have hcd : decide (q.mn < p.mn) = false := by simpa using hc
    have hm : mn = p.mn := by rw [← HMN.out, if_neg hc]
    have HM := Lib.hid hm
    clear hm hc
    go_upto_region 10 with (fail)
    have hA5' : Blk w4 w.heap.size 46 #[.bool true, .int .i64 (hiW S), .int .u64 (loW S), .int .i64 mn, .int .i64 p.mx] := by rw [HM.out]; exact hA4
    have hC5 := hC4
    have hQ5 := hQ4
    have hX5 := hX4
    obtain ⟨w5, hw5⟩ : ∃ w5 : World, w5 = w4 := ⟨_, rfl⟩
    rw [← hw5] at hA5' hC5 hQ5 hX5 ⊢
    clear hw5 hA4 hC4 hQ4 hX4 z3 v3 f4
    have z4 : w5.cell? ⟨w.heap.size, 4, none⟩ = some (.int .i64 p.mx) := Blk.cell hA5' 4
    have f5 := Blk.free hA5'
    have v4 : w5.cell? ⟨w.heap.size + 1, 4, none⟩ = some (.int .i64 q.mx) := Blk.cell hQ5 4
    by_cases hd : p.mx < q.mx
    · have hdd : decide (p.mx < q.mx) = true := by simpa using hd
      have hm2 : mx = q.mx := by rw [← HMX.out, if_pos hd]
      have HM2 := Lib.hid hm2
      clear hm2 hd
      go_upto_region 12 with (fail)
      have hA6 : Blk (w5.setCell ⟨w.heap.size, 4, none⟩ (.int .i64 q.mx)) w.heap.size 46 #[.bool true, .int .i64 (hiW S), .int .u64 (loW S), .int .i64 mn, .int .i64 q.mx] := Blk.set hA5' 4 (.int .i64 q.mx)
      have hCf := Blk.other hC5 (p := ⟨w.heap.size, 4, none⟩) (by show w.heap.size ≠ _; omega) (.int .i64 q.mx)
      have hXf := hX5.setCell (p := ⟨w.heap.size, 4, none⟩) (Nat.le_refl _) (.int .i64 q.mx)
      generalize w5.setCell ⟨w.heap.size, 4, none⟩ (.int .i64 q.mx) = w6 at *
      have hAf : Blk w6 w.heap.size 46 #[.bool true, .int .i64 (hiW S), .int .u64 (loW S), .int .i64 mn, .int .i64 mx] := by rw [HM2.out]; exact hA6
      clear hA6 hA5' hC5 hX5 z4 f5
      go_wp2_with (first | (refine wpList_load_at rfl 46 _ rfl w.heap.size 0 rfl #[.bool true, .int .i64 (hiW S), .int .u64 (loW S), .int .i64 mn, .int .i64 mx] _ (fun j _ => by rw [Nat.zero_add]; exact Blk.cell hAf j) Try.underlying46 rfl info46s ?_) | (refine wpList_store_row rfl 46 _ _ rfl (w.heap.size + 1 + 1) #[.bool true, .int .i64 (hiW S), .int .u64 (loW S), .int .i64 mn, .int .i64 mx] rfl rfl 46 _ hCf info46s rfl (by simp [Value.oneCell']) ?_))
      refine bodyPost_ret (results_cell_row rfl _ _ (w.heap.size + 1 + 1) 46 #[.bool true, .int .i64 (hiW S), .int .u64 (loW S), .int .i64 mn, .int .i64 mx] (0, 0) _ rfl (Blk.setRow hCf) Try.underlying46 rfl info46s) rfl ?_
      exact ⟨rfl, Below.setRow hXf (by omega) _⟩
    · have hdd : decide (p.mx < q.mx) = false := by simpa using hd
      have hm2 : mx = p.mx := by rw [← HMX.out, if_neg hd]
      have HM2 := Lib.hid hm2
      clear hm2 hd
      go_upto_region 12 with (fail)
      have hAf : Blk w5 w.heap.size 46 #[.bool true, .int .i64 (hiW S), .int .u64 (loW S), .int .i64 mn, .int .i64 mx] := by rw [HM2.out]; exact hA5'
      have hCf := hC5
      have hXf := hX5
      clear hA5' hC5 hX5 z4 f5
      go_wp2_with (first | (refine wpList_load_at rfl 46 _ rfl w.heap.size 0 rfl #[.bool true, .int .i64 (hiW S), .int .u64 (loW S), .int .i64 mn, .int .i64 mx] _ (fun j _ => by rw [Nat.zero_add]; exact Blk.cell hAf j) Try.underlying46 rfl info46s ?_) | (refine wpList_store_row rfl 46 _ _ rfl (w.heap.size + 1 + 1) #[.bool true, .int .i64 (hiW S), .int .u64 (loW S), .int .i64 mn, .int .i64 mx] rfl rfl 46 _ hCf info46s rfl (by simp [Value.oneCell']) ?_))
      refine bodyPost_ret (results_cell_row rfl _ _ (w.heap.size + 1 + 1) 46 #[.bool true, .int .i64 (hiW S), .int .u64 (loW S), .int .i64 mn, .int .i64 mx] (0, 0) _ rfl (Blk.setRow hCf) Try.underlying46 rfl info46s) rfl ?_
      exact ⟨rfl, Below.setRow hXf (by omega) _⟩

set_option maxRecDepth 100000 in
set_option maxHeartbeats 4000000 in
theorem part45_rest (p q : Prt) (w : World) (h : (p.any && q.any) = false) :
    Calls Try.prog 45 #[partV p, partV q] w fun e w' => e = .returned (partV (bothP p q)) ∧ Below w.heap.size w w' := by
  have hB : Below w.heap.size w (((w.alloc (Obj.cells #[.bool p.any, .int .i64 (hiW p.sum), .int .u64 (loW p.sum), .int .i64 p.mn, .int .i64 p.mx] 46)).alloc (Obj.cells #[.bool q.any, .int .i64 (hiW q.sum), .int .u64 (loW q.sum), .int .i64 q.mn, .int .i64 q.mx] 46)).alloc (Obj.cells #[.bool false, .int .i64 0, .int .u64 0, .int .i64 0, .int .i64 0] 46)) := Below.al (Below.al (Below.al (Below.refl _ _) _) _) _
  clear hB
  cases ha : p.any with
  | true =>
    have hb : q.any = false := by rw [ha] at h; simpa using h
    have hr : bothP p q = p := by simp [bothP, ha, hb]
    rw [hr]
    unfold partV
    rw [ha, hb]
    clear h hr ha hb
    go_enter Try.func45, Try.ntmps45
    go_wp2_with fail
    refine bodyPost_ret (results_cell_row rfl _ _ (w.heap.size + 1 + 1) 46 _ (0, 0) _ rfl (Blk.newAt _ _ _ (by simp)) Try.underlying46 rfl info46s) rfl ?_
    exact ⟨rfl, Below.al (Below.al (Below.al (Below.refl _ _) _) _) _⟩
  | false =>
    cases hb : q.any with
    | true =>
      have hr : bothP p q = q := by simp [bothP, ha, hb]
      rw [hr]
      unfold partV
      rw [ha, hb]
      clear h hr ha hb
      go_enter Try.func45, Try.ntmps45
      go_wp2_with fail
      refine bodyPost_ret (results_cell_row rfl _ _ (w.heap.size + 1 + 1) 46 _ (0, 0) _ rfl (Blk.newAt _ _ _ (by simp)) Try.underlying46 rfl info46s) rfl ?_
      exact ⟨rfl, Below.al (Below.al (Below.al (Below.refl _ _) _) _) _⟩
    | false =>
      have hr : bothP p q = zeroP := by simp [bothP, ha, hb]
      rw [hr]
      unfold partV
      rw [ha, hb, zh, zl, zmn, zmx]
      clear h hr ha hb
      go_enter Try.func45, Try.ntmps45
      go_wp2_with fail
      refine bodyPost_ret (results_cell_row rfl _ _ (w.heap.size + 1 + 1) 46 _ (0, 0) _ rfl (Blk.newAt _ _ _ (by simp)) Try.underlying46 rfl info46s) rfl ?_
      exact ⟨rfl, Below.al (Below.al (Below.al (Below.refl _ _) _) _) _⟩


theorem part45 (p q : Prt) (w : World) : Calls Try.prog 45 #[partV p, partV q] w fun e w' => e = .returned (partV (bothP p q)) ∧ Below w.heap.size w w' := by
  cases h : (p.any && q.any) with
  | true =>
    rw [Bool.and_eq_true] at h
    exact part45_both p q w h.1 h.2
  | false => exact part45_rest p q w h
end Go.Proofs.Ytlhncphnhgbclaa
