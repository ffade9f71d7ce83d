/- Accumulators: what two parts have (the program's). -/
import Derived.Test.YtlhncphnhgbclaaV
namespace Go.Proofs.Ytlhncphnhgbclaa
open Go.RowKit
set_option linter.unusedVariables false
set_option linter.unusedSimpArgs false

/-- what two have -/
def bothP (p q : Prt) : Prt :=
  if p.any && q.any then ⟨true, w128 (p.sum + q.sum), if q.mn < p.mn then q.mn else p.mn, if p.mx < q.mx then q.mx else p.mx⟩
  else if p.any then p else if q.any then q else zeroP
def partV (p : Prt) : Value := .agg #[.bool p.any, .int .i64 (hiW p.sum), .int .u64 (loW p.sum), .int .i64 p.mn, .int .i64 p.mx]

set_option maxRecDepth 100000 in
set_option maxHeartbeats 4000000 in
theorem part43_rest (p q : Prt) (w : World) (h : (p.any && q.any) = false) :
    Calls Try.prog 43 #[partV p, partV q] w fun e w' => e = .returned (partV (bothP p q)) ∧ Below w.heap.size w w' := by
  have hB : Below w.heap.size w (((w.alloc (Obj.cells #[.bool p.any, .int .i64 (hiW p.sum), .int .u64 (loW p.sum), .int .i64 p.mn, .int .i64 p.mx] 46)).alloc (Obj.cells #[.bool q.any, .int .i64 (hiW q.sum), .int .u64 (loW q.sum), .int .i64 q.mn, .int .i64 q.mx] 46)).alloc (Obj.cells #[.bool false, .int .i64 0, .int .u64 0, .int .i64 0, .int .i64 0] 46)) := Below.al (Below.al (Below.al (Below.refl _ _) _) _) _
  clear hB
  cases ha : p.any with
  | true =>
    have hb : q.any = false := by rw [ha] at h; simpa using h
    have hr : bothP p q = p := by simp [bothP, ha, hb]
    rw [hr]
    unfold partV
    rw [ha, hb]
    clear h hr ha hb
    go_enter Try.func43, Try.ntmps43
    go_wp2_with fail
    refine bodyPost_ret (results_cell_row rfl _ _ (w.heap.size + 1 + 1) 46 _ (0, 0) _ rfl (Blk.newAt _ _ _ (by simp)) Try.underlying46 rfl info46s) rfl ?_
    exact ⟨rfl, Below.al (Below.al (Below.al (Below.refl _ _) _) _) _⟩
  | false =>
    cases hb : q.any with
    | true =>
      have hr : bothP p q = q := by simp [bothP, ha, hb]
      rw [hr]
      unfold partV
      rw [ha, hb]
      clear h hr ha hb
      go_enter Try.func43, Try.ntmps43
      go_wp2_with fail
      refine bodyPost_ret (results_cell_row rfl _ _ (w.heap.size + 1 + 1) 46 _ (0, 0) _ rfl (Blk.newAt _ _ _ (by simp)) Try.underlying46 rfl info46s) rfl ?_
      exact ⟨rfl, Below.al (Below.al (Below.al (Below.refl _ _) _) _) _⟩
    | false =>
      have hr : bothP p q = zeroP := by simp [bothP, ha, hb]
      rw [hr]
      unfold partV
      rw [ha, hb, zh, zl, zmn, zmx]
      clear h hr ha hb
      go_enter Try.func43, Try.ntmps43
      go_wp2_with fail
      refine bodyPost_ret (results_cell_row rfl _ _ (w.heap.size + 1 + 1) 46 _ (0, 0) _ rfl (Blk.newAt _ _ _ (by simp)) Try.underlying46 rfl info46s) rfl ?_
      exact ⟨rfl, Below.al (Below.al (Below.al (Below.refl _ _) _) _) _⟩

set_option maxRecDepth 100000 in
set_option maxHeartbeats 4000000 in
theorem part43_both (p q : Prt) (w : World) (ha : p.any = true) (hb : q.any = true) :
    Calls Try.prog 43 #[partV p, partV q] w fun e w' => e = .returned (partV (bothP p q)) ∧ Below w.heap.size w w' := by
  have hr : bothP p q = ⟨true, w128 (p.sum + q.sum), if q.mn < p.mn then q.mn else p.mn, if p.mx < q.mx then q.mx else p.mx⟩ := by simp [bothP, ha, hb]
  rw [hr]
  unfold partV
  rw [ha, hb]
  obtain ⟨mn, hmn⟩ : ∃ m, (if q.mn < p.mn then q.mn else p.mn) = m := ⟨_, rfl⟩
  obtain ⟨mx, hmx⟩ : ∃ m, (if p.mx < q.mx then q.mx else p.mx) = m := ⟨_, rfl⟩
  rw [hmn, hmx]
  have HMN := Lib.hid hmn
  have HMX := Lib.hid hmx
  clear hr ha hb hmn hmx
  go_enter Try.func43, Try.ntmps43
  go_wp2_with fail
  obtain ⟨w1, hw1⟩ : ∃ w1, w1 = ((w.alloc (Obj.cells #[.bool true, .int .i64 (hiW p.sum), .int .u64 (loW p.sum), .int .i64 p.mn, .int .i64 p.mx] 46)).alloc (Obj.cells #[.bool true, .int .i64 (hiW q.sum), .int .u64 (loW q.sum), .int .i64 q.mn, .int .i64 q.mx] 46)).alloc (Obj.cells #[.bool false, .int .i64 0, .int .u64 0, .int .i64 0, .int .i64 0] 46) := ⟨_, rfl⟩
  have hA : Blk w1 w.heap.size 46 #[.bool true, .int .i64 (hiW p.sum), .int .u64 (loW p.sum), .int .i64 p.mn, .int .i64 p.mx] := by rw [hw1]; exact ((Blk.newAt _ _ _ rfl).alloc _).alloc _
  have hC : Blk w1 (w.heap.size + 1) 46 #[.bool true, .int .i64 (hiW q.sum), .int .u64 (loW q.sum), .int .i64 q.mn, .int .i64 q.mx] := by rw [hw1]; exact (Blk.newAt _ _ _ (by simp)).alloc _
  have hD : Blk w1 (w.heap.size + 1 + 1) 46 #[.bool false, .int .i64 0, .int .u64 0, .int .i64 0, .int .i64 0] := by rw [hw1]; exact Blk.newAt _ _ _ (by simp)
  have hX : Below w.heap.size w w1 := by rw [hw1]; exact Below.al (Below.al (Below.al (Below.refl _ _) _) _) _
  rw [← hw1]
  clear hw1
  have e13 := fun w => plus13 p.sum q.sum w
  unfold sumV at e13
  have hlD := Blk.lt hD
  have p3 : w1.cell? ⟨w.heap.size, 3, none⟩ = some (.int .i64 p.mn) := Blk.cell hA 3
  have p4 : w1.cell? ⟨w.heap.size, 4, none⟩ = some (.int .i64 p.mx) := Blk.cell hA 4
  have q3 : w1.cell? ⟨w.heap.size + 1, 3, none⟩ = some (.int .i64 q.mn) := Blk.cell hC 3
  have q4 : w1.cell? ⟨w.heap.size + 1, 4, none⟩ = some (.int .i64 q.mx) := Blk.cell hC 4
  refine hp_start (fun w' => Below (w.heap.size + 2) w1 w') 17 rfl (by kernel_rfl) (fun c a a' w hd h => ⟨hd ▸ h.1, h.2⟩) (fun hP => ?_)
  rw [show Array.replicate 17 false = #[false, false, false, false, false, false, false, false, false, false, false, false, false, false, false, false, false] from rfl]
  have HS0 : Below (w.heap.size + 2) w1 w1.drew := (Below.refl _ _).drew
  refine hp_take hP 0 (some 12) _ rfl rfl (by kernel_rfl) rfl (fun w' hS' => by go_simp; rfl) HS0 ?_
  simp only [Act.put, List.setIfInBounds_toArray, List.set_cons_zero, List.set_cons_succ]
  refine hp_load_at hP 1 (some 13) rfl rfl (by kernel_rfl) rfl 24 _ rfl w.heap.size 1 rfl #[.int .i64 (hiW p.sum), .int .u64 (loW p.sum)] _ (fun w' hS' j hj => (hS'.cell (by show w.heap.size < w.heap.size + 2; omega)).trans (by rw [Blk.cell hA (1 + j)]; rcases (by simp at hj; omega : j = 0 ∨ j = 1) with rfl | rfl <;> rfl)) Try.underlying24 rfl info24 HS0 ?_
  simp only [Act.put, List.setIfInBounds_toArray, List.set_cons_zero, List.set_cons_succ]
  refine hp_take hP 2 (some 14) _ rfl rfl (by kernel_rfl) rfl (fun w' hS' => by go_simp; rfl) HS0 ?_
  simp only [Act.put, List.setIfInBounds_toArray, List.set_cons_zero, List.set_cons_succ]
  refine hp_load_at hP 3 (some 15) rfl rfl (by kernel_rfl) rfl 24 _ rfl (w.heap.size + 1) 1 rfl #[.int .i64 (hiW q.sum), .int .u64 (loW q.sum)] _ (fun w' hS' j hj => (hS'.cell (by show (w.heap.size + 1) < w.heap.size + 2; omega)).trans (by rw [Blk.cell hC (1 + j)]; rcases (by simp at hj; omega : j = 0 ∨ j = 1) with rfl | rfl <;> rfl)) Try.underlying24 rfl info24 HS0 ?_
  simp only [Act.put, List.setIfInBounds_toArray, List.set_cons_zero, List.set_cons_succ]
  refine hp_take hP 5 (some 17) _ rfl rfl (by kernel_rfl) rfl (fun w' hS' => by go_simp; rfl) HS0 ?_
  simp only [Act.put, List.setIfInBounds_toArray, List.set_cons_zero, List.set_cons_succ]
  refine hp_take hP 6 (some 18) _ rfl rfl (by kernel_rfl) rfl (fun w' hS' => by have cc := (hS'.cell (show w.heap.size < w.heap.size + 2 by omega)).trans p3; go_simp; rfl) HS0 ?_
  simp only [Act.put, List.setIfInBounds_toArray, List.set_cons_zero, List.set_cons_succ]
  refine hp_take hP 7 (some 19) _ rfl rfl (by kernel_rfl) rfl (fun w' hS' => by go_simp; rfl) HS0 ?_
  simp only [Act.put, List.setIfInBounds_toArray, List.set_cons_zero, List.set_cons_succ]
  refine hp_take hP 8 (some 20) _ rfl rfl (by kernel_rfl) rfl (fun w' hS' => by have cc := (hS'.cell (show (w.heap.size + 1) < w.heap.size + 2 by omega)).trans q3; go_simp; rfl) HS0 ?_
  simp only [Act.put, List.setIfInBounds_toArray, List.set_cons_zero, List.set_cons_succ]
  refine hp_take hP 9 (some 21) (.int .i64 mn) rfl rfl (by kernel_rfl) rfl (fun w' hS' => by have h2 := HMN.out; go_simp) HS0 ?_
  simp only [Act.put, List.setIfInBounds_toArray, List.set_cons_zero, List.set_cons_succ]
  refine hp_take hP 10 (some 22) _ rfl rfl (by kernel_rfl) rfl (fun w' hS' => by go_simp; rfl) HS0 ?_
  simp only [Act.put, List.setIfInBounds_toArray, List.set_cons_zero, List.set_cons_succ]
  refine hp_take hP 11 (some 23) _ rfl rfl (by kernel_rfl) rfl (fun w' hS' => by have cc := (hS'.cell (show w.heap.size < w.heap.size + 2 by omega)).trans p4; go_simp; rfl) HS0 ?_
  simp only [Act.put, List.setIfInBounds_toArray, List.set_cons_zero, List.set_cons_succ]
  refine hp_take hP 12 (some 24) _ rfl rfl (by kernel_rfl) rfl (fun w' hS' => by go_simp; rfl) HS0 ?_
  simp only [Act.put, List.setIfInBounds_toArray, List.set_cons_zero, List.set_cons_succ]
  refine hp_take hP 13 (some 25) _ rfl rfl (by kernel_rfl) rfl (fun w' hS' => by have cc := (hS'.cell (show (w.heap.size + 1) < w.heap.size + 2 by omega)).trans q4; go_simp; rfl) HS0 ?_
  simp only [Act.put, List.setIfInBounds_toArray, List.set_cons_zero, List.set_cons_succ]
  refine hp_take hP 14 (some 26) (.int .i64 mx) rfl rfl (by kernel_rfl) rfl (fun w' hS' => by have h2 := HMX.out; go_simp) HS0 ?_
  simp only [Act.put, List.setIfInBounds_toArray, List.set_cons_zero, List.set_cons_succ]
  refine hp_call 4 (some 16) rfl rfl (by kernel_rfl) rfl 13 #[.agg #[.int .i64 (hiW p.sum), .int .u64 (loW p.sum)], .agg #[.int .i64 (hiW q.sum), .int .u64 (loW q.sum)]] (by go_simp) ((e13 _).mono ?_)
  rintro e w3 ⟨rfl, hB3⟩
  have HS1 : Below (w.heap.size + 2) w1 w3 := HS0.trans (hB3.mono (by have e : w1.drew.heap.size = w1.heap.size := rfl; omega))
  refine ⟨_, rfl, HS1, ?_⟩
  simp only [Act.put, List.setIfInBounds_toArray, List.set_cons_zero, List.set_cons_succ]
  refine hp_take hP 15 (some 27) _ rfl rfl (by kernel_rfl) rfl (fun w' hS' => by go_simp; rfl) HS1 ?_
  simp only [Act.put, List.setIfInBounds_toArray, List.set_cons_zero, List.set_cons_succ]
  have hD3 := Blk.below (Blk.drew hD) hB3 (by have e : w1.drew.heap.size = w1.heap.size := rfl; omega)
  refine hp_store_row 16 rfl rfl (by kernel_rfl) rfl 46 _ _ rfl (w.heap.size + 1 + 1) #[.bool true, .int .i64 (hiW (w128 (p.sum + q.sum))), .int .u64 (loW (w128 (p.sum + q.sum))), .int .i64 mn, .int .i64 mx] rfl rfl 46 _ hD3 info46s rfl (by simp [Value.oneCell']) (Below.setRow HS1 (by omega) _) ?_
  simp only [Act.put, List.setIfInBounds_toArray, List.set_cons_zero, List.set_cons_succ]
  refine hk_done (by kernel_rfl) ?_
  go_wp2_with fail
  refine bodyPost_ret (results_cell_row rfl _ _ (w.heap.size + 1 + 1) 46 _ (0, 0) _ rfl (Blk.setRow hD3) Try.underlying46 rfl info46s) rfl ?_
  exact ⟨rfl, hX.trans ((Below.setRow HS1 (by omega) _).mono (by omega))⟩

theorem part43 (p q : Prt) (w : World) : Calls Try.prog 43 #[partV p, partV q] w fun e w' => e = .returned (partV (bothP p q)) ∧ Below w.heap.size w w' := by
  cases h : (p.any && q.any) with
  | true =>
    rw [Bool.and_eq_true] at h
    exact part43_both p q w h.1 h.2
  | false => exact part43_rest p q w h
end Go.Proofs.Ytlhncphnhgbclaa
