/- AdviseChooses: the walk. -/
import Derived.Test.YtfgnmcmkjfnogaaH
import Derived.Test.YtfgnmcmkjfnogaaOpen
namespace Go.Proofs.Ytfgnmcmkjfnogaa
open Go.RowKit
set_option linter.unusedVariables false
set_option linter.unusedSimpArgs false

theorem infP (l : List Int) (off : Nat) (h : off + 64 ≤ l.length) : (Try.prog.info? 22).map (·.size) = some (ints (part l off)).size := inf22 l off h

set_option maxRecDepth 100000 in
set_option maxHeartbeats 4000000 in
theorem chooses3 (x : List Int) (set rows : Int) (w : World) (hx : x.length = 258) (hb0 : -9223372036854775808 ≤ x.getD 257 0) (hb1 : x.getD 257 0 ≤ 9223372036854775807) :
    Calls Try.prog 3 #[.agg (ints x), .int .i64 set, .int .i64 rows] w fun e w' => e = .returned (.bool true) ∧ Below w.heap.size w w' := by
  have p0 := Lib.hid (part_len x 0 (by omega))
  have p1 := Lib.hid (part_len x 64 (by omega))
  have p2 := Lib.hid (part_len x 128 (by omega))
  have p3 := Lib.hid (part_len x 192 (by omega))
  have HX := Lib.hid hx
  have hx1 : 258 ≤ x.length := by omega
  clear hx
  go_enter Try.func3, Try.ntmps3
  go_wp2_with fail
  have hA0 : Arr (w.alloc (Obj.cells (ints x) 24)) w.heap.size 24 x := Blk.newAt _ _ _ rfl
  have hB0 : Below w.heap.size w (w.alloc (Obj.cells (ints x) 24)) := (Below.refl _ _).alloc (Nat.le_refl _) _
  refine (awake9 _).mono ?_
  rintro e w1 ⟨rfl, hB1⟩
  have hA1 := Blk.below hA0 hB1 (Blk.lt hA0)
  have hA : Arr w1 w.heap.size 24 x := hA1
  have hB2 : Below w.heap.size w w1 := hB0.trans (hB1.mono hB0.size)
  clear hA0 hB0 hB1 hA1
  obtain ⟨bx, hbx⟩ : ∃ bx, bx = w.heap.size := ⟨_, rfl⟩
  have hs2 := hB2.size
  have hbl := Blk.lt hA
  rw [← hbx] at hA hbl hs2 hB2 ⊢
  obtain ⟨f, hf, c256⟩ : ∃ f, Hid (x.getD 256 0 = f) ∧ w1.cell? ⟨bx, 256, none⟩ = some (.int .i64 f) := ⟨_, rfl, Arr.cell hA (by omega)⟩
  obtain ⟨u, hu, c257⟩ : ∃ f, Hid (x.getD 257 0 = f) ∧ w1.cell? ⟨bx, 257, none⟩ = some (.int .i64 f) := ⟨_, rfl, Arr.cell hA (by omega)⟩
  rw [hu.out] at hb0 hb1
  have HBX := Lib.hid hbx
  clear hbx
  go_wp2_with (first | (refine wpList_load_at rfl 22 (.tmp 11) rfl bx 0 rfl (ints (part x 0)) _ (Arr.part hA 0 (by omega)) Try.underlying22 rfl (infP x 0 (by omega)) ?_) | (refine wpList_load_at rfl 22 (.tmp 13) rfl bx 64 rfl (ints (part x 64)) _ (Arr.part hA 64 (by omega)) Try.underlying22 rfl (infP x 64 (by omega)) ?_) | (refine wpList_load_at rfl 22 (.tmp 15) rfl bx 128 rfl (ints (part x 128)) _ (Arr.part hA 128 (by omega)) Try.underlying22 rfl (infP x 128 (by omega)) ?_))
  refine (choose10 _ _ _ _ _ _ p0.out p1.out p2.out hb0 hb1).mono ?_
  rintro e w2 ⟨v1, rfl, own1, hB3⟩
  have hA2 : Arr w2 bx 24 x := Blk.below hA hB3 hbl
  have d256 := (hB3.cell (by exact hbl)).trans c256
  have d257 := (hB3.cell (by exact hbl)).trans c257
  have hB4 : Below bx w w2 := hB2.trans (hB3.mono hs2)
  have hs4 := hB4.size
  have hbl2 := Blk.lt hA2
  clear hA c256 c257 hB2 hB3 hbl hs2
  go_wp2_with (first | (refine wpList_load_at rfl 22 (.tmp 23) rfl bx 0 rfl (ints (part x 0)) _ (Arr.part hA2 0 (by omega)) Try.underlying22 rfl (infP x 0 (by omega)) ?_) | (refine wpList_load_at rfl 22 (.tmp 25) rfl bx 64 rfl (ints (part x 64)) _ (Arr.part hA2 64 (by omega)) Try.underlying22 rfl (infP x 64 (by omega)) ?_) | (refine wpList_load_at rfl 22 (.tmp 27) rfl bx 128 rfl (ints (part x 128)) _ (Arr.part hA2 128 (by omega)) Try.underlying22 rfl (infP x 128 (by omega)) ?_))
  refine (choose12 _ _ _ _ _ _ p0.out p1.out p2.out hb0 hb1).mono ?_
  rintro e w3 ⟨v2, rfl, own2, hB3⟩
  have hA3 : Arr w3 bx 24 x := Blk.below hA2 hB3 hbl2
  have own1' := owns_below own1 hB3 (Nat.le_refl _)
  have hB5 : Below bx w w3 := hB4.trans (hB3.mono (Nat.le_of_lt hbl2))
  have hbl3 := Blk.lt hA3
  have r1 := RowI.of_owns own1'
  have r2 := RowI.of_owns own2
  clear hA2 d256 d257 hB4 hB3 hbl2 own1 own1' own2
  go_wp2_with fail
  refine (same11 w3.heap.size _ _ _ _ r1 r2).mono ?_
  rintro e w4 ⟨rfl, n, rfl⟩
  have hA4 : Arr (w3.drewN n) bx 24 x := hA3
  have hB6 : Below bx w (w3.drewN n) := Below.drewN hB5 n
  clear hA3 hB5 r1 r2 hbl3
  generalize w3.drewN n = w5 at *
  have hA3 := hA4
  have hbl3 := Blk.lt hA3
  go_wp2_with fail
  refine wp_region_below (by kernel_rfl) (by kernel_rfl) ?_
  refine qb_pure rfl _ (fun w' hB' => by go_simp; rfl) ?_
  simp only [Act.put, List.setIfInBounds_toArray, List.set_cons_zero, List.set_cons_succ]
  refine qb_pure rfl _ (fun w' hB' => by go_simp; rfl) ?_
  simp only [Act.put, List.setIfInBounds_toArray, List.set_cons_zero, List.set_cons_succ]
  refine qb_pure rfl _ (fun w' hB' => by go_simp; rfl) ?_
  simp only [Act.put, List.setIfInBounds_toArray, List.set_cons_zero, List.set_cons_succ]
  refine qb_pure rfl _ (fun w' hB' => by go_simp; rfl) ?_
  simp only [Act.put, List.setIfInBounds_toArray, List.set_cons_zero, List.set_cons_succ]
  refine qb_pure rfl _ (fun w' hB' => by go_simp; rfl) ?_
  simp only [Act.put, List.setIfInBounds_toArray, List.set_cons_zero, List.set_cons_succ]
  refine qb_pure rfl _ (fun w' hB' => by go_simp; rfl) ?_
  simp only [Act.put, List.setIfInBounds_toArray, List.set_cons_zero, List.set_cons_succ]
  refine qb_pure rfl _ (fun w' hB' => by go_simp; rfl) ?_
  simp only [Act.put, List.setIfInBounds_toArray, List.set_cons_zero, List.set_cons_succ]
  refine qb_load_at rfl 22 (.tmp 41) rfl bx 0 rfl (ints (part x 0)) _ hbl3 (Arr.part hA3 0 (by omega)) Try.underlying22 rfl (infP x 0 (by omega)) ?_
  simp only [Act.put, List.setIfInBounds_toArray, List.set_cons_zero, List.set_cons_succ]
  refine qb_pure rfl _ (fun w' hB' => by go_simp; rfl) ?_
  simp only [Act.put, List.setIfInBounds_toArray, List.set_cons_zero, List.set_cons_succ]
  refine qb_load_at rfl 22 (.tmp 43) rfl bx 192 rfl (ints (part x 192)) _ hbl3 (Arr.part hA3 192 (by omega)) Try.underlying22 rfl (infP x 192 (by omega)) ?_
  simp only [Act.put, List.setIfInBounds_toArray, List.set_cons_zero, List.set_cons_succ]
  refine qb_pure rfl _ (fun w' hB' => by go_simp; rfl) ?_
  simp only [Act.put, List.setIfInBounds_toArray, List.set_cons_zero, List.set_cons_succ]
  refine qb_call rfl 13 #[.int .i64 set, .agg (ints (part x 0)), .agg (ints (part x 192)), .int .i64 rows] (.int .i64 (benTo set (part x 0) (part x 192) rows 64)) (fun w' => by go_simp) (fun w' hB' => benefit13 set rows (part x 0) (part x 192) w' p0.out p3.out) ?_
  simp only [Act.put, List.setIfInBounds_toArray, List.set_cons_zero, List.set_cons_succ]
  refine qb_pure rfl _ (fun w' hB' => by go_simp; rfl) ?_
  simp only [Act.put, List.setIfInBounds_toArray, List.set_cons_zero, List.set_cons_succ]
  refine qb_pure rfl _ (fun w' hB' => by go_simp; rfl) ?_
  simp only [Act.put, List.setIfInBounds_toArray, List.set_cons_zero, List.set_cons_succ]
  refine qb_load_at rfl 22 (.tmp 48) rfl bx 0 rfl (ints (part x 0)) _ hbl3 (Arr.part hA3 0 (by omega)) Try.underlying22 rfl (infP x 0 (by omega)) ?_
  simp only [Act.put, List.setIfInBounds_toArray, List.set_cons_zero, List.set_cons_succ]
  refine qb_pure rfl _ (fun w' hB' => by go_simp; rfl) ?_
  simp only [Act.put, List.setIfInBounds_toArray, List.set_cons_zero, List.set_cons_succ]
  refine qb_load_at rfl 22 (.tmp 50) rfl bx 192 rfl (ints (part x 192)) _ hbl3 (Arr.part hA3 192 (by omega)) Try.underlying22 rfl (infP x 192 (by omega)) ?_
  simp only [Act.put, List.setIfInBounds_toArray, List.set_cons_zero, List.set_cons_succ]
  refine qb_pure rfl _ (fun w' hB' => by go_simp; rfl) ?_
  simp only [Act.put, List.setIfInBounds_toArray, List.set_cons_zero, List.set_cons_succ]
  refine qb_call rfl 14 #[.int .i64 set, .agg (ints (part x 0)), .agg (ints (part x 192)), .int .i64 rows] (.int .i64 (benTo set (part x 0) (part x 192) rows 64)) (fun w' => by go_simp) (fun w' hB' => benefit14 set rows (part x 0) (part x 192) w' p0.out p3.out) ?_
  simp only [Act.put, List.setIfInBounds_toArray, List.set_cons_zero, List.set_cons_succ]
  refine qb_pure rfl _ (fun w' hB' => by go_simp; rfl) ?_
  simp only [Act.put, List.setIfInBounds_toArray, List.set_cons_zero, List.set_cons_succ]
  refine qb_pure rfl _ (fun w' hB' => by go_simp; rfl) ?_
  simp only [Act.put, List.setIfInBounds_toArray, List.set_cons_zero, List.set_cons_succ]
  refine qb_pure rfl _ (fun w' hB' => by go_simp; rfl) ?_
  simp only [Act.put, List.setIfInBounds_toArray, List.set_cons_zero, List.set_cons_succ]
  refine qb_nil ?_
  intro w6 hB7
  go_wp2_with fail
  go_ret
  have hs6 := hB6.size
  rw [HBX.out] at hB6
  exact ⟨ret_bool (by simp), hB6.trans (hB7.mono hB6.size)⟩

theorem getD_bd {x : List Int} (h : ∀ y ∈ x, (Lit.int .i64 y).wf = true) (i : Nat) (hi : i < x.length) : -9223372036854775808 ≤ x.getD i 0 ∧ x.getD i 0 ≤ 9223372036854775807 := by
  apply wf_bd
  apply h
  rw [List.getD_eq_getElem?_getD, List.getElem?_eq_getElem hi]
  exact List.getElem_mem hi

theorem choosesLaw (x : List Int) (set rows : Int) (w : World) (hx : x.length = 258) (hw : ∀ y ∈ x, (Lit.int .i64 y).wf = true) (_h1 : (Lit.int .i64 set).wf = true) (_h2 : (Lit.int .i64 rows).wf = true) :
    Calls Try.prog 3 #[.agg (ints x), .int .i64 set, .int .i64 rows] w fun e w' => e = .returned (.bool true) ∧ Below w.heap.size w w' :=
  chooses3 x set rows w hx (getD_bd hw 257 (by omega)).1 (getD_bd hw 257 (by omega)).2

end Go.Proofs.Ytfgnmcmkjfnogaa
