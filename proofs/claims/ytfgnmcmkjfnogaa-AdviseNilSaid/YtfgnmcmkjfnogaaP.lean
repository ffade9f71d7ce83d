/- AdviseNil: of no advisor nothing comes. -/
import Derived.Test.YtfgnmcmkjfnogaaO
namespace Go.Proofs.Ytfgnmcmkjfnogaa
open Go.RowKit
set_option linter.unusedVariables false
set_option linter.unusedSimpArgs false

theorem advice_nil (R Y : List Int) (facts budget : Int) (w : World) (hR : R.length = 64) (hY : Y.length = 64)
    (hb0 : -9223372036854775808 ≤ budget) (hb1 : budget ≤ 9223372036854775807) :
    Calls Try.prog 22 #[.pointer none, .agg (ints R), .agg (ints Y), .int .i64 facts, .int .i64 budget] w fun e w' => ∃ v, e = .returned v ∧ (∃ a cap, v = .slice a 0 cap) ∧ Below w.heap.size w w' := by
  refine (advice22 (.pointer none) [] R Y facts budget w hR hY hb0 hb1 (by simp) (by simp) (fun w' _ _ => (log20_nil w').mono ?_)).mono ?_
  · rintro e w2 ⟨rfl, rfl⟩
    exact ⟨_, rfl, World.ownsRow_nil _ _ _ _, Below.refl _ _⟩
  · rintro e w2 ⟨v, rfl, hown, hB⟩
    have e0 : chooseL (wTo [] ([] : List Int).length) R Y facts budget = [] := none_w R Y facts budget
    rw [e0] at hown
    obtain ⟨a, cap, rfl, -, -, -⟩ := (RowI.of_owns hown).open
    exact ⟨_, rfl, ⟨a, cap, rfl⟩, hB⟩

def g1 : List Int := zeros64.set 0 5
theorem g1_len : Hid (g1.length = 64) := by rw [Hid]; decide +kernel
theorem lg1 : logL g1 1 = [5] := by decide +kernel

set_option maxRecDepth 100000 in
set_option maxHeartbeats 4000000 in
theorem nil7 (y : Int) (x : List Int) (w : World) (hx : x.length = 258) (hb0 : -9223372036854775808 ≤ x.getD 257 0) (hb1 : x.getD 257 0 ≤ 9223372036854775807) :
    Calls Try.prog 7 #[.int .i64 y, .agg (ints x)] w fun e w' => e = .returned (.bool true) ∧ Below w.heap.size w w' := by
  have p1 := Lib.hid (part_len x 64 (by omega))
  have p2 := Lib.hid (part_len x 128 (by omega))
  have HX := Lib.hid hx
  have hx1 : 258 ≤ x.length := by omega
  have hg1 := g1_len
  have hzv : ∀ w, (zeroValue 42).run Try.prog w = .ok (.agg (ints (advL zeros64 0))) w := fun _ => by kernel_rfl
  have ha0 : Arr (w.alloc (Obj.cells (ints x) 24)) w.heap.size 24 x := Blk.newAt _ _ _ rfl
  have hB0 : Below w.heap.size w (w.alloc (Obj.cells (ints x) 24)) := (Below.refl _ _).alloc (Nat.le_refl _) _
  have hB1 : Below w.heap.size w ((w.alloc (Obj.cells (ints x) 24)).alloc (Obj.cells (ints (advL zeros64 0)) 42)) := hB0.alloc hB0.size _
  have ha1 : Arr ((w.alloc (Obj.cells (ints x) 24)).alloc (Obj.cells (ints (advL zeros64 0)) 42)) w.heap.size 24 x := Blk.alloc ha0 _
  have hn1 : Arr ((w.alloc (Obj.cells (ints x) 24)).alloc (Obj.cells (ints (advL zeros64 0)) 42)) (w.heap.size + 1) 42 (advL zeros64 0) := Blk.newAt _ _ _ (by simp)
  have HA1 := Lib.hid ha1
  have HN1 := Lib.hid hn1
  have HB1 := Lib.hid hB1
  clear hx ha0 hB0 ha1 hn1 hB1
  go_enter Try.func7, Try.ntmps7
  go_wp2_with fail
  refine (note19_nil _ _ _).mono ?_
  rintro e w2 ⟨rfl, rfl⟩
  go_wp2_with fail
  refine (note19_yes zeros64 0 _ 5 _ (by omega) (by omega) HN1.out zeros64_len (by omega)).mono ?_
  rintro e w3 ⟨rfl, hN0, hsz, hB2⟩
  have hN : Arr w3 (w.heap.size + 1) 42 (advL g1 1) := hN0
  have hA : Arr w3 w.heap.size 24 x := Blk.below HA1.out hB2 (Nat.lt_succ_self _)
  have hB3 : Below w.heap.size w w3 := HB1.out.trans (hB2.mono (Nat.le_succ _))
  obtain ⟨bx, hbx⟩ : ∃ bx, bx = w.heap.size := ⟨_, rfl⟩
  obtain ⟨ba, hba⟩ : ∃ ba, ba = w.heap.size + 1 := ⟨_, rfl⟩
  rw [← hba] at hN ⊢
  rw [← hbx] at hA hB3 ⊢
  have hln := Blk.lt hN
  have hbl := Blk.lt hA
  obtain ⟨f, hf, c256⟩ : ∃ f, Hid (x.getD 256 0 = f) ∧ w3.cell? ⟨bx, 256, none⟩ = some (.int .i64 f) := ⟨_, rfl, Arr.cell hA (by omega)⟩
  obtain ⟨u, hu, c257⟩ : ∃ f, Hid (x.getD 257 0 = f) ∧ w3.cell? ⟨bx, 257, none⟩ = some (.int .i64 f) := ⟨_, rfl, Arr.cell hA (by omega)⟩
  rw [hu.out] at hb0 hb1
  have HBX := Lib.hid hbx
  clear hba hbx hN0 hsz hB2 HA1 HN1 HB1 hzv
  go_wp2_with fail
  refine hp_start (fun w' => Below w3.heap.size w3 w') 35 rfl (by kernel_rfl) (fun c a a' w hd h => ⟨hd ▸ h.1, h.2⟩) (fun hP => ?_)
  rw [show Array.replicate 35 false = #[false, false, false, false, false, false, false, false, false, false, false, false, false, false, false, false, false, false, false, false, false, false, false, false, false, false, false, false, false, false, false, false, false, false, false] from rfl]
  refine hp_call 0 (some 14) rfl rfl (by kernel_rfl) rfl 9 #[] (by go_simp) ((awake9 _).mono ?_)
  rintro e w4 ⟨rfl, hB4⟩
  have HS1 : Below w3.heap.size w3 w4 := (Below.refl _ w3).drew.trans hB4
  refine ⟨_, rfl, HS1, ?_⟩
  simp only [Act.put, List.setIfInBounds_toArray, List.set_cons_zero, List.set_cons_succ]
  refine hp_take hP 1 (some 15) _ rfl rfl (by kernel_rfl) rfl (fun w' hS' => by go_simp; rfl) HS1 ?_
  simp only [Act.put, List.setIfInBounds_toArray, List.set_cons_zero, List.set_cons_succ]
  refine hp_take hP 2 (some 16) _ rfl rfl (by kernel_rfl) rfl (fun w' hS' => by go_simp; rfl) HS1 ?_
  simp only [Act.put, List.setIfInBounds_toArray, List.set_cons_zero, List.set_cons_succ]
  refine hp_take hP 5 (some 19) _ rfl rfl (by kernel_rfl) rfl (fun w' hS' => by go_simp; rfl) HS1 ?_
  simp only [Act.put, List.setIfInBounds_toArray, List.set_cons_zero, List.set_cons_succ]
  refine hp_take hP 6 (some 20) _ rfl rfl (by kernel_rfl) rfl (fun w' hS' => by go_simp; rfl) HS1 ?_
  simp only [Act.put, List.setIfInBounds_toArray, List.set_cons_zero, List.set_cons_succ]
  refine hp_take hP 9 (some 23) _ rfl rfl (by kernel_rfl) rfl (fun w' hS' => by go_simp; rfl) HS1 ?_
  simp only [Act.put, List.setIfInBounds_toArray, List.set_cons_zero, List.set_cons_succ]
  refine hp_take hP 10 (some 24) _ rfl rfl (by kernel_rfl) rfl (fun w' hS' => by go_simp; rfl) HS1 ?_
  simp only [Act.put, List.setIfInBounds_toArray, List.set_cons_zero, List.set_cons_succ]
  refine hp_load_at hP 11 (some 25) rfl rfl (by kernel_rfl) rfl 22 _ rfl bx 64 rfl (ints (part x 64)) _ (fun w' hS' j hj => (hS'.cell (by exact hbl)).trans ((Arr.part hA 64 (by omega)) j hj)) Try.underlying22 rfl (infP x 64 (by omega)) HS1 ?_
  simp only [Act.put, List.setIfInBounds_toArray, List.set_cons_zero, List.set_cons_succ]
  refine hp_take hP 12 (some 26) _ rfl rfl (by kernel_rfl) rfl (fun w' hS' => by go_simp; rfl) HS1 ?_
  simp only [Act.put, List.setIfInBounds_toArray, List.set_cons_zero, List.set_cons_succ]
  refine hp_load_at hP 13 (some 27) rfl rfl (by kernel_rfl) rfl 22 _ rfl bx 128 rfl (ints (part x 128)) _ (fun w' hS' j hj => (hS'.cell (by exact hbl)).trans ((Arr.part hA 128 (by omega)) j hj)) Try.underlying22 rfl (infP x 128 (by omega)) HS1 ?_
  simp only [Act.put, List.setIfInBounds_toArray, List.set_cons_zero, List.set_cons_succ]
  refine hp_take hP 14 (some 28) _ rfl rfl (by kernel_rfl) rfl (fun w' hS' => by go_simp; rfl) HS1 ?_
  simp only [Act.put, List.setIfInBounds_toArray, List.set_cons_zero, List.set_cons_succ]
  refine hp_take hP 15 (some 29) _ rfl rfl (by kernel_rfl) rfl (fun w' hS' => by have cc := (hS'.cell (by exact hbl)).trans c256; go_simp; rfl) HS1 ?_
  simp only [Act.put, List.setIfInBounds_toArray, List.set_cons_zero, List.set_cons_succ]
  refine hp_take hP 16 (some 30) _ rfl rfl (by kernel_rfl) rfl (fun w' hS' => by go_simp; rfl) HS1 ?_
  simp only [Act.put, List.setIfInBounds_toArray, List.set_cons_zero, List.set_cons_succ]
  refine hp_take hP 17 (some 31) _ rfl rfl (by kernel_rfl) rfl (fun w' hS' => by have cc := (hS'.cell (by exact hbl)).trans c257; go_simp; rfl) HS1 ?_
  simp only [Act.put, List.setIfInBounds_toArray, List.set_cons_zero, List.set_cons_succ]
  refine hp_call 3 (some 17) rfl rfl (by kernel_rfl) rfl 20 #[.pointer none] (by go_simp) ((log20_nil _).mono ?_)
  rintro e w5 ⟨rfl, rfl⟩
  have HS2 := HS1
  refine ⟨_, rfl, HS2, ?_⟩
  simp only [Act.put, List.setIfInBounds_toArray, List.set_cons_zero, List.set_cons_succ]
  refine hp_take hP 4 (some 18) _ rfl rfl (by kernel_rfl) rfl (fun w' hS' => by go_simp; rfl) HS2 ?_
  simp only [Act.put, List.setIfInBounds_toArray, List.set_cons_zero, List.set_cons_succ]
  refine hp_call 7 (some 21) rfl rfl (by kernel_rfl) rfl 21 #[.pointer none, .int .i64 y] (by go_simp) ((weight21_nil y _).mono ?_)
  rintro e w5 ⟨rfl, rfl⟩
  have HS3 := HS2
  refine ⟨_, rfl, HS3, ?_⟩
  simp only [Act.put, List.setIfInBounds_toArray, List.set_cons_zero, List.set_cons_succ]
  refine hp_take hP 8 (some 22) _ rfl rfl (by kernel_rfl) rfl (fun w' hS' => by go_simp; rfl) HS3 ?_
  simp only [Act.put, List.setIfInBounds_toArray, List.set_cons_zero, List.set_cons_succ]
  refine hp_call 18 (some 32) rfl rfl (by kernel_rfl) rfl 22 #[.pointer none, .agg (ints (part x 64)), .agg (ints (part x 128)), .int .i64 f, .int .i64 u] (by go_simp) ((advice_nil (part x 64) (part x 128) f u _ p1.out p2.out hb0 hb1).mono ?_)
  rintro e w5 ⟨v5, rfl, ⟨a5, cap5, rfl⟩, hB5⟩
  have HS4 : Below w3.heap.size w3 w5 := HS3.trans (hB5.mono HS3.size)
  refine ⟨_, rfl, HS4, ?_⟩
  simp only [Act.put, List.setIfInBounds_toArray, List.set_cons_zero, List.set_cons_succ]
  refine hp_take hP 19 (some 33) _ rfl rfl (by kernel_rfl) rfl (fun w' hS' => by go_simp; rfl) HS4 ?_
  simp only [Act.put, List.setIfInBounds_toArray, List.set_cons_zero, List.set_cons_succ]
  refine hp_take hP 20 (some 34) _ rfl rfl (by kernel_rfl) rfl (fun w' hS' => by go_simp; rfl) HS4 ?_
  simp only [Act.put, List.setIfInBounds_toArray, List.set_cons_zero, List.set_cons_succ]
  refine hp_take hP 21 (some 35) _ rfl rfl (by kernel_rfl) rfl (fun w' hS' => by go_simp; rfl) HS4 ?_
  simp only [Act.put, List.setIfInBounds_toArray, List.set_cons_zero, List.set_cons_succ]
  refine hp_take hP 22 (some 36) _ rfl rfl (by kernel_rfl) rfl (fun w' hS' => by go_simp; rfl) HS4 ?_
  simp only [Act.put, List.setIfInBounds_toArray, List.set_cons_zero, List.set_cons_succ]
  refine hp_take hP 23 (some 37) _ rfl rfl (by kernel_rfl) rfl (fun w' hS' => by go_simp; rfl) HS4 ?_
  simp only [Act.put, List.setIfInBounds_toArray, List.set_cons_zero, List.set_cons_succ]
  refine hp_take hP 24 (some 38) _ rfl rfl (by kernel_rfl) rfl (fun w' hS' => by go_simp; rfl) HS4 ?_
  simp only [Act.put, List.setIfInBounds_toArray, List.set_cons_zero, List.set_cons_succ]
  refine hp_call 25 (some 39) rfl rfl (by kernel_rfl) rfl 20 #[.pointer (some ⟨ba, 0, none⟩)] (by go_simp) ((log20 g1 1 ba _ (Blk.below hN HS4 hln) hg1.out (by omega)).mono ?_)
  rw [lg1]
  rintro e w6 ⟨v6, rfl, hown6, hB6⟩
  obtain ⟨a6, cap6, rfl, -, -, -⟩ := (RowI.of_owns hown6).open
  have HS5 : Below w3.heap.size w3 w6 := HS4.trans (hB6.mono HS4.size)
  clear hown6
  refine ⟨_, rfl, HS5, ?_⟩
  simp only [Act.put, List.setIfInBounds_toArray, List.set_cons_zero, List.set_cons_succ]
  refine hp_take hP 26 (some 40) _ rfl rfl (by kernel_rfl) rfl (fun w' hS' => by go_simp; rfl) HS5 ?_
  simp only [Act.put, List.setIfInBounds_toArray, List.set_cons_zero, List.set_cons_succ]
  refine hp_take hP 27 (some 41) _ rfl rfl (by kernel_rfl) rfl (fun w' hS' => by go_simp; rfl) HS5 ?_
  simp only [Act.put, List.setIfInBounds_toArray, List.set_cons_zero, List.set_cons_succ]
  refine hp_take hP 28 (some 42) _ rfl rfl (by kernel_rfl) rfl (fun w' hS' => by go_simp; rfl) HS5 ?_
  simp only [Act.put, List.setIfInBounds_toArray, List.set_cons_zero, List.set_cons_succ]
  refine hp_take hP 29 (some 43) _ rfl rfl (by kernel_rfl) rfl (fun w' hS' => by go_simp; rfl) HS5 ?_
  simp only [Act.put, List.setIfInBounds_toArray, List.set_cons_zero, List.set_cons_succ]
  refine hp_take hP 30 (some 44) _ rfl rfl (by kernel_rfl) rfl (fun w' hS' => by go_simp; rfl) HS5 ?_
  simp only [Act.put, List.setIfInBounds_toArray, List.set_cons_zero, List.set_cons_succ]
  refine hp_call 31 (some 45) rfl rfl (by kernel_rfl) rfl 21 #[.pointer (some ⟨ba, 0, none⟩), .int .i64 5] (by go_simp) ((weight21 g1 1 ba 5 _ (Blk.below hN HS5 hln) hg1.out (by omega)).mono ?_)
  rw [lg1]
  rintro e w7 ⟨rfl, hB7⟩
  have HS6 : Below w3.heap.size w3 w7 := HS5.trans (hB7.mono HS5.size)
  refine ⟨_, rfl, HS6, ?_⟩
  simp only [Act.put, List.setIfInBounds_toArray, List.set_cons_zero, List.set_cons_succ]
  refine hp_take hP 32 (some 46) _ rfl rfl (by kernel_rfl) rfl (fun w' hS' => by go_simp; rfl) HS6 ?_
  simp only [Act.put, List.setIfInBounds_toArray, List.set_cons_zero, List.set_cons_succ]
  refine hp_take hP 33 (some 47) _ rfl rfl (by kernel_rfl) rfl (fun w' hS' => by go_simp; rfl) HS6 ?_
  simp only [Act.put, List.setIfInBounds_toArray, List.set_cons_zero, List.set_cons_succ]
  refine hp_take hP 34 (some 4) _ rfl rfl (by kernel_rfl) rfl (fun w' hS' => by go_simp; rfl) HS6 ?_
  simp only [Act.put, List.setIfInBounds_toArray, List.set_cons_zero, List.set_cons_succ]
  refine hk_done (by kernel_rfl) ?_
  go_wp2_with fail
  go_ret
  have e := HBX.out
  rw [e] at hB3
  exact ⟨rfl, hB3.trans (HS6.mono hB3.size)⟩

theorem nilLaw (y : Int) (x : List Int) (w : World) (hy : (Lit.int .i64 y).wf = true) (hx : x.length = 258) (hw : ∀ y ∈ x, (Lit.int .i64 y).wf = true) :
    Calls Try.prog 7 #[.int .i64 y, .agg (ints x)] w fun e w' => e = .returned (.bool true) ∧ Below w.heap.size w w' :=
  nil7 y x w hx (getD_bd hw 257 (by omega)).1 (getD_bd hw 257 (by omega)).2

end Go.Proofs.Ytfgnmcmkjfnogaa
