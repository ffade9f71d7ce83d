/- AccumOrder: the plain law (taking hangs on no order); the document's Same where both are the same. -/
import Derived.Test.YtlhncphnhgbclaaM
namespace Go.Proofs.Ytlhncphnhgbclaa
open Go.RowKit
set_option linter.unusedVariables false
set_option linter.unusedSimpArgs false

theorem takeP_comm (p : Prt) (x y : Int) : takeP (takeP p x) y = takeP (takeP p y) x := by
  have hs : w128 (w128 (p.sum + x) + y) = w128 (w128 (p.sum + y) + x) := by unfold w128; omega
  unfold takeP
  cases p.any
  · simp only [Bool.false_eq_true, if_false, if_true, Prt.mk.injEq, true_and]
    refine ⟨hs, ?_, ?_⟩ <;> split <;> split <;> omega
  · simp only [if_true, Prt.mk.injEq, true_and]
    refine ⟨hs, ?_, ?_⟩ <;> (repeat' split) <;> omega
/-- so many numbers are taken -/
def foldF (f : Nat → Int) (k : Nat) : Prt := ((List.range k).map f).foldl takeP zeroP
theorem foldF_step (f : Nat → Int) (k : Nat) : foldF f (k + 1) = takeP (foldF f k) (f k) := by
  unfold foldF; rw [List.range_succ]; simp
theorem fold_perm {l1 l2 : List Int} (h : l1.Perm l2) : l1.foldl takeP zeroP = l2.foldl takeP zeroP :=
  h.foldl_eq' (fun x _ y _ z => takeP_comm z x y) zeroP
theorem fold_rev (ms : List Int) (n : Nat) (h : n ≤ ms.length) : foldF (fun i => ms.getD (n - 1 - i) 0) n = foldF (fun i => ms.getD i 0) n := by
  unfold foldF
  apply fold_perm
  have e : (List.range n).map (fun i => ms.getD (n - 1 - i) 0) = ((List.range n).map (fun i => ms.getD i 0)).reverse := by
    apply List.ext_getElem
    · simp
    · intro i h1 h2
      simp at h1
      simp [List.getElem_reverse]
  rw [e]
  exact List.reverse_perm _
theorem fold_rot (ms : List Int) (n q : Nat) (h : n ≤ ms.length) (hq : q < n) : foldF (fun i => ms.getD ((i + q) % n) 0) n = foldF (fun i => ms.getD i 0) n := by
  unfold foldF
  apply fold_perm
  have e : (List.range n).map (fun i => ms.getD ((i + q) % n) 0) = ((List.range n).map (fun i => ms.getD i 0)).drop q ++ ((List.range n).map (fun i => ms.getD i 0)).take q := by
    apply List.ext_getElem
    · simp; omega
    · intro i h1 h2
      simp at h1
      by_cases hi : i < n - q
      · rw [List.getElem_append_left (by simp; omega)]
        simp
        rw [Nat.mod_eq_of_lt (by omega), Nat.add_comm]
      · rw [List.getElem_append_right (by simp; omega)]
        simp
        have e1 : (i + q) % n = i - (n - q) := by
          rw [show i + q = (i - (n - q)) + n by omega, Nat.add_mod_right, Nat.mod_eq_of_lt (by omega)]
        rw [e1]
  rw [e]
  have h2 := List.perm_append_comm (l₁ := ((List.range n).map (fun i => ms.getD i 0)).drop q) (l₂ := ((List.range n).map (fun i => ms.getD i 0)).take q)
  rw [List.take_append_drop] at h2
  exact h2
theorem fold_bd (f : Nat → Int) (k : Nat) : ∀ i, i < k → (foldF f k).any = true ∧ (foldF f k).mn ≤ f i ∧ f i ≤ (foldF f k).mx := by
  induction k with
  | zero => intro i hi; omega
  | succ k ih =>
    intro i hi
    rw [foldF_step]
    by_cases h : i < k
    · obtain ⟨h1, h2, h3⟩ := ih i h
      unfold takeP
      rw [if_pos h1]
      refine ⟨rfl, ?_, ?_⟩ <;> dsimp only <;> split <;> omega
    · obtain rfl : i = k := by omega
      unfold takeP
      split
      · refine ⟨rfl, ?_, ?_⟩ <;> dsimp only <;> split <;> omega
      · exact ⟨rfl, Int.le_refl _, Int.le_refl _⟩

set_option maxHeartbeats 4000000 in
theorem same22 (c : Int) (v1 v2 : Value) (ps : List Prt) (w : World) (h1 : RowP w.heap.size w v1 ps) (h2 : RowP w.heap.size w v2 ps) :
    Calls Try.prog 22 #[.agg #[.int .i64 c, v1], .agg #[.int .i64 c, v2]] w fun e w' => e = .returned (.bool true) ∧ Below w.heap.size w w' := by
  have hA0 : Blk ((w.alloc (Obj.cells #[.int .i64 c, v1] 39)).alloc (Obj.cells #[.int .i64 c, v2] 39)) w.heap.size 39 #[.int .i64 c, v1] := (Blk.newAt _ _ _ rfl).alloc _
  have hC0 : Blk ((w.alloc (Obj.cells #[.int .i64 c, v1] 39)).alloc (Obj.cells #[.int .i64 c, v2] 39)) (w.heap.size + 1) 39 #[.int .i64 c, v2] := Blk.newAt _ _ _ (by simp)
  have hB0 : Below w.heap.size w ((w.alloc (Obj.cells #[.int .i64 c, v1] 39)).alloc (Obj.cells #[.int .i64 c, v2] 39)) := Below.al (Below.al (Below.refl _ _) _) _
  obtain ⟨a1, cap1, rfl, hcap1, hmax1, hc1⟩ := h1.open
  obtain ⟨a2, cap2, rfl, hcap2, hmax2, hc2⟩ := h2.open
  have HC1 := Lib.hid hc1
  have HC2 := Lib.hid hc2
  have HA0 := Lib.hid hA0
  have HCC := Lib.hid hC0
  have HB0 := Lib.hid hB0
  clear hc1 hc2 h1 h2 hA0 hC0 hB0
  go_enter Try.func22, Try.ntmps22
  go_wp2_with fail
  go_loopw [5] (fun i wr => ∃ k : Nat, k ≤ ps.length ∧ i = .int .i64 k ∧ Blk wr w.heap.size 39 #[.int .i64 c, .slice a1 ps.length cap1] ∧ Blk wr (w.heap.size + 1) 39 #[.int .i64 c, .slice a2 ps.length cap2] ∧ Below w.heap.size w wr) (fun i _ => ps.length - (intOf i).toNat)
  case atStart => exact ⟨0, by omega, rfl, HA0.out, HCC.out, HB0.out⟩
  case round =>
    obtain ⟨k, hk, rfl, hA, hC, hB⟩ := hrel
    have k1 : wr.cell? ⟨w.heap.size, 1, none⟩ = some (.slice a1 ps.length cap1) := Blk.cell hA 1
    have k2 : wr.cell? ⟨w.heap.size + 1, 1, none⟩ = some (.slice a2 ps.length cap2) := Blk.cell hC 1
    by_cases hlt : k < ps.length
    · have d1 : decide ((k : Int) < ps.length) = true := by simp; omega
      obtain ⟨b1, off1, rfl, hb1, hcell1⟩ := HC1.out (by omega)
      obtain ⟨b2, off2, rfl, hb2, hcell2⟩ := HC2.out (by omega)
      obtain ⟨p, hp⟩ : ∃ p, ps.getD k zeroP = p := ⟨_, rfl⟩
      have l1 : b1 < wr.heap.size := Nat.lt_of_lt_of_le hb1 hB.size
      have l2 : b2 < wr.heap.size := Nat.lt_of_lt_of_le hb2 hB.size
      have lA := Blk.lt hA
      have lC := Blk.lt hC
      have q1 : ∀ j, j < 5 → wr.cell? ⟨b1, off1 + k * 5 + j, none⟩ = (partA p)[j]? := fun j hj => by rw [hB.cell (by exact hb1), hcell1 k j hlt hj, hp]
      have q2 : ∀ j, j < 5 → wr.cell? ⟨b2, off2 + k * 5 + j, none⟩ = (partA p)[j]? := fun j hj => by rw [hB.cell (by exact hb2), hcell2 k j hlt hj, hp]
      unfold partA at q1 q2
      have Q1 := Lib.hid q1
      have Q2 := Lib.hid q2
      clear hcell1 hcell2 q1 q2 hp
      go_wp2_with fail
      refine wp_region_below (by kernel_rfl) (by kernel_rfl) ?_
      refine qb_pure rfl _ (fun w' hB' => by go_simp; rfl) ?_
      simp only [Act.put, List.setIfInBounds_toArray, List.set_cons_zero, List.set_cons_succ]
      refine qb_pure rfl (.slice (some ⟨b1, off1, none⟩) ps.length cap1) (fun w' hB' => by have cc := (hB'.cell (by exact lA)).trans k1; go_simp) ?_
      simp only [Act.put, List.setIfInBounds_toArray, List.set_cons_zero, List.set_cons_succ]
      refine qb_pure rfl _ (fun w' hB' => by go_simp; rfl) ?_
      simp only [Act.put, List.setIfInBounds_toArray, List.set_cons_zero, List.set_cons_succ]
      refine qb_pure rfl (.pointer (some ⟨b1, off1 + k * 5, none⟩)) (fun w' hB' => by go_simp) ?_
      simp only [Act.put, List.setIfInBounds_toArray, List.set_cons_zero, List.set_cons_succ]
      refine qb_load_at rfl 46 (.tmp 30) rfl b1 (off1 + k * 5) rfl #[.bool p.any, .int .i64 (hiW p.sum), .int .u64 (loW p.sum), .int .i64 p.mn, .int .i64 p.mx] _ l1 Q1.out Try.underlying46 rfl info46s ?_
      simp only [Act.put, List.setIfInBounds_toArray, List.set_cons_zero, List.set_cons_succ]
      refine qb_pure rfl _ (fun w' hB' => by go_simp; rfl) ?_
      simp only [Act.put, List.setIfInBounds_toArray, List.set_cons_zero, List.set_cons_succ]
      refine qb_pure rfl (.slice (some ⟨b2, off2, none⟩) ps.length cap2) (fun w' hB' => by have cc := (hB'.cell (by exact lC)).trans k2; go_simp) ?_
      simp only [Act.put, List.setIfInBounds_toArray, List.set_cons_zero, List.set_cons_succ]
      refine qb_pure rfl _ (fun w' hB' => by go_simp; rfl) ?_
      simp only [Act.put, List.setIfInBounds_toArray, List.set_cons_zero, List.set_cons_succ]
      refine qb_pure rfl (.pointer (some ⟨b2, off2 + k * 5, none⟩)) (fun w' hB' => by go_simp) ?_
      simp only [Act.put, List.setIfInBounds_toArray, List.set_cons_zero, List.set_cons_succ]
      refine qb_load_at rfl 46 (.tmp 35) rfl b2 (off2 + k * 5) rfl #[.bool p.any, .int .i64 (hiW p.sum), .int .u64 (loW p.sum), .int .i64 p.mn, .int .i64 p.mx] _ l2 Q2.out Try.underlying46 rfl info46s ?_
      simp only [Act.put, List.setIfInBounds_toArray, List.set_cons_zero, List.set_cons_succ]
      refine qb_pure rfl (.bool false) (fun w' hB' => by go_simp) ?_
      simp only [Act.put, List.setIfInBounds_toArray, List.set_cons_zero, List.set_cons_succ]
      refine qb_nil ?_
      intro w2 hB2
      have hB3 := Below.call hB hB2
      have hA3 := Blk.below hA hB2 lA
      have hC3 := Blk.below hC hB2 lC
      go_wp2_with fail
      go_roundw
      case rel => exact ⟨k + 1, by omega, by go_num, hA3, hC3, hB3⟩
      case measure => simp [intOf]; omega
    · obtain rfl : k = ps.length := by omega
      go_wp2_with fail
      go_ret
      exact ⟨rfl, hB⟩
end Go.Proofs.Ytlhncphnhgbclaa
