/- Accumulators: parts in memory; Clone; New. -/
import Derived.Test.YtlhncphnhgbclaaH
namespace Go.Proofs.Ytlhncphnhgbclaa
open Go.RowKit
set_option linter.unusedVariables false
set_option linter.unusedSimpArgs false

/-- what is kept of one measure -/
structure Prt where
  any : Bool
  sum : Int
  mn : Int
  mx : Int
def partC (p : Prt) : List Value := [.bool p.any, .int .i64 (hiW p.sum), .int .u64 (loW p.sum), .int .i64 p.mn, .int .i64 p.mx]
def partsC (ps : List Prt) : List Value := ps.flatMap partC
def zeroP : Prt := ⟨false, 0, 0, 0⟩
theorem partsC_len (ps : List Prt) : (partsC ps).length = ps.length * 5 := by
  induction ps with
  | nil => rfl
  | cons p ps ih => simp only [partsC, List.flatMap_cons, List.length_append] at *; rw [ih]; simp [partC]; omega
theorem partsC_one (ps : List Prt) : ∀ u ∈ partsC ps, u.oneCell' = true := by
  intro u hu
  unfold partsC at hu
  obtain ⟨p, -, hp⟩ := List.mem_flatMap.1 hu
  simp only [partC, List.mem_cons, List.not_mem_nil, or_false] at hp
  rcases hp with rfl | rfl | rfl | rfl | rfl <;> rfl
theorem partsC_at (ps : List Prt) (i r : Nat) (hi : i < ps.length) (hr : r < 5) : (partsC ps)[i * 5 + r]? = (partC (ps[i]))[r]? := by
  induction ps generalizing i with
  | nil => simp at hi
  | cons p ps ih =>
    have e : partsC (p :: ps) = partC p ++ partsC ps := by simp [partsC]
    have hl : (partC p).length = 5 := rfl
    rw [e]
    cases i with
    | zero =>
      rw [List.getElem?_append_left (by omega)]
      simp
    | succ i =>
      rw [List.getElem?_append_right (by omega)]
      simp at hi
      have := ih i (by omega)
      rw [show (i + 1) * 5 + r - (partC p).length = i * 5 + r by omega, this]
      simp
/-- a slice of parts that can be read -/
def RowP (B : Nat) (w : World) (v : Value) (ps : List Prt) : Prop := Row B w v ps.length 5 (partsC ps)
/-- nil, or a slice that is somewhere -/
def Som (v : Value) (n : Nat) : Prop := v = .slice none 0 0 ∨ ∃ a cap, v = .slice (some a) n cap

theorem Try.info46 : (Try.prog.info? 46).map (fun i => (i.zero, i.size, i.bytes)) = some (some (.agg #[.bool false, .int .i64 0, .int .u64 0, .int .i64 0, .int .i64 0]), 5, 40) := by kernel_rfl
theorem info39 : (Try.prog.info? 39).map (·.size) = some 2 := by kernel_rfl
theorem info46s : (Try.prog.info? 46).map (·.size) = some 5 := by kernel_rfl

set_option maxHeartbeats 4000000 in
theorem clone42 (v : Value) (n : Nat) (xs : List Value) (w : World) (h : Row w.heap.size w v n 5 xs) (hv : Som v n) (h1 : ∀ u ∈ xs, u.oneCell' = true) (hb : n * 40 ≤ 140737488355328) :
    Calls Try.prog 42 #[v] w fun e w' => ∃ v', e = .returned v' ∧ w'.ownsRow w.heap.size 46 5 v' n xs ∧ Below w.heap.size w w' := by
  obtain ⟨i0, hi, hz0, hz1, hz2⟩ := info_parts Try.info46
  rcases hv with rfl | ⟨a, cap, rfl⟩
  · obtain ⟨hl, a, cap, hv, -⟩ := h
    injection hv with e1 e2 e3
    have hn0 : n = 0 := e2.symm
    clear e1 e2 e3
    subst hn0
    have hx : xs = [] := List.eq_nil_of_length_eq_zero (by omega)
    subst hx
    have hnil : ∀ w, (binOp .eql 37 (.slice none 0 0) (.slice none 0 0)).run Try.prog w = .ok (.bool true) w := fun w => by simp [binOp, run_equal_slice_nil w 37 46 none 0 0 Try.underlying37]
    go_enter Try.func42, Try.ntmps42
    go_wp2_with fail
    go_ret
    exact ⟨_, rfl, World.ownsRow_nil _ _ _ _, Below.refl _ _⟩
  · obtain ⟨hl, a', cap', hv, hc1, hc2, hc3⟩ := h
    injection hv with e1 e2 e3
    subst e3
    have hnews : ∀ j u, xs[j]? = some u → (w.alloc (Obj.cells #[] 46)).cell? (a.add j) = some u := by
      intro j u hu
      have hj := (List.getElem?_eq_some_iff.1 hu).1
      obtain ⟨b, off, ha, hb', hc⟩ := hc3 (by omega)
      rw [← e1] at ha
      injection ha with ha
      subst ha
      have ea : (⟨b, off, none⟩ : Addr).add j = ⟨b, off + j, none⟩ := by unfold Addr.add; split <;> simp_all
      rw [ea, (Below.al (Below.refl w.heap.size w) (Obj.cells #[] 46)).cell (by exact hb'), hc j (by omega)]
      simp [List.getD_eq_getElem?_getD, hu]
    have hown : (w.alloc (Obj.cells #[] 46)).ownsRow w.heap.size 46 5 (.slice (some ⟨w.heap.size, 0, none⟩) 0 0) 0 [] :=
      ⟨rfl, .inr ⟨w.heap.size, 0, #[], rfl, Nat.le_refl _, heap_alloc_new w _, Nat.le_refl _, by unfold maxLen; omega, rfl, rfl⟩⟩
    have hn : n ≤ maxLen := by unfold maxLen; omega
    have heq : ∀ w, (binOp .eql 37 (.slice (some a) n cap) (.slice none 0 0)).run Try.prog w = .ok (.bool false) w := fun w => by simp [binOp, run_equal_slice_nil w 37 46 (some a) n cap Try.underlying37]
    have HN := Lib.hid hnews
    have HO := Lib.hid hown
    clear hnews hown hc3 e1
    go_enter Try.func42, Try.ntmps42
    go_wp2_with (at_builtin; refine wpList_append_own _ rfl _ _ 37 rfl w.heap.size 46 i0 (.agg #[.bool false, .int .i64 0, .int .u64 0, .int .i64 0, .int .i64 0]) 5 40 Try.underlying37 hi hz0 hz1 hz2 rfl (by decide) _ _ _ rfl HO.out a n cap xs rfl hl HN.out h1 (by omega) (by omega) (by simp) ?_; intro v' w1 hown' hgrow _)
    go_ret
    refine ⟨_, rfl, by simpa using hown', ?_⟩
    exact (Below.al (Below.refl w.heap.size w) _).grown hgrow (by simp) (fun k hk => by have h2 : some w.heap.size = some k := hk; injection h2 with h2; omega)

theorem zeroRow (n : Nat) (h : n ≤ 4) : (madeCells (Value.agg #[.bool false, .int .i64 0, .int .u64 0, .int .i64 0, .int .i64 0]).cells (n * 5)).toList = partsC (List.replicate n zeroP) := by
  rcases (by omega : n = 0 ∨ n = 1 ∨ n = 2 ∨ n = 3 ∨ n = 4) with rfl | rfl | rfl | rfl | rfl <;> kernel_rfl

set_option maxHeartbeats 4000000 in
theorem new21 (meas : Int) (n : Nat) (w : World) (hn : min (max meas 0) 4 = (n : Int)) (h4 : n ≤ 4) :
    Calls Try.prog 21 #[.int .i64 meas] w fun e w' => ∃ v, e = .returned (.agg #[.int .i64 0, v]) ∧ w'.ownsRow w.heap.size 46 5 v n (partsC (List.replicate n zeroP)) ∧ Below w.heap.size w w' := by
  obtain ⟨i0, hi, hz0, hz1, hz2⟩ := info_parts Try.info46
  have hb2 : Blk (w.alloc (Obj.cells #[.int .i64 0, .slice none 0 0] 39)) w.heap.size 39 #[.int .i64 0, .slice none 0 0] := Blk.newAt _ _ _ rfl
  have hB2 : Below w.heap.size w (w.alloc (Obj.cells #[.int .i64 0, .slice none 0 0] 39)) := Below.al (Below.refl _ _) _
  have HB2 := Lib.hid hb2
  have HBB := Lib.hid hB2
  clear hb2 hB2
  go_enter Try.func21, Try.ntmps21
  go_wp2_with (first | (refine wpList_make_full _ rfl _ _ 37 rfl (w.heap.size + 1) 46 i0 (.agg #[.bool false, .int .i64 0, .int .u64 0, .int .i64 0, .int .i64 0]) 5 Try.underlying37 hi hz0 hz1 .i64 .i64 _ _ n rfl rfl (by omega) (by omega) (by rw [hz2]; omega) (by unfold maxLen; omega) (by simp) ?_; intro w1 hown hgrow) | (refine wpList_store_row rfl 39 _ _ rfl w.heap.size _ rfl rfl 39 _ (Blk.grown HB2.out hgrow (by simp)) info39 rfl (by simp [Value.oneCell']) ?_))
  all_goals
    have hb3 := Blk.setRow (cs' := #[Value.int IntKind.i64 0, Value.slice (some { block := w.heap.size + 1, off := 0 }) n n]) (Blk.grown HB2.out hgrow (by simp))
    have hown2 : (w1.setRow w.heap.size #[Value.int IntKind.i64 0, Value.slice (some { block := w.heap.size + 1, off := 0 }) n n]).ownsRow w.heap.size 46 5 (.slice (some ⟨w.heap.size + 1, 0, none⟩) n n) n (partsC (List.replicate n zeroP)) := by
      rw [← zeroRow n h4]
      refine ⟨hown.1, ?_⟩
      rcases hown.2 with ⟨h, -⟩ | ⟨g, cap, cur, hv, hg, hh, r⟩
      · simp at h
      · refine .inr ⟨g, cap, cur, by simpa using hv, by omega, ?_, r⟩
        exact (setRow_other w1 w.heap.size g _ (by omega)).trans hh
    have hBf := Below.setRow (Below.grown HBB.out hgrow (by simp) (fun k hk => by simp at hk)) (Nat.le_refl _) #[Value.int IntKind.i64 0, Value.slice (some { block := w.heap.size + 1, off := 0 }) n n]
    refine bodyPost_ret (results_cell_row rfl _ _ w.heap.size 39 #[Value.int IntKind.i64 0, Value.slice (some { block := w.heap.size + 1, off := 0 }) n n] (0, 0) _ rfl hb3 Try.underlying39 rfl info39) rfl ?_
    exact ⟨_, rfl, hown2, hBf⟩
end Go.Proofs.Ytlhncphnhgbclaa
