/- Latches (plain). -/
import Derived.Test.YtkndcofmhfeaoaaU
namespace Go.Proofs.Ytkndcofmhfeaoaa
set_option linter.unusedVariables false
set_option linter.unusedSimpArgs false
/-- tasks 1 .. n, as T says, no locks -/
def ws (n : Nat) (T : Nat → TaskP) (o : List Int) : SchedP := ⟨n, tks n T, [], o⟩
def lateT (late : List Bool) (la : Int) (j : Nat) : TaskP := if late.getD j false then free0 0 else ⟨0, none, la⟩
theorem ws_start {n : Nat} (T : Nat → TaskP) (o : List Int) (h : n < 64) : startP (ws n T o) = ws (n + 1) (fun j => if j = n then free0 0 else T j) o ∧ startV (ws n T o) = ((n : Int) + 1, 0) := by
  have hl : ¬ 64 ≤ (ws n T o).tasks.length := by unfold ws; rw [tks_len]; omega
  constructor
  · unfold startP
    rw [if_neg hl]
    unfold ws
    simp only [tks_succ]
    congr 2
    exact tks_congr fun j hj => by rw [if_neg (by omega)]
  · unfold startV
    rw [if_neg hl]
    rfl
theorem ws_readyE {n j : Nat} (T : Nat → TaskP) (o : List Int) (h : j < n) {x : Int} (hx : 0 ≤ x) : readyE (ws n T o) ((j : Int) + 1) x = if waitsP (T j) then 51 else 0 := by
  unfold readyE
  rw [if_neg (by omega)]
  have e : getP (ws n T o).tasks ((j : Int) + 1) = some (T j) := tks_get T h
  rw [e]
theorem ws_await {n j : Nat} (T : Nat → TaskP) (h : j < n) {la : Int} (hx : 0 ≤ la) (hT : T j = free0 0) : awaitV (ws n T []) ((j : Int) + 1) la = (false, 0) ∧ awaitP (ws n T []) ((j : Int) + 1) la = ws n (fun i => if i = j then ⟨0, none, la⟩ else T i) [] := by
  have e := ws_readyE T [] h hx
  rw [hT] at e
  have e : readyE (ws n T []) ((j : Int) + 1) la = 0 := e
  constructor
  · unfold awaitV
    rw [e]; rfl
  · unfold awaitP
    rw [e]
    simp only [ne_eq, not_true_eq_false, if_false]
    rw [if_neg (by show la ∉ ([] : List Int); simp)]
    unfold ws
    simp only [tks_mod]
    congr 1
    refine tks_congr fun i hi => ?_
    by_cases e : i = j
    · subst e; rw [if_pos rfl, if_pos rfl, hT]; rfl
    · rw [if_neg e, if_neg e]
theorem ws_await2 {n j : Nat} (T : Nat → TaskP) (h : j < n) {la : Int} (hx : 0 ≤ la) (hT : T j = free0 0) : awaitV (ws n T [la]) ((j : Int) + 1) la = (true, 0) ∧ awaitP (ws n T [la]) ((j : Int) + 1) la = ws n T [la] := by
  have e := ws_readyE T [la] h hx
  rw [hT] at e
  have e : readyE (ws n T [la]) ((j : Int) + 1) la = 0 := e
  constructor
  · unfold awaitV
    rw [e]
    simp [ws]
  · unfold awaitP
    rw [e]
    simp [ws]
theorem ws_end {n j : Nat} (T : Nat → TaskP) (h : j < n) {la : Int} (hx : 0 ≤ la) (hT : T j = ⟨0, none, la⟩) : readyE (ws n T []) ((j : Int) + 1) 0 = 51 ∧ endP (ws n T []) ((j : Int) + 1) = ws n T [] := by
  have e := ws_readyE T [] h (x := 0) (by omega)
  rw [hT] at e
  have hw : waitsP ⟨0, none, la⟩ = true := by unfold waitsP; simp [hx]
  rw [hw] at e
  refine ⟨e, ?_⟩
  unfold endP
  rw [e]; rfl
/-- how many of the first n wait -/
def waitN (late : List Bool) (n : Nat) : Nat := ((List.range n).filter fun j => !late.getD j false).length
theorem waitN_succ (late : List Bool) (n : Nat) : waitN late (n + 1) = waitN late n + (if late.getD n false then 0 else 1) := by
  unfold waitN
  rw [List.range_succ, List.filter_append, List.length_append]
  congr 1
  by_cases h : late.getD n false = true
  · rw [List.filter_cons, if_neg (by rw [h]; decide), if_pos h]; rfl
  · rw [List.filter_cons, if_pos (by rw [Bool.not_eq_true] at h; rw [h]; rfl), if_neg h]; rfl
theorem waitN_le (late : List Bool) (n : Nat) : waitN late n ≤ n := by
  unfold waitN
  exact Nat.le_trans (List.length_filter_le _ _) (by simp)
theorem ws_open (late : List Bool) (n : Nat) {la : Int} (hx : 0 ≤ la) : openV (ws n (lateT late la) []) la = (waitN late n : Nat) ∧ openP (ws n (lateT late la) []) la = ws n (fun _ => free0 0) [la] := by
  constructor
  · unfold openV
    rw [if_neg (by omega)]
    congr 1
    unfold atLatch waitN ws tks
    rw [List.length_map, List.filter_map, List.length_map]
    congr 1
    apply List.filter_congr
    intro j _
    show decide ((lateT late la j).latch = la) = _
    have hne : ¬ (-1 : Int) = la := by omega
    cases hb : late.getD j false
    · rw [show lateT late la j = ⟨0, none, la⟩ by unfold lateT; rw [hb]; rfl]; simp
    · have e : lateT late la j = free0 0 := by unfold lateT; rw [hb]; rfl
      simp [e, free0, hne]
  · unfold openP
    rw [if_neg (by omega)]
    unfold ws
    congr 1
    unfold tks
    rw [List.map_map]
    apply List.map_congr_left
    intro j _
    show (if (lateT late la j).latch = la then _ else _) = _
    have hne : ¬ (-1 : Int) = la := by omega
    cases hb : late.getD j false
    · have e : lateT late la j = ⟨0, none, la⟩ := by unfold lateT; rw [hb]; rfl
      simp [e, free0]
    · have e : lateT late la j = free0 0 := by unfold lateT; rw [hb]; rfl
      simp [e, free0, hne]
theorem ws_open2 (n : Nat) {la : Int} (hx : 0 ≤ la) : openV (ws n (fun _ => free0 0) [la]) la = 0 := by
  unfold openV
  rw [if_neg (by omega)]
  have : atLatch (ws n (fun _ => free0 0) [la]) la = [] := by
    unfold atLatch ws
    rw [List.filter_eq_nil_iff.2]
    · rfl
    · intro p hp
      obtain ⟨j, hj, rfl⟩ := tks_mem hp
      have hne : ¬ (-1 : Int) = la := by omega
      simp [free0, hne]
  rw [this]; rfl
theorem lateT_succ (late : List Bool) (la : Int) (n : Nat) (h : late.getD n false = true) : ws (n + 1) (fun j => if j = n then free0 0 else lateT late la j) [] = ws (n + 1) (lateT late la) [] := by
  unfold ws
  congr 1
  refine tks_congr fun j hj => ?_
  by_cases e : j = n
  · subst e; rw [if_pos rfl]; unfold lateT; rw [h]; rfl
  · rw [if_neg e]
theorem lateT_succ2 (late : List Bool) (la : Int) (n : Nat) (h : late.getD n false = false) : ws (n + 1) (fun i => if i = n then ⟨0, none, la⟩ else (fun j => if j = n then free0 0 else lateT late la j) i) [] = ws (n + 1) (lateT late la) [] := by
  unfold ws
  congr 1
  refine tks_congr fun j hj => ?_
  by_cases e : j = n
  · subst e; rw [if_pos rfl]; unfold lateT; rw [h]; rfl
  · rw [if_neg e]; simp [e]
end Go.Proofs.Ytkndcofmhfeaoaa
