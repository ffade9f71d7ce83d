/- Schedulers with tasks 1 .. n; all picked by turns (plain). -/
import Derived.Test.YtkndcofmhfeaoaaEP
namespace Go.Proofs.Ytkndcofmhfeaoaa
set_option linter.unusedVariables false
set_option linter.unusedSimpArgs false
/-- the tasks 1 .. n, each as T says -/
def tks (n : Nat) (T : Nat → TaskP) : List (Int × TaskP) := (List.range n).map fun (j : Nat) => ((j : Int) + 1, T j)
theorem tks_len (n : Nat) (T : Nat → TaskP) : (tks n T).length = n := by unfold tks; simp
theorem tks_succ (n : Nat) (T : Nat → TaskP) : tks (n + 1) T = tks n T ++ [((n : Int) + 1, T n)] := by unfold tks; rw [List.range_succ, List.map_append]; rfl
theorem tks_congr {n : Nat} {T U : Nat → TaskP} (h : ∀ j, j < n → T j = U j) : tks n T = tks n U := by
  unfold tks
  apply List.map_congr_left
  intro j hj
  rw [h j (by simpa using hj)]
theorem tks_get {n j : Nat} (T : Nat → TaskP) (h : j < n) : getP (tks n T) ((j : Int) + 1) = some (T j) := by
  induction n with
  | zero => omega
  | succ n ih =>
    rw [tks_succ, getP_append]
    by_cases e : j < n
    · rw [ih e]; rfl
    · have e : j = n := by omega
      subst e
      have : getP (tks j T) ((j : Int) + 1) = none := getP_none.2 fun p hp => by
        unfold tks at hp
        rw [List.mem_map] at hp
        obtain ⟨i, hi, rfl⟩ := hp
        simp at hi
        show (i : Int) + 1 ≠ (j : Int) + 1
        omega
      rw [this]
      simp [getP]
theorem tks_mod (n : Nat) (T : Nat → TaskP) (j : Nat) (f : TaskP → TaskP) : modP (tks n T) ((j : Int) + 1) f = tks n (fun i => if i = j then f (T i) else T i) := by
  unfold modP tks
  rw [List.map_map]
  apply List.map_congr_left
  intro i _
  show (if (i : Int) + 1 = (j : Int) + 1 then _ else _) = _
  by_cases e : i = j
  · simp [e]
  · have e2 : ¬ (i : Int) + 1 = (j : Int) + 1 := by omega
    simp [e]
    intro h; omega
theorem tks_mem {n : Nat} {T : Nat → TaskP} {p : Int × TaskP} (h : p ∈ tks n T) : ∃ j, j < n ∧ p = ((j : Int) + 1, T j) := by
  unfold tks at h
  rw [List.mem_map] at h
  obtain ⟨j, hj, rfl⟩ := h
  exact ⟨j, by simpa using hj, rfl⟩
def free0 (c : Int) : TaskP := ⟨c, none, -1⟩
/-- tasks 1 .. n that nothing waits for, no locks -/
def st (n : Nat) (c : Nat → Int) : SchedP := ⟨n, tks n (fun j => free0 (c j)), [], []⟩
theorem st_zero : st 0 (fun _ => 0) = zeroP := rfl
theorem st_start {n : Nat} (h : n < 64) : startP (st n (fun _ => 0)) = st (n + 1) (fun _ => 0) ∧ startV (st n (fun _ => 0)) = ((n : Int) + 1, 0) := by
  have hl : ¬ 64 ≤ (st n (fun _ => 0)).tasks.length := by unfold st; rw [tks_len]; omega
  constructor
  · unfold startP
    rw [if_neg hl]
    unfold st
    simp only [tks_succ]
    rfl
  · unfold startV
    rw [if_neg hl]
    rfl
theorem waits_free (c : Int) : waitsP (free0 c) = false := rfl
theorem tks_ready {n : Nat} {T : Nat → TaskP} (h : ∀ j, j < n → waitsP (T j) = false) : ((tks n T).filter fun p => !waitsP p.2).map (·.1) = (List.range n).map (fun j : Nat => (j : Int) + 1) := by
  rw [List.filter_eq_self.2]
  · unfold tks
    rw [List.map_map]; rfl
  · intro p hp
    obtain ⟨j, hj, rfl⟩ := tks_mem hp
    simp [h j hj]
theorem st_ready (n : Nat) (c : Nat → Int) : readyL (st n c) = (List.range n).map (fun j : Nat => (j : Int) + 1) := tks_ready (fun j _ => waits_free _)
theorem range_getD (n i : Nat) (h : i < n) : ((List.range n).map (fun j : Nat => (j : Int) + 1)).getD i 0 = (i : Int) + 1 := by
  simp [List.getD_eq_getElem?_getD, h]
theorem wheel_nat (i n : Nat) : wheel (i : Int) n = i % n := by
  unfold wheel
  rw [if_neg (by omega), ← Int.natCast_emod]
  rfl
theorem st_pick {n : Nat} (c : Nat → Int) (i : Nat) (h : 0 < n) : pickV (st n c) i = (((i % n : Nat) : Int) + 1, true) ∧ pickP (st n c) i = st n (fun j => if j = i % n then c j + 1 else c j) := by
  have hr := st_ready n c
  have hne : readyL (st n c) ≠ [] := by
    rw [hr]; intro e
    have := congrArg List.length e
    simp at this; omega
  have hT : pickT (st n c) i = ((i % n : Nat) : Int) + 1 := by
    unfold pickT
    rw [hr, wheel_nat]
    simp only [List.length_map, List.length_range]
    exact range_getD n _ (Nat.mod_lt _ h)
  constructor
  · unfold pickV
    rw [if_neg hne, hT]
  · unfold pickP
    rw [if_neg hne, hT]
    unfold st
    simp only [tks_mod]
    congr 1
    apply tks_congr
    intro j _
    unfold free0
    split <;> rfl
theorem st_pick0 (c : Nat → Int) (i : Int) : pickV (st 0 c) i = (0, false) ∧ pickP (st 0 c) i = st 0 c := ⟨rfl, rfl⟩
theorem st_picks {n j : Nat} (c : Nat → Int) (h : j < n) : picksP (st n c) ((j : Int) + 1) = c j := by
  unfold picksP st
  rw [tks_get _ h]; rfl
/-- how often j was picked by i turns -/
def cnt (n i j : Nat) : Int := ((i + (n - 1 - j)) / n : Nat)
theorem cnt_zero {n j : Nat} (h : j < n) : cnt n 0 j = 0 := by
  unfold cnt
  rw [Nat.div_eq_of_lt (by omega)]; rfl
theorem cnt_succ {n j : Nat} (i : Nat) (h : j < n) : cnt n (i + 1) j = if j = i % n then cnt n i j + 1 else cnt n i j := by
  unfold cnt
  have h0 : 0 < n := by omega
  have e1 := Nat.div_add_mod i n
  have m1 := Nat.mod_lt i h0
  have hd : ∀ q r : Nat, r < n → (n * q + r) / n = q := fun q r hr => by
    rw [Nat.mul_add_div h0, Nat.div_eq_of_lt hr, Nat.add_zero]
  by_cases e : j = i % n
  · rw [if_pos e]
    have a1 : i + (n - 1 - j) = n * (i / n) + (n - 1) := by omega
    have a2 : i + 1 + (n - 1 - j) = n * (i / n + 1) + 0 := by rw [Nat.mul_add]; omega
    have d1 := hd (i / n) (n - 1) (by omega)
    have d2 := hd (i / n + 1) 0 h0
    rw [a1, a2, d1, d2]
    omega
  · rw [if_neg e]
    rcases Nat.lt_or_gt_of_ne e with e | e
    · have a1 : i + (n - 1 - j) = n * (i / n + 1) + (i % n - 1 - j) := by rw [Nat.mul_add]; omega
      have a2 : i + 1 + (n - 1 - j) = n * (i / n + 1) + (i % n - j) := by rw [Nat.mul_add]; omega
      rw [a1, a2, hd _ _ (by omega), hd _ _ (by omega)]
    · have a1 : i + (n - 1 - j) = n * (i / n) + (i % n + (n - 1 - j)) := by omega
      have a2 : i + 1 + (n - 1 - j) = n * (i / n) + (i % n + 1 + (n - 1 - j)) := by omega
      rw [a1, a2, hd _ _ (by omega), hd _ _ (by omega)]
theorem cnt_near {n j : Nat} (i : Nat) (h : j < n) : cnt n i j = ((i / n : Nat) : Int) ∨ cnt n i j = ((i / n : Nat) : Int) + 1 := by
  unfold cnt
  have h0 : 0 < n := by omega
  have hd : ∀ q r : Nat, r < n → (n * q + r) / n = q := fun q r hr => by
    rw [Nat.mul_add_div h0, Nat.div_eq_of_lt hr, Nat.add_zero]
  have e1 := Nat.div_add_mod i n
  have m1 := Nat.mod_lt i h0
  generalize hq : i / n = q at *
  generalize hm : i % n = m at *
  by_cases e : m + (n - 1 - j) < n
  · left
    have a1 : i + (n - 1 - j) = n * q + (m + (n - 1 - j)) := by omega
    rw [a1, hd _ _ e]
  · right
    have a1 : i + (n - 1 - j) = n * (q + 1) + (m + (n - 1 - j) - n) := by rw [Nat.mul_add]; omega
    rw [a1, hd _ _ (by omega)]
    omega
theorem cnt_le (n i j : Nat) (h : j < n) : 0 ≤ cnt n i j ∧ cnt n i j ≤ (i : Int) + 1 := by
  have h1 := cnt_near i h
  have h2 : i / n ≤ i := Nat.div_le_self i n
  constructor
  · exact Int.natCast_nonneg _
  · rcases h1 with h1 | h1 <;> rw [h1] <;> omega
/-- n tasks, picked i times by turns -/
def turnS (n i : Nat) : SchedP := st n (cnt n i)
theorem turnS_zero (n : Nat) : turnS n 0 = st n (fun _ => 0) := by
  unfold turnS st
  congr 1
  exact tks_congr fun j hj => by rw [cnt_zero hj]
theorem turnS_pick {n : Nat} (i : Nat) (h : 0 < n) : pickV (turnS n i) i = (((i % n : Nat) : Int) + 1, true) ∧ pickP (turnS n i) i = turnS n (i + 1) := by
  have := st_pick (cnt n i) i h
  refine ⟨this.1, this.2.trans ?_⟩
  unfold turnS st
  congr 1
  exact tks_congr fun j hj => by rw [cnt_succ i hj]
theorem turnS_pick0 (i k : Nat) : pickV (turnS 0 k) i = (0, false) ∧ pickP (turnS 0 k) i = turnS 0 (k + 1) := ⟨rfl, rfl⟩
theorem turnS_bound (n i : Nat) : ∀ p ∈ (turnS n i).tasks, 0 ≤ p.2.picks ∧ p.2.picks ≤ (i : Int) + 1 := by
  intro p hp
  obtain ⟨j, hj, rfl⟩ := tks_mem hp
  exact cnt_le n i j hj
end Go.Proofs.Ytkndcofmhfeaoaa
