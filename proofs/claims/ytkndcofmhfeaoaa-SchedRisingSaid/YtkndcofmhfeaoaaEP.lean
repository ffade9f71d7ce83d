/- The scheduler, plain: its state, what each call makes of it. -/
namespace Go.Proofs.Ytkndcofmhfeaoaa
set_option linter.unusedVariables false
set_option linter.unusedSimpArgs false
/-- a task, by numbers: how often it was picked, the lock it waits for (its number), the latch it waits for (-1: none) -/
structure TaskP where
  picks : Int
  lock : Option Int
  latch : Int
structure LockP where
  holder : Int
  queue : List Int
/-- the plain state -/
structure SchedP where
  made : Nat
  tasks : List (Int × TaskP)
  locks : List (Int × LockP)
  opened : List Int
def zeroP : SchedP := ⟨0, [], [], []⟩
section
variable {α : Type}
/-- what is at a number -/
def getP (l : List (Int × α)) (x : Int) : Option α := (l.find? fun p => p.1 == x).map (·.2)
def modP (l : List (Int × α)) (x : Int) (f : α → α) : List (Int × α) := l.map fun p => if p.1 = x then (p.1, f p.2) else p
def delP (l : List (Int × α)) (x : Int) : List (Int × α) := l.filter fun p => decide (p.1 ≠ x)
theorem getP_nil (x : Int) : getP ([] : List (Int × α)) x = none := rfl
theorem getP_cons (p : Int × α) (l : List (Int × α)) (x : Int) : getP (p :: l) x = if p.1 = x then some p.2 else getP l x := by
  unfold getP
  rw [List.find?_cons]
  by_cases h : p.1 = x
  · simp [h]
  · have : (p.1 == x) = false := by simpa using h
    simp [h, this]
theorem getP_mem {l : List (Int × α)} {x : Int} {a : α} (h : getP l x = some a) : (x, a) ∈ l := by
  unfold getP at h
  rw [Option.map_eq_some_iff] at h
  obtain ⟨p, hp, rfl⟩ := h
  have h1 := List.find?_some hp
  have h2 := List.mem_of_find?_eq_some hp
  simp at h1
  subst h1
  exact h2
theorem getP_none {l : List (Int × α)} {x : Int} : getP l x = none ↔ ∀ p ∈ l, p.1 ≠ x := by
  unfold getP
  simp [List.find?_eq_none]
theorem getP_of_mem {l : List (Int × α)} (hl : l.Pairwise (fun p q => p.1 ≠ q.1)) {p : Int × α} (h : p ∈ l) : getP l p.1 = some p.2 := by
  induction l with
  | nil => cases h
  | cons q r ih =>
    obtain ⟨h1, h2⟩ := List.pairwise_cons.1 hl
    rw [getP_cons]
    rcases List.mem_cons.1 h with rfl | h
    · simp
    · rw [if_neg (h1 p h), ih h2 h]
theorem getP_append (l m : List (Int × α)) (x : Int) : getP (l ++ m) x = (getP l x).or (getP m x) := by
  unfold getP
  rw [List.find?_append]
  cases l.find? (fun p => p.1 == x) <;> simp
theorem getP_modP (l : List (Int × α)) (x y : Int) (f : α → α) : getP (modP l x f) y = if y = x then (getP l y).map f else getP l y := by
  induction l with
  | nil => simp [modP, getP]
  | cons p r ih =>
    have e : modP (p :: r) x f = (if p.1 = x then (p.1, f p.2) else p) :: modP r x f := rfl
    rw [e, getP_cons, getP_cons, ih]
    by_cases h1 : p.1 = x
    · by_cases h2 : p.1 = y
      · subst h1 h2; simp
      · subst h1; simp [h2]
    · by_cases h2 : p.1 = y
      · subst h2; simp [h1]
      · simp [h1, h2]
theorem getP_delP (l : List (Int × α)) (x y : Int) : getP (delP l x) y = if y = x then none else getP l y := by
  unfold delP
  induction l with
  | nil => simp [getP]
  | cons p r ih =>
    rw [List.filter_cons]
    by_cases e : p.1 = x
    · rw [if_neg (by simpa using e), ih, getP_cons]
      split
      · rfl
      · rename_i h; rw [if_neg (by rw [e]; exact fun e' => h e'.symm)]
    · rw [if_pos (by simpa using e), getP_cons, getP_cons, ih]
      by_cases e2 : p.1 = y
      · rw [if_pos e2, if_pos e2, if_neg (by rw [← e2]; exact e)]
      · rw [if_neg e2, if_neg e2]
theorem mem_modP {l : List (Int × α)} {x : Int} {f : α → α} {p : Int × α} (h : p ∈ modP l x f) : (p.1 ≠ x ∧ p ∈ l) ∨ (p.1 = x ∧ ∃ a, (x, a) ∈ l ∧ p.2 = f a) := by
  unfold modP at h
  rw [List.mem_map] at h
  obtain ⟨q, hq, rfl⟩ := h
  by_cases e : q.1 = x
  · rw [if_pos e]; refine .inr ⟨e, q.2, ?_, rfl⟩; rw [← e]; exact hq
  · rw [if_neg e]; exact .inl ⟨e, hq⟩
theorem modP_keys (l : List (Int × α)) (x : Int) (f : α → α) : (modP l x f).map (·.1) = l.map (·.1) := by
  unfold modP
  rw [List.map_map]
  apply List.map_congr_left
  intro p _
  show (if p.1 = x then (p.1, f p.2) else p).1 = p.1
  split <;> rfl
theorem modP_len (l : List (Int × α)) (x : Int) (f : α → α) : (modP l x f).length = l.length := by unfold modP; rw [List.length_map]
theorem delP_len (l : List (Int × α)) (x : Int) : (delP l x).length ≤ l.length := List.length_filter_le _ _
theorem keys_pw {R : Int → Int → Prop} (l : List (Int × α)) : (l.map (·.1)).Pairwise R ↔ l.Pairwise (fun p q => R p.1 q.1) := List.pairwise_map
theorem modP_pw {R : Int → Int → Prop} {l : List (Int × α)} (x : Int) (f : α → α) (h : l.Pairwise (fun p q => R p.1 q.1)) : (modP l x f).Pairwise (fun p q => R p.1 q.1) := by
  rw [← keys_pw (R := R), modP_keys, keys_pw (R := R)]; exact h
theorem delP_pw {R : Int → Int → Prop} {l : List (Int × α)} (x : Int) (h : l.Pairwise (fun p q => R p.1 q.1)) : (delP l x).Pairwise (fun p q => R p.1 q.1) := h.filter _
theorem inc_ne {l : List (Int × α)} (h : l.Pairwise (fun p q => p.1 < q.1)) : l.Pairwise (fun p q => p.1 ≠ q.1) := h.imp fun h => by omega
theorem mem_delP {l : List (Int × α)} {x : Int} {p : Int × α} (h : p ∈ delP l x) : p ∈ l ∧ p.1 ≠ x := by
  unfold delP at h
  rw [List.mem_filter] at h
  exact ⟨h.1, by simpa using h.2⟩
theorem modP_none {l : List (Int × α)} {x : Int} (f : α → α) (h : getP l x = none) : modP l x f = l := by
  unfold modP
  rw [List.map_congr_left (g := id)]
  · simp
  · intro p hp
    rw [if_neg (getP_none.1 h p hp)]; rfl
end
/-- a task waits -/
def waitsP (t : TaskP) : Bool := t.lock.isSome || decide (0 ≤ t.latch)
/-- the error of what is asked of a task that must be ready -/
def readyE (s : SchedP) (x thing : Int) : Int :=
  if thing < 0 then 1 else match getP s.tasks x with | none => 18 | some t => if waitsP t then 51 else 0
def readyL (s : SchedP) : List Int := (s.tasks.filter fun p => !waitsP p.2).map (·.1)
def startP (s : SchedP) : SchedP := if 64 ≤ s.tasks.length then s else { s with made := s.made + 1, tasks := s.tasks ++ [((s.made : Int) + 1, ⟨0, none, -1⟩)] }
def startV (s : SchedP) : Int × Int := if 64 ≤ s.tasks.length then (0, 12) else ((s.made : Int) + 1, 0)
def lockP (s : SchedP) (x n : Int) : SchedP :=
  if readyE s x n ≠ 0 then s else match getP s.locks n with
    | none => { s with locks := s.locks ++ [(n, ⟨x, []⟩)] }
    | some L => if L.holder = x then s else { s with locks := modP s.locks n (fun L => ⟨L.holder, L.queue ++ [x]⟩), tasks := modP s.tasks x (fun T => ⟨T.picks, some n, T.latch⟩) }
def lockV (s : SchedP) (x n : Int) : Bool × Int :=
  if readyE s x n ≠ 0 then (false, readyE s x n) else match getP s.locks n with
    | none => (true, 0)
    | some L => (decide (L.holder = x), 0)
def holderP (s : SchedP) (n : Int) : Int := match getP s.locks n with | none => 0 | some L => L.holder
def freeP (s : SchedP) (n : Int) : SchedP :=
  match getP s.locks n with
  | none => s
  | some L => match L.queue with
    | [] => { s with locks := delP s.locks n }
    | h :: r => { s with locks := modP s.locks n (fun _ => ⟨h, r⟩), tasks := modP s.tasks h (fun T => ⟨T.picks, none, T.latch⟩) }
def unlockE (s : SchedP) (x n : Int) : Int := if n < 0 then 1 else if (getP s.tasks x).isNone then 18 else if holderP s n ≠ x then 19 else 0
def unlockP (s : SchedP) (x n : Int) : SchedP := if unlockE s x n = 0 then freeP s n else s
def awaitP (s : SchedP) (x la : Int) : SchedP := if readyE s x la ≠ 0 then s else if la ∈ s.opened then s else { s with tasks := modP s.tasks x (fun T => ⟨T.picks, T.lock, la⟩) }
def awaitV (s : SchedP) (x la : Int) : Bool × Int := if readyE s x la ≠ 0 then (false, readyE s x la) else (decide (la ∈ s.opened), 0)
def atLatch (s : SchedP) (la : Int) : List Int := (s.tasks.filter fun p => decide (p.2.latch = la)).map (·.1)
def openP (s : SchedP) (la : Int) : SchedP := if la < 0 then s else { s with opened := s.opened ++ [la], tasks := s.tasks.map fun p => if p.2.latch = la then (p.1, ⟨p.2.picks, p.2.lock, -1⟩) else p }
def openV (s : SchedP) (la : Int) : Int := if la < 0 then 0 else ((atLatch s la).length : Nat)
def wheel (n : Int) (k : Nat) : Nat := ((if n < 0 then -(n + 1) else n) % (k : Int)).toNat
def pickT (s : SchedP) (n : Int) : Int := (readyL s).getD (wheel n (readyL s).length) 0
def pickP (s : SchedP) (n : Int) : SchedP := if readyL s = [] then s else { s with tasks := modP s.tasks (pickT s n) (fun T => ⟨T.picks + 1, T.lock, T.latch⟩) }
def pickV (s : SchedP) (n : Int) : Int × Bool := if readyL s = [] then (0, false) else (pickT s n, true)
def picksP (s : SchedP) (x : Int) : Int := match getP s.tasks x with | none => 0 | some T => T.picks
def stuckP (s : SchedP) : Bool := !s.tasks.isEmpty && (readyL s).isEmpty
/-- the locks, rising -/
def lockKeys (s : SchedP) : List Int := (s.locks.map (·.1)).mergeSort (fun x y => decide (x ≤ y))
/-- one round of End: a lock of the task's is given back -/
def endR (x : Int) (s : SchedP) (n : Int) : SchedP := if holderP s n = x then freeP s n else s
def delT (s : SchedP) (x : Int) : SchedP := { s with tasks := delP s.tasks x }
def endP (s : SchedP) (x : Int) : SchedP := if readyE s x 0 ≠ 0 then s else (lockKeys s).foldl (endR x) (delT s x)
/-- WHAT IS ALWAYS SO -/
structure WF (s : SchedP) : Prop where
  inc : s.tasks.Pairwise (fun p q => p.1 < q.1)
  rng : ∀ p ∈ s.tasks, 1 ≤ p.1 ∧ p.1 ≤ (s.made : Int)
  few : s.tasks.length ≤ 64
  lks : s.locks.Pairwise (fun p q => p.1 ≠ q.1)
  lrng : ∀ p ∈ s.locks, 0 ≤ p.1 ∧ p.1 ≤ 9223372036854775807
  que : ∀ p ∈ s.locks, ∀ q ∈ p.2.queue, ∃ T, getP s.tasks q = some T ∧ T.lock = some p.1
  nod : ∀ p ∈ s.locks, p.2.queue.Nodup
theorem WF.zero : WF zeroP := ⟨List.Pairwise.nil, (fun p h => by cases h), by decide, List.Pairwise.nil, (fun p h => by cases h), (fun p h => by cases h), (fun p h => by cases h)⟩
section
variable {s : SchedP}
theorem WF.start (h : WF s) : WF (startP s) := by
  unfold startP
  split
  · exact h
  · rename_i hl
    refine ⟨?_, ?_, by simp; omega, h.lks, h.lrng, ?_, h.nod⟩
    · rw [List.pairwise_append]
      refine ⟨h.inc, by simp, fun p hp q hq => ?_⟩
      simp at hq; subst hq
      have := h.rng p hp
      show p.1 < (s.made : Int) + 1
      omega
    · intro p hp
      rcases List.mem_append.1 hp with hp | hp
      · have := h.rng p hp
        exact ⟨this.1, by show p.1 ≤ ((s.made + 1 : Nat) : Int); omega⟩
      · simp at hp; subst hp
        constructor
        · show (1 : Int) ≤ (s.made : Int) + 1; omega
        · show (s.made : Int) + 1 ≤ ((s.made + 1 : Nat) : Int); omega
    · intro p hp q hq
      obtain ⟨T, h1, h2⟩ := h.que p hp q hq
      exact ⟨T, by show getP (s.tasks ++ _) q = _; rw [getP_append, h1]; rfl, h2⟩
theorem readyE_zero {x n : Int} (h : readyE s x n = 0) : 0 ≤ n ∧ ∃ T, getP s.tasks x = some T ∧ waitsP T = false := by
  unfold readyE at h
  split at h
  · omega
  · rename_i hn
    split at h
    · omega
    · rename_i T hT
      refine ⟨by omega, T, hT, ?_⟩
      split at h
      · omega
      · rename_i hw; simpa using hw
theorem WF.notin (h : WF s) {x n : Int} (hr : readyE s x n = 0) : ∀ p ∈ s.locks, x ∉ p.2.queue := by
  intro p hp hx
  obtain ⟨-, T, hT, hw⟩ := readyE_zero hr
  obtain ⟨T', h1, h2⟩ := h.que p hp x hx
  rw [hT] at h1
  cases h1
  unfold waitsP at hw
  rw [h2] at hw
  simp at hw
theorem WF.lock (h : WF s) {x n : Int} (hn : n ≤ 9223372036854775807) : WF (lockP s x n) := by
  unfold lockP
  split
  · exact h
  rename_i hr
  have hr : readyE s x n = 0 := by simpa using hr
  obtain ⟨h0, T, hT, hw⟩ := readyE_zero hr
  split
  · rename_i hL
    refine ⟨h.inc, h.rng, h.few, ?_, ?_, ?_, ?_⟩
    · rw [List.pairwise_append]
      refine ⟨h.lks, by simp, fun p hp q hq => ?_⟩
      simp at hq; subst hq
      exact getP_none.1 hL p hp
    · intro p hp
      rcases List.mem_append.1 hp with hp | hp
      · exact h.lrng p hp
      · simp at hp; subst hp; exact ⟨h0, hn⟩
    · intro p hp q hq
      rcases List.mem_append.1 hp with hp | hp
      · exact h.que p hp q hq
      · simp at hp; subst hp; cases hq
    · intro p hp
      rcases List.mem_append.1 hp with hp | hp
      · exact h.nod p hp
      · simp at hp; subst hp; exact List.nodup_nil
  · rename_i L hL
    split
    · exact h
    have hnot := h.notin hr
    have hLm := getP_mem hL
    refine ⟨?_, ?_, ?_, ?_, ?_, ?_, ?_⟩ <;> dsimp only
    · exact modP_pw (R := fun a b => a < b) _ _ h.inc
    rotate_left
    · show (modP s.tasks _ _).length ≤ 64
      rw [modP_len]; exact h.few
    · exact modP_pw (R := fun a b => a ≠ b) n _ h.lks
    rotate_right
    · intro p hp
      rcases mem_modP hp with ⟨-, hp⟩ | ⟨e, a, ha, -⟩
      · exact h.rng p hp
      · rw [e]; exact h.rng _ ha
    · intro p hp
      rcases mem_modP hp with ⟨-, hp⟩ | ⟨e, a, ha, -⟩
      · exact h.lrng p hp
      · rw [e]; exact h.lrng _ ha
    · intro p hp q hq
      show ∃ T', getP (modP s.tasks x _) q = some T' ∧ _
      rw [getP_modP]
      rcases mem_modP hp with ⟨hne, hp⟩ | ⟨e, a, ha, e2⟩
      · obtain ⟨T', h1, h2⟩ := h.que p hp q hq
        rw [if_neg (fun e => hnot p hp (by rw [← e]; exact hq))]
        exact ⟨T', h1, h2⟩
      · rw [e2] at hq
        rcases List.mem_append.1 hq with hq | hq
        · obtain ⟨T', h1, h2⟩ := h.que _ ha q hq
          rw [if_neg (fun e => hnot _ ha (by rw [← e]; exact hq)), e]
          exact ⟨T', h1, h2⟩
        · simp at hq; subst hq
          rw [if_pos rfl, hT, e]
          exact ⟨_, rfl, rfl⟩
    · intro p hp
      rcases mem_modP hp with ⟨hne, hp⟩ | ⟨e, a, ha, e2⟩
      · exact h.nod p hp
      · rw [e2]
        show (a.queue ++ [x]).Nodup
        rw [List.nodup_append]
        refine ⟨h.nod _ ha, by simp, fun b hb c hc => ?_⟩
        simp at hc; subst hc
        exact fun e => hnot _ ha (by rw [← e]; exact hb)
theorem WF.free (h : WF s) (n : Int) : WF (freeP s n) := by
  unfold freeP
  split
  · exact h
  rename_i L hL
  have hLm := getP_mem hL
  split
  · refine ⟨h.inc, h.rng, h.few, delP_pw (R := fun a b => a ≠ b) _ h.lks, fun p hp => h.lrng p (mem_delP hp).1, fun p hp => h.que p (mem_delP hp).1, fun p hp => h.nod p (mem_delP hp).1⟩
  · rename_i hd r hq
    have hnd := h.nod _ hLm
    rw [show (n, L).2.queue = hd :: r from hq] at hnd
    have hnd2 := List.nodup_cons.1 hnd
    obtain ⟨T, hT, hTl⟩ := h.que _ hLm hd (by show hd ∈ L.queue; rw [hq]; simp)
    refine ⟨?_, ?_, ?_, ?_, ?_, ?_, ?_⟩ <;> dsimp only
    · exact modP_pw (R := fun a b => a < b) _ _ h.inc
    rotate_left
    · show (modP s.tasks _ _).length ≤ 64
      rw [modP_len]; exact h.few
    · exact modP_pw (R := fun a b => a ≠ b) n _ h.lks
    rotate_right
    · intro p hp
      rcases mem_modP hp with ⟨-, hp⟩ | ⟨e, a, ha, -⟩
      · exact h.rng p hp
      · rw [e]; exact h.rng _ ha
    · intro p hp
      rcases mem_modP hp with ⟨-, hp⟩ | ⟨e, a, ha, -⟩
      · exact h.lrng p hp
      · rw [e]; exact h.lrng _ ha
    · intro p hp q hq'
      show ∃ T', getP (modP s.tasks hd _) q = some T' ∧ _
      rw [getP_modP]
      rcases mem_modP hp with ⟨hne, hp⟩ | ⟨e, a, ha, e2⟩
      · obtain ⟨T', h1, h2⟩ := h.que p hp q hq'
        rw [if_neg (fun e => by
          subst e
          rw [hT] at h1; cases h1
          rw [hTl] at h2
          exact hne (by cases h2; rfl))]
        exact ⟨T', h1, h2⟩
      · rw [e2] at hq'
        have hq' : q ∈ r := hq'
        obtain ⟨T', h1, h2⟩ := h.que _ hLm q (by show q ∈ L.queue; rw [hq]; simp [hq'])
        rw [if_neg (fun e => hnd2.1 (by rw [← e]; exact hq')), e]
        exact ⟨T', h1, h2⟩
    · intro p hp
      rcases mem_modP hp with ⟨hne, hp⟩ | ⟨e, a, ha, e2⟩
      · exact h.nod p hp
      · rw [e2]; exact hnd2.2
theorem WF.del (h : WF s) {x : Int} (hr : readyE s x 0 = 0) : WF (delT s x) := by
  have hnot := h.notin hr
  refine ⟨delP_pw (R := fun a b => a < b) _ h.inc, fun p hp => h.rng p (mem_delP hp).1, Nat.le_trans (delP_len _ _) h.few, h.lks, h.lrng, fun p hp q hq => ?_, h.nod⟩
  show ∃ T', getP (delP s.tasks x) q = some T' ∧ _
  rw [getP_delP, if_neg (fun e => hnot p hp (by rw [← e]; exact hq))]
  exact h.que p hp q hq
theorem WF.endR (h : WF s) (x n : Int) : WF (endR x s n) := by
  unfold Ytkndcofmhfeaoaa.endR
  split
  · exact h.free n
  · exact h
theorem WF.fold (x : Int) : ∀ (l : List Int) (s : SchedP), WF s → WF (l.foldl (Ytkndcofmhfeaoaa.endR x) s)
  | [], s, h => h
  | n :: l, s, h => WF.fold x l _ (h.endR x n)
theorem WF.end (h : WF s) (x : Int) : WF (endP s x) := by
  unfold endP
  split
  · exact h
  · rename_i hr
    exact WF.fold x _ _ (h.del (by simpa using hr))
theorem WF.unlock (h : WF s) (x n : Int) : WF (unlockP s x n) := by
  unfold unlockP
  split
  · exact h.free n
  · exact h
/-- a task is changed, not what it waits for -/
theorem WF.modT (h : WF s) (x : Int) (f : TaskP → TaskP) (hf : ∀ T, (f T).lock = T.lock) : WF { s with tasks := modP s.tasks x f } := by
  refine ⟨modP_pw (R := fun a b => a < b) _ _ h.inc, ?_, Nat.le_trans (Nat.le_of_eq (modP_len _ _ _)) h.few, h.lks, h.lrng, ?_, h.nod⟩
  · intro p hp
    rcases mem_modP hp with ⟨-, hp⟩ | ⟨e, a, ha, -⟩
    · exact h.rng p hp
    · rw [e]; exact h.rng _ ha
  · intro p hp q hq
    show ∃ T', getP (modP s.tasks x _) q = some T' ∧ _
    rw [getP_modP]
    obtain ⟨T', h1, h2⟩ := h.que p hp q hq
    split
    · rw [h1]; exact ⟨f T', rfl, by rw [hf]; exact h2⟩
    · exact ⟨T', h1, h2⟩
theorem WF.await (h : WF s) (x la : Int) : WF (awaitP s x la) := by
  unfold awaitP
  split
  · exact h
  · split
    · exact h
    · exact h.modT x _ (fun _ => rfl)
theorem WF.pick (h : WF s) (n : Int) : WF (pickP s n) := by
  unfold pickP
  split
  · exact h
  · exact h.modT _ _ (fun _ => rfl)
theorem getP_map (l : List (Int × TaskP)) (g : TaskP → TaskP) (x : Int) : getP (l.map fun p => (p.1, g p.2)) x = (getP l x).map g := by
  induction l with
  | nil => rfl
  | cons p r ih =>
    rw [List.map_cons, getP_cons, getP_cons, ih]
    split <;> rfl
def unlatch (la : Int) (T : TaskP) : TaskP := if T.latch = la then ⟨T.picks, T.lock, -1⟩ else T
theorem openP_tasks (l : List (Int × TaskP)) (la : Int) : (l.map fun p => if p.2.latch = la then (p.1, (⟨p.2.picks, p.2.lock, -1⟩ : TaskP)) else p) = l.map fun p => (p.1, unlatch la p.2) := by
  apply List.map_congr_left
  intro p _
  unfold unlatch
  split <;> rfl
theorem WF.open (h : WF s) (la : Int) : WF (openP s la) := by
  unfold openP
  split
  · exact h
  · rw [openP_tasks]
    have hk : ∀ l : List (Int × TaskP), (l.map fun p => (p.1, unlatch la p.2)).map (·.1) = l.map (·.1) := fun l => by rw [List.map_map]; rfl
    refine ⟨?_, ?_, by simpa using h.few, h.lks, h.lrng, ?_, h.nod⟩
    · have := (keys_pw (R := fun a b => a < b) s.tasks).2 h.inc
      rw [← hk] at this
      exact (keys_pw (R := fun a b => a < b) _).1 this
    · intro p hp
      have hp : p ∈ s.tasks.map fun p => (p.1, unlatch la p.2) := hp
      rw [List.mem_map] at hp
      obtain ⟨q, hq, rfl⟩ := hp
      exact h.rng q hq
    · intro p hp q hq
      show ∃ T', getP (s.tasks.map fun p => (p.1, unlatch la p.2)) q = some T' ∧ _
      rw [getP_map]
      obtain ⟨T', h1, h2⟩ := h.que p hp q hq
      rw [h1]
      refine ⟨_, rfl, ?_⟩
      unfold unlatch
      split <;> exact h2
theorem nodup_sub_len : ∀ (l : List Int), l.Nodup → ∀ m : List Int, (∀ q ∈ l, q ∈ m) → l.length ≤ m.length
  | [], _, _, _ => Nat.zero_le _
  | a :: l, hn, m, hs => by
    obtain ⟨h1, h2⟩ := List.nodup_cons.1 hn
    have ha := hs a (by simp)
    have := nodup_sub_len l h2 (m.erase a) (fun q hq => (List.mem_erase_of_ne (fun e => h1 (by rw [← e]; exact hq))).2 (hs q (by simp [hq])))
    rw [List.length_erase_of_mem ha] at this
    have := List.length_pos_of_mem ha
    rw [List.length_cons]
    omega
/-- how many wait is bounded by how many tasks there are -/
theorem WF.queue_len (h : WF s) {p : Int × LockP} (hp : p ∈ s.locks) : p.2.queue.length ≤ 64 := by
  have hsub : ∀ q ∈ p.2.queue, q ∈ s.tasks.map (·.1) := fun q hq => by
    obtain ⟨T, h1, -⟩ := h.que p hp q hq
    exact List.mem_map.2 ⟨_, getP_mem h1, rfl⟩
  have hl := nodup_sub_len _ (h.nod p hp) _ hsub
  rw [List.length_map] at hl
  exact Nat.le_trans hl h.few
end
/-- SMALL: nothing is greater than n -/
structure Small (n : Nat) (s : SchedP) : Prop where
  made : s.made ≤ n
  locks : s.locks.length ≤ n
  opened : s.opened.length ≤ n
  picks : ∀ p ∈ s.tasks, 0 ≤ p.2.picks ∧ p.2.picks ≤ n
end Go.Proofs.Ytkndcofmhfeaoaa
