/- One lock, in the order in which they came (plain). -/
import Derived.Test.YtkndcofmhfeaoaaU
namespace Go.Proofs.Ytkndcofmhfeaoaa
set_option linter.unusedVariables false
set_option linter.unusedSimpArgs false
def fT (lk : Int) (q : List Int) (j : Nat) : TaskP := if ((j : Int) + 1) ∈ q then ⟨0, some lk, -1⟩ else free0 0
def fL (lk : Int) : List Int → List (Int × LockP)
  | [] => []
  | h :: r => [(lk, ⟨h, r⟩)]
/-- tasks 1 .. n; D have asked for the lock lk, in this order -/
def fS (n : Nat) (lk : Int) (D : List Int) : SchedP := ⟨n, tks n (fT lk D.tail), fL lk D, []⟩
theorem fS_nil (n : Nat) (lk : Int) : fS n lk [] = st n (fun _ => 0) := by
  unfold fS st fL
  congr 1
theorem fS_get {n j : Nat} (lk : Int) (D : List Int) (h : j < n) : getP (fS n lk D).tasks ((j : Int) + 1) = some (fT lk D.tail j) := tks_get _ h
theorem fS_ready {n j : Nat} {lk : Int} {D : List Int} (h : j < n) (hlk : 0 ≤ lk) (ht : ((j : Int) + 1) ∉ D) : readyE (fS n lk D) ((j : Int) + 1) lk = 0 := by
  unfold readyE
  rw [if_neg (by omega), fS_get lk D h]
  have : ((j : Int) + 1) ∉ D.tail := fun hm => ht (List.mem_of_mem_tail hm)
  have e : fT lk D.tail j = free0 0 := by unfold fT; rw [if_neg this]
  rw [e]; rfl
theorem fS_lock {n j : Nat} {lk : Int} {D : List Int} (h : j < n) (hlk : 0 ≤ lk) (ht : ((j : Int) + 1) ∉ D) : lockV (fS n lk D) ((j : Int) + 1) lk = (D.isEmpty, 0) ∧ lockP (fS n lk D) ((j : Int) + 1) lk = fS n lk (D ++ [(j : Int) + 1]) := by
  have hr := fS_ready h hlk ht
  cases D with
  | nil =>
    constructor
    · unfold lockV
      rw [hr]; rfl
    · unfold lockP
      rw [hr]
      show (⟨n, tks n (fT lk []), [] ++ [(lk, ⟨(j : Int) + 1, []⟩)], []⟩ : SchedP) = _
      rfl
  | cons d r =>
    have hg : getP (fS n lk (d :: r)).locks lk = some ⟨d, r⟩ := by show getP [(lk, (⟨d, r⟩ : LockP))] lk = _; simp [getP]
    have hne : ¬ d = (j : Int) + 1 := fun e => ht (by rw [e]; simp)
    constructor
    · unfold lockV
      rw [hr, hg]
      simp [hne]
    · unfold lockP
      rw [hr, hg]
      simp only [ne_eq, not_true_eq_false, if_false, hne]
      show (⟨n, modP (tks n (fT lk r)) ((j : Int) + 1) _, modP [(lk, (⟨d, r⟩ : LockP))] lk _, []⟩ : SchedP) = ⟨n, tks n (fT lk (r ++ [(j : Int) + 1])), [(lk, ⟨d, r ++ [(j : Int) + 1]⟩)], []⟩
      have hjr : ((j : Int) + 1) ∉ r := fun hm => ht (by simp [hm])
      congr 1
      · rw [tks_mod]
        refine tks_congr fun i hi => ?_
        by_cases e : i = j
        · subst e; rw [if_pos rfl]; unfold fT; rw [if_neg hjr, if_pos (by simp)]; rfl
        · rw [if_neg e]
          have e2 : ¬ (i : Int) = (j : Int) := by omega
          unfold fT
          by_cases hm : ((i : Int) + 1) ∈ r
          · rw [if_pos hm, if_pos (by simp [hm])]
          · rw [if_neg hm, if_neg (by simp [hm, e2])]
      · simp [modP]
theorem fS_holder (n : Nat) (lk : Int) (D : List Int) : holderP (fS n lk D) lk = D.headD 0 := by
  cases D with
  | nil => rfl
  | cons d r =>
    have hg : getP (fS n lk (d :: r)).locks lk = some ⟨d, r⟩ := by show getP [(lk, (⟨d, r⟩ : LockP))] lk = _; simp [getP]
    unfold holderP
    rw [hg]; rfl
theorem fS_unlock {n j : Nat} {lk : Int} {r : List Int} (h : j < n) (hlk : 0 ≤ lk) (hr : r.Nodup) (hin : ∀ x ∈ r, ∃ i, i < n ∧ x = (i : Int) + 1) : unlockE (fS n lk (((j : Int) + 1) :: r)) ((j : Int) + 1) lk = 0 ∧ unlockP (fS n lk (((j : Int) + 1) :: r)) ((j : Int) + 1) lk = fS n lk r := by
  have e0 : unlockE (fS n lk (((j : Int) + 1) :: r)) ((j : Int) + 1) lk = 0 := by
    unfold unlockE
    rw [if_neg (by omega), fS_get lk _ h, fS_holder]
    simp
  refine ⟨e0, ?_⟩
  unfold unlockP
  rw [e0, if_pos rfl]
  unfold freeP
  have hg : getP (fS n lk (((j : Int) + 1) :: r)).locks lk = some ⟨(j : Int) + 1, r⟩ := by show getP [(lk, (⟨(j : Int) + 1, r⟩ : LockP))] lk = _; simp [getP]
  rw [hg]
  cases r with
  | nil =>
    show (⟨n, tks n (fT lk []), delP [(lk, (⟨(j : Int) + 1, []⟩ : LockP))] lk, []⟩ : SchedP) = fS n lk []
    unfold fS
    congr 1
    simp [delP, fL]
  | cons h2 r2 =>
    obtain ⟨i, hi, rfl⟩ := hin h2 (by simp)
    have hnd := (List.nodup_cons.1 hr).1
    show (⟨n, modP (tks n (fT lk (((i : Int) + 1) :: r2))) ((i : Int) + 1) _, modP [(lk, (⟨(j : Int) + 1, ((i : Int) + 1) :: r2⟩ : LockP))] lk _, []⟩ : SchedP) = ⟨n, tks n (fT lk r2), [(lk, ⟨(i : Int) + 1, r2⟩)], []⟩
    congr 1
    · rw [tks_mod]
      refine tks_congr fun k hk => ?_
      by_cases e : k = i
      · subst e; rw [if_pos rfl]; unfold fT; rw [if_pos (by simp), if_neg hnd]; rfl
      · rw [if_neg e]
        have e2 : ¬ (k : Int) = (i : Int) := by omega
        unfold fT
        by_cases hm : ((k : Int) + 1) ∈ r2
        · rw [if_pos hm, if_pos (by simp [hm])]
        · rw [if_neg hm, if_neg (by simp [hm, e2])]
    · simp [modP]
theorem waits_fT (lk : Int) (q : List Int) (j : Nat) : waitsP (fT lk q j) = decide (((j : Int) + 1) ∈ q) := by
  unfold fT
  by_cases h : ((j : Int) + 1) ∈ q
  · rw [if_pos h]; simp [waitsP, h]
  · rw [if_neg h]; simp [h, waits_free]
theorem filter_sum {α : Type} (p : α → Bool) : ∀ l : List α, (l.filter p).length + (l.filter fun a => !p a).length = l.length
  | [] => rfl
  | a :: l => by
    have ih := filter_sum p l
    rw [List.filter_cons, List.filter_cons]
    cases p a <;> simp <;> omega
theorem fS_readyLen {n : Nat} {lk : Int} {D : List Int} (hr : D.tail.Nodup) (hin : ∀ x ∈ D.tail, ∃ i, i < n ∧ x = (i : Int) + 1) : (readyL (fS n lk D)).length + D.tail.length = n := by
  have e1 : (readyL (fS n lk D)).length = ((List.range n).filter fun j : Nat => !decide (((j : Int) + 1) ∈ D.tail)).length := by
    unfold readyL fS tks
    rw [List.length_map, List.filter_map, List.length_map]
    congr 1
    apply List.filter_congr
    intro j _
    show (!waitsP (fT lk D.tail j)) = _
    rw [waits_fT]
  have e2 : ((List.range n).filter fun j : Nat => decide (((j : Int) + 1) ∈ D.tail)).length = D.tail.length := by
    have hm : (((List.range n).filter fun j : Nat => decide (((j : Int) + 1) ∈ D.tail)).map fun j : Nat => (j : Int) + 1).Nodup := by
      unfold List.Nodup
      rw [List.pairwise_map]
      exact (List.nodup_range.filter _).imp fun h => by omega
    have l1 := nodup_sub_len _ hm D.tail (fun q hq => by
      rw [List.mem_map] at hq
      obtain ⟨j, hj, rfl⟩ := hq
      rw [List.mem_filter] at hj
      simpa using hj.2)
    have l2 := nodup_sub_len _ hr (((List.range n).filter fun j : Nat => decide (((j : Int) + 1) ∈ D.tail)).map fun j : Nat => (j : Int) + 1) (fun q hq => by
      obtain ⟨i, hi, rfl⟩ := hin q hq
      exact List.mem_map.2 ⟨i, List.mem_filter.2 ⟨by simpa using hi, by simpa using hq⟩, rfl⟩)
    rw [List.length_map] at l1 l2
    omega
  have := filter_sum (fun j : Nat => decide (((j : Int) + 1) ∈ D.tail)) (List.range n)
  rw [List.length_range] at this
  omega
theorem fS_stuck (n : Nat) (lk : Int) : stuckP (fS n lk []) = false := by
  rw [fS_nil]
  unfold stuckP
  rw [st_ready]
  cases n with
  | zero => rfl
  | succ n => simp
/-- taken out of the middle -/
theorem cut_perm {l : List Int} {k : Nat} (h : k < l.length) : (l.take k ++ l.drop (k + 1) ++ [l[k]]).Perm l := by
  have e : l = l.take k ++ l[k] :: l.drop (k + 1) := by rw [← List.drop_eq_getElem_cons h, List.take_append_drop]
  have e2 : (l.take k ++ l[k] :: l.drop (k + 1)).Perm (l.take k ++ l.drop (k + 1) ++ [l[k]]) := by
    rw [List.append_assoc]
    exact List.Perm.append_left _ (List.perm_append_singleton _ _).symm
  have e2 := e2.symm
  rw [← e] at e2
  exact e2
/-- the tasks 1 .. n -/
def ups (n : Nat) : List Int := (List.range n).map fun j : Nat => (j : Int) + 1
theorem ups_nodup (n : Nat) : (ups n).Nodup := by
  unfold ups List.Nodup
  rw [List.pairwise_map]
  exact List.nodup_range.imp fun h => by omega
theorem ups_mem {n : Nat} {x : Int} (h : x ∈ ups n) : ∃ i, i < n ∧ x = (i : Int) + 1 := by
  unfold ups at h
  rw [List.mem_map] at h
  obtain ⟨i, hi, rfl⟩ := h
  exact ⟨i, by simpa using hi, rfl⟩
theorem ups_len (n : Nat) : (ups n).length = n := by unfold ups; simp
theorem ups_succ (n : Nat) : ups (n + 1) = ups n ++ [(n : Int) + 1] := by unfold ups; rw [List.range_succ, List.map_append]; rfl
end Go.Proofs.Ytkndcofmhfeaoaa
