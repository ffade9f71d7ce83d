/- SchedRising's state, a round of it (plain). -/
import Derived.Test.YtkndcofmhfeaoaaZC
namespace Go.Proofs.Ytkndcofmhfeaoaa
set_option linter.unusedVariables false
set_option linter.unusedSimpArgs false
def tdF (L : List (List Int)) (t : Int) : List Int := L.getD (t - 1).toNat []
def dnF (dl : List Nat) (t : Int) : Nat := if 1 ≤ t then dl.getD (t - 1).toNat 0 else 0
structure RI (L : List (List Int)) (m i : Nat) (dl : List Nat) (at' : Int → Bool) (s : SchedP) : Prop where
  inv : RInv (tdF L) (dnF dl) at' 0 [] s
  len : dl.length = m
  keys : ∀ p ∈ s.tasks, 1 ≤ p.1 ∧ p.1 ≤ (m : Int)
  made : s.made = m
  meas : i + phi (tdF L) (dnF dl) at' (s.tasks.map (·.1)) ≤ 9 * m
  picks : ∀ p ∈ s.tasks, 0 ≤ p.2.picks ∧ p.2.picks ≤ (i : Int)
structure LOk (L : List (List Int)) : Prop where
  all : ∀ l ∈ L, l.length ≤ 4 ∧ l.Pairwise (· < ·) ∧ ∀ n ∈ l, 0 ≤ n ∧ n ≤ 7
theorem LOk.at_ {L : List (List Int)} (h : LOk L) (t : Int) : (tdF L t).length ≤ 4 ∧ (tdF L t).Pairwise (· < ·) ∧ ∀ n ∈ tdF L t, 0 ≤ n ∧ n ≤ 7 := by
  unfold tdF
  rw [List.getD_eq_getElem?_getD]
  cases hg : L[(t - 1).toNat]? with
  | none => simp
  | some l => exact h.all l (List.mem_of_getElem? hg)
theorem LOk.rises {L : List (List Int)} (h : LOk L) : Rises (tdF L) := ⟨fun t => (h.at_ t).2.1, fun t => (h.at_ t).2.2⟩
section
variable {L : List (List Int)} {m i : Nat} {dl : List Nat} {at' : Int → Bool} {s : SchedP}
theorem RI.first (hL : LOk L) (hm : m ≤ 12) : RI L m 0 (List.replicate m 0) (fun _ => false) (st m (fun _ => 0)) := by
  have e : dnF (List.replicate m 0) = fun _ => 0 := by
    funext t
    unfold dnF
    rw [List.getD_eq_getElem?_getD, List.getElem?_replicate]
    split
    · split <;> rfl
    · rfl
  have hk : ((st m (fun _ => 0)).tasks.map (·.1)).length = m := by rw [List.length_map]; exact tks_len _ _
  refine ⟨by rw [e]; exact RInv.first (by omega) 0, by simp, fun p hp => ?_, rfl, ?_, fun p hp => ?_⟩
  · obtain ⟨j, hj, rfl⟩ := tks_mem hp
    constructor
    · show (1 : Int) ≤ (j : Int) + 1; omega
    · show (j : Int) + 1 ≤ (m : Int); omega
  · rw [e]
    have := phi_first (tdF L) (fun t => (hL.at_ t).1) ((st m (fun _ => 0)).tasks.map (·.1))
    rw [hk] at this
    omega
  · obtain ⟨j, hj, rfl⟩ := tks_mem hp
    show (0 : Int) ≤ 0 ∧ (0 : Int) ≤ ((0 : Nat) : Int)
    omega
theorem RI.locks (h : RI L m i dl at' s) (hL : LOk L) : s.locks.length ≤ 8 := by
  have hn : (s.locks.map (·.1)).Nodup := (keys_pw (R := fun a b => a ≠ b) s.locks).2 h.inv.wf.lks
  have := nodup_sub_len _ hn [0, 1, 2, 3, 4, 5, 6, 7] (fun q hq => by
    rw [List.mem_map] at hq
    obtain ⟨p, hp, rfl⟩ := hq
    rcases h.inv.hold p hp with ⟨-, g, -⟩ | ⟨g, -⟩
    · have := (hL.at_ p.2.holder).2.2 p.1 (List.mem_of_mem_take g)
      simp; omega
    · cases g)
  rw [List.length_map] at this
  exact this
theorem RI.small (h : RI L m i dl at' s) : i ≤ 9 * m := by have := h.meas; omega
theorem RI.ready (h : RI L m i dl at' s) (hL : LOk L) (hne : s.tasks ≠ []) : readyL s ≠ [] := h.inv.notStuck hL.rises hne
/-- who is picked -/
theorem RI.pick (h : RI L m i dl at' s) (hr : readyL s ≠ []) (p : Int) : 1 ≤ pickT s p ∧ pickT s p ≤ (m : Int) ∧ pickT s p ∈ s.tasks.map (·.1) ∧ ∀ n, 0 ≤ n → readyE (pickP s p) (pickT s p) n = 0 := by
  have hpos : 0 < (readyL s).length := by
    cases he : readyL s with
    | nil => exact absurd he hr
    | cons a l => simp
  have hmem : pickT s p ∈ readyL s := by
    unfold pickT
    have hw : wheel p (readyL s).length < (readyL s).length := by
      unfold wheel
      have h1 : (0 : Int) ≤ (if p < 0 then -(p + 1) else p) % ((readyL s).length : Int) := Int.emod_nonneg _ (by omega)
      have h2 : (if p < 0 then -(p + 1) else p) % ((readyL s).length : Int) < (readyL s).length := Int.emod_lt_of_pos _ (by omega)
      omega
    rw [List.getD_eq_getElem?_getD, List.getElem?_eq_getElem hw]
    exact List.getElem_mem _
  have hmem2 := hmem
  unfold readyL at hmem2
  rw [List.mem_map] at hmem2
  obtain ⟨q, hq, hqe⟩ := hmem2
  rw [List.mem_filter] at hq
  have hk := h.keys q hq.1
  rw [hqe] at hk
  refine ⟨hk.1, hk.2, List.mem_map.2 ⟨q, hq.1, hqe⟩, fun n hn => ?_⟩
  have hg := getP_of_mem (inc_ne h.inv.wf.inc) hq.1
  rw [hqe] at hg
  have e : (pickP s p).tasks = modP s.tasks (pickT s p) (fun T => (⟨T.picks + 1, T.lock, T.latch⟩ : TaskP)) := by unfold pickP; rw [if_neg hr]
  have hw : waitsP q.2 = false := by simpa using hq.2
  unfold readyE
  rw [if_neg (by omega), e, getP_modP, if_pos rfl, hg]
  show (if waitsP (⟨q.2.picks + 1, q.2.lock, q.2.latch⟩ : TaskP) then (51 : Int) else 0) = 0
  have : waitsP (⟨q.2.picks + 1, q.2.lock, q.2.latch⟩ : TaskP) = false := hw
  rw [this]; rfl
theorem pickP_picks (p : Int) (h : ∀ q ∈ s.tasks, 0 ≤ q.2.picks ∧ q.2.picks ≤ (i : Int)) : ∀ q ∈ (pickP s p).tasks, 0 ≤ q.2.picks ∧ q.2.picks ≤ ((i + 1 : Nat) : Int) := by
  intro q hq
  by_cases he : readyL s = []
  · unfold pickP at hq
    rw [if_pos he] at hq
    have := h q hq
    exact ⟨this.1, by omega⟩
  · unfold pickP at hq
    rw [if_neg he] at hq
    dsimp only at hq
    rcases mem_modP hq with ⟨-, g⟩ | ⟨-, a, g, g2⟩
    · have := h q g; exact ⟨this.1, by omega⟩
    · rw [g2]
      have := h _ g
      constructor
      · show 0 ≤ a.picks + 1; have h3 : 0 ≤ a.picks := this.1; omega
      · show a.picks + 1 ≤ _; have h3 : a.picks ≤ (i : Int) := this.2; omega
theorem picked_made (p : Int) : (pickP s p).made = s.made := by unfold pickP; split <;> rfl
theorem dnF_set (dl : List Nat) {t : Int} (h1 : 1 ≤ t) (h2 : (t - 1).toNat < dl.length) (d : Nat) : dnF (dl.set (t - 1).toNat d) = upf (dnF dl) t d := by
  funext k
  unfold upf
  by_cases e : k = t
  · subst e
    rw [if_pos rfl]
    unfold dnF
    rw [if_pos h1, List.getD_eq_getElem?_getD, List.getElem?_set_self h2]; rfl
  · rw [if_neg e]
    unfold dnF
    by_cases hk : 1 ≤ k
    · rw [if_pos hk, if_pos hk, List.getD_eq_getElem?_getD, List.getD_eq_getElem?_getD, List.getElem?_set_ne (by omega)]
    · rw [if_neg hk, if_neg hk]
theorem fold_picks (x : Int) (j : Int) : ∀ (l : List Int) (s : SchedP), (∀ q ∈ s.tasks, 0 ≤ q.2.picks ∧ q.2.picks ≤ j) → ∀ q ∈ (l.foldl (endR x) s).tasks, 0 ≤ q.2.picks ∧ q.2.picks ≤ j
  | [], s, h => h
  | n :: l, s, h => by
    refine fold_picks x j l _ (fun q hq => ?_)
    unfold endR at hq
    split at hq
    · unfold freeP at hq
      split at hq
      · exact h q hq
      · split at hq
        · exact h q hq
        · dsimp only at hq
          rcases mem_modP hq with ⟨-, g⟩ | ⟨-, a, g, g2⟩
          · exact h q g
          · rw [g2]; exact h _ g
    · exact h q hq
theorem end_picks (x : Int) (j : Int) (h : ∀ q ∈ s.tasks, 0 ≤ q.2.picks ∧ q.2.picks ≤ j) : ∀ q ∈ (endP s x).tasks, 0 ≤ q.2.picks ∧ q.2.picks ≤ j := by
  unfold endP
  split
  · exact h
  · exact fold_picks x j _ _ (fun q hq => h q (mem_delP hq).1)
theorem lock_picks (x n : Int) (j : Int) (h : ∀ q ∈ s.tasks, 0 ≤ q.2.picks ∧ q.2.picks ≤ j) : ∀ q ∈ (lockP s x n).tasks, 0 ≤ q.2.picks ∧ q.2.picks ≤ j := by
  intro q hq
  unfold lockP at hq
  split at hq
  · exact h q hq
  · split at hq
    · exact h q hq
    · split at hq
      · exact h q hq
      · dsimp only at hq
        rcases mem_modP hq with ⟨-, g⟩ | ⟨-, a, g, g2⟩
        · exact h q g
        · rw [g2]; exact h _ g
theorem keys_of {s s' : SchedP} {m : Nat} (hk : ∀ p ∈ s.tasks, 1 ≤ p.1 ∧ p.1 ≤ (m : Int)) (he : ∀ k ∈ s'.tasks.map (·.1), k ∈ s.tasks.map (·.1)) : ∀ p ∈ s'.tasks, 1 ≤ p.1 ∧ p.1 ≤ (m : Int) := by
  intro p hp
  have := he p.1 (List.mem_map.2 ⟨p, hp, rfl⟩)
  rw [List.mem_map] at this
  obtain ⟨q, hq, e⟩ := this
  rw [← e]; exact hk q hq
theorem nodup_keys {s : SchedP} (wf : WF s) : (s.tasks.map (·.1)).Nodup := (keys_pw (R := fun a b => a ≠ b) s.tasks).2 (inc_ne wf.inc)
theorem free_made2 (s : SchedP) (n : Int) : (freeP s n).made = s.made := by unfold freeP; split; rfl; split <;> rfl
theorem fold_made2 (x : Int) : ∀ (l : List Int) (s : SchedP), (l.foldl (endR x) s).made = s.made
  | [], _ => rfl
  | n :: l, s => (fold_made2 x l _).trans (by unfold endR; split; exact free_made2 s n; rfl)
theorem end_made (x : Int) : (endP s x).made = s.made := by unfold endP; split; rfl; exact (fold_made2 x _ _)
/-- a round that ends a task -/
theorem RI.ends (h : RI L m i dl at' s) (hL : LOk L) (hr : readyL s ≠ []) (p : Int) (hd : dnF dl (pickT s p) = (tdF L (pickT s p)).length) : RI L m (i + 1) dl at' (endP (pickP s p) (pickT s p)) ∧ (endP (pickP s p) (pickT s p)).tasks.length + 1 = s.tasks.length := by
  obtain ⟨h1, h2, h3, h4⟩ := h.pick hr p
  obtain ⟨g1, g2⟩ := h.inv.picked p
  obtain ⟨k1, k2⟩ := (g1.any (pickT s p)).end (h4 0 (by omega))
  rw [g2] at k2
  have hnd := nodup_keys h.inv.wf
  obtain ⟨T, hT, hTw⟩ := (readyE_zero (h4 0 (by omega))).2
  have hat : at' (pickT s p) = false := by
    cases ha : at' (pickT s p)
    · rfl
    · have hTl : T.lock = none := by
        unfold waitsP at hTw
        cases hl : T.lock with
        | none => rfl
        | some m => rw [hl] at hTw; simp at hTw
      obtain ⟨n, e1, -⟩ := g1.att _ (getP_mem hT) ha hTl
      have e1 : (tdF L (pickT s p))[dnF dl (pickT s p)]? = some n := e1
      rw [hd, List.getElem?_eq_none (Nat.le_refl _)] at e1
      cases e1
  have hf : 0 < phi1 (tdF L) (dnF dl) at' (pickT s p) := by unfold phi1; rw [hat]; simp
  have hsum := sum_filter (f := phi1 (tdF L) (dnF dl) at') (s.tasks.map (·.1)) h3 hf hnd
  refine ⟨⟨k1.any 0, h.len, keys_of h.keys (fun k hk => ?_), by rw [end_made, picked_made]; exact h.made, ?_, end_picks _ _ (pickP_picks p h.picks)⟩, ?_⟩
  · rw [k2] at hk; exact (List.mem_filter.1 hk).1
  · rw [k2]
    have := h.meas
    unfold phi at this ⊢
    omega
  · have e := congrArg List.length k2
    rw [List.length_map] at e
    rw [e]
    have hc : ((s.tasks.map (·.1)).filter fun k => decide (k ≠ pickT s p)).length + ((s.tasks.map (·.1)).filter fun k => !decide (k ≠ pickT s p)).length = s.tasks.length := by
      rw [filter_sum, List.length_map]
    have h1' : ((s.tasks.map (·.1)).filter fun k => !decide (k ≠ pickT s p)).length = 1 := by
      have e3 : ((s.tasks.map (·.1)).filter fun k => !decide (k ≠ pickT s p)) = (s.tasks.map (·.1)).filter (fun k => k == pickT s p) := List.filter_congr fun k _ => by by_cases e : k = pickT s p <;> simp [e]
      rw [e3, ← List.count_eq_length_filter]
      exact List.Nodup.count hnd ▸ (if_pos h3)
    omega
/-- a round that gets a lock -/
theorem RI.gets (h : RI L m i dl at' s) (hL : LOk L) (hr : readyL s ≠ []) (p : Int) {n : Int} (hn : (tdF L (pickT s p))[dnF dl (pickT s p)]? = some n) (hg : (lockV (pickP s p) (pickT s p) n).1 = true) :
    RI L m (i + 1) (dl.set (pickT s p - 1).toNat (dnF dl (pickT s p) + 1)) (upf at' (pickT s p) false) (lockP (pickP s p) (pickT s p) n) ∧ (lockP (pickP s p) (pickT s p) n).tasks.length = s.tasks.length := by
  obtain ⟨h1, h2, h3, h4⟩ := h.pick hr p
  obtain ⟨g1, g2⟩ := h.inv.picked p
  have hnb := (hL.at_ (pickT s p)).2.2 n (List.mem_of_getElem? hn)
  obtain ⟨k1, k2⟩ := (g1.any (pickT s p)).got (h4 n hnb.1) hn (by omega) hg
  have hlt : dnF dl (pickT s p) < (tdF L (pickT s p)).length := (List.getElem?_eq_some_iff.1 hn).1
  have e := dnF_set dl h1 (by rw [h.len]; omega) (dnF dl (pickT s p) + 1)
  have k3 : (lockP (pickP s p) (pickT s p) n).tasks.map (·.1) = s.tasks.map (·.1) := by rw [k2]; exact g2
  refine ⟨⟨by rw [e]; exact k1.any 0, by rw [List.length_set]; exact h.len, keys_of h.keys (fun k hk => by rw [k3] at hk; exact hk), ?_, ?_, lock_picks _ _ _ (pickP_picks p h.picks)⟩, ?_⟩
  · have : (lockP (pickP s p) (pickT s p) n).made = (pickP s p).made := by unfold lockP; split; rfl; split; rfl; split <;> rfl
    rw [this, picked_made]; exact h.made
  · rw [k3, e]
    have := h.meas
    have hs := sum_less (f := phi1 (tdF L) (dnF dl) at') (g := phi1 (tdF L) (upf (dnF dl) (pickT s p) (dnF dl (pickT s p) + 1)) (upf at' (pickT s p) false)) (x := pickT s p) (s.tasks.map (·.1)) h3 (fun k _ hk => by unfold phi1; rw [upf_ne _ _ hk, upf_ne _ _ hk]) (by
      unfold phi1
      rw [upf_same, upf_same]
      simp only [Bool.false_eq_true, if_false]
      split <;> omega) (nodup_keys h.inv.wf)
    unfold phi at this ⊢
    omega
  · have := congrArg List.length k3
    rw [List.length_map, List.length_map] at this
    exact this
/-- a round in which a task begins to wait -/
theorem RI.waits (h : RI L m i dl at' s) (hL : LOk L) (hr : readyL s ≠ []) (p : Int) {n : Int} (hn : (tdF L (pickT s p))[dnF dl (pickT s p)]? = some n) (hg : (lockV (pickP s p) (pickT s p) n).1 = false) :
    RI L m (i + 1) dl (upf at' (pickT s p) true) (lockP (pickP s p) (pickT s p) n) ∧ (lockP (pickP s p) (pickT s p) n).tasks.length = s.tasks.length := by
  obtain ⟨h1, h2, h3, h4⟩ := h.pick hr p
  obtain ⟨g1, g2⟩ := h.inv.picked p
  have hnb := (hL.at_ (pickT s p)).2.2 n (List.mem_of_getElem? hn)
  obtain ⟨k1, k2, k4⟩ := (g1.any (pickT s p)).not (h4 n hnb.1) hn (by omega) hg
  have k3 : (lockP (pickP s p) (pickT s p) n).tasks.map (·.1) = s.tasks.map (·.1) := k2.trans g2
  refine ⟨⟨k1.any 0, h.len, keys_of h.keys (fun k hk => by rw [k3] at hk; exact hk), ?_, ?_, lock_picks _ _ _ (pickP_picks p h.picks)⟩, ?_⟩
  · have : (lockP (pickP s p) (pickT s p) n).made = (pickP s p).made := by unfold lockP; split; rfl; split; rfl; split <;> rfl
    rw [this, picked_made]; exact h.made
  · rw [k3]
    have := h.meas
    have hs := sum_less (f := phi1 (tdF L) (dnF dl) at') (g := phi1 (tdF L) (dnF dl) (upf at' (pickT s p) true)) (x := pickT s p) (s.tasks.map (·.1)) h3 (fun k _ hk => by unfold phi1; rw [upf_ne _ _ hk]) (by
      unfold phi1
      rw [upf_same, k4]
      simp) (nodup_keys h.inv.wf)
    unfold phi at this ⊢
    omega
  · have := congrArg List.length k3
    rw [List.length_map, List.length_map] at this
    exact this
end
end Go.Proofs.Ytkndcofmhfeaoaa
