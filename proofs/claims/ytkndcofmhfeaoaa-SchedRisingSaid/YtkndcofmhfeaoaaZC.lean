/- Tasks that take their locks in rising order: each pick goes on (plain). -/
import Derived.Test.YtkndcofmhfeaoaaZB
namespace Go.Proofs.Ytkndcofmhfeaoaa
set_option linter.unusedVariables false
set_option linter.unusedSimpArgs false
def upf {β : Type} (f : Int → β) (x : Int) (b : β) : Int → β := fun k => if k = x then b else f k
theorem upf_same {β : Type} (f : Int → β) (x : Int) (b : β) : upf f x b x = b := by simp [upf]
theorem upf_ne {β : Type} (f : Int → β) {x k : Int} (b : β) (h : k ≠ x) : upf f x b k = f k := by simp [upf, h]
section
variable {td : Int → List Int} {dn : Int → Nat} {at' : Int → Bool} {x : Int} {l : List Int} {s : SchedP}
theorem RInv.any (h : RInv td dn at' x [] s) (y : Int) : RInv td dn at' y [] s := by
  refine ⟨h.wf, h.le, h.lat, h.wait, fun q hq => ?_, h.att⟩
  rcases h.hold q hq with h1 | ⟨h1, h2⟩
  · exact .inl h1
  · cases h1
theorem RInv.fold : ∀ (l : List Int) (s : SchedP), RInv td dn at' x l s → getP s.tasks x = none → RInv td dn at' x [] (l.foldl (endR x) s) ∧ (l.foldl (endR x) s).tasks.map (·.1) = s.tasks.map (·.1)
  | [], s, h, hx => ⟨h, rfl⟩
  | n :: l, s, h, hx => by
    obtain ⟨h1, h2, h3⟩ := h.round hx
    obtain ⟨h4, h5⟩ := RInv.fold l _ h1 h2
    exact ⟨h4, h5.trans h3⟩
theorem RInv.end (h : RInv td dn at' x [] s) (hr : readyE s x 0 = 0) : RInv td dn at' x [] (endP s x) ∧ (endP s x).tasks.map (·.1) = (s.tasks.map (·.1)).filter (fun k => decide (k ≠ x)) := by
  have wfd := h.wf.del hr
  have hd : RInv td dn at' x (lockKeys s) (delT s x) := by
    refine ⟨wfd, fun p hp => h.le p (mem_delP hp).1, fun p hp => h.lat p (mem_delP hp).1, fun p hp => h.wait p (mem_delP hp).1, fun q hq => ?_, fun p hp => h.att p (mem_delP hp).1⟩
    rcases h.hold q hq with ⟨⟨T, hT⟩, g2, g3⟩ | ⟨h1, -⟩
    · by_cases e : q.2.holder = x
      · refine .inr ⟨?_, e⟩
        unfold lockKeys
        rw [(List.mergeSort_perm _ _).mem_iff]
        exact List.mem_map.2 ⟨q, hq, rfl⟩
      · refine .inl ⟨⟨T, ?_⟩, g2, g3⟩
        show getP (delP s.tasks x) q.2.holder = some T
        rw [getP_delP, if_neg e]; exact hT
    · cases h1
  have hx : getP (delT s x).tasks x = none := by
    show getP (delP s.tasks x) x = none
    rw [getP_delP, if_pos rfl]
  have e : endP s x = (lockKeys s).foldl (endR x) (delT s x) := by unfold endP; rw [hr]; rfl
  rw [e]
  obtain ⟨h1, h2⟩ := RInv.fold _ _ hd hx
  refine ⟨h1, h2.trans ?_⟩
  show (delP s.tasks x).map (·.1) = _
  unfold delP
  rw [List.filter_map]
  rfl
/-- got it -/
theorem RInv.got {n : Int} (h : RInv td dn at' x [] s) (hr : readyE s x n = 0) (hn : (td x)[dn x]? = some n) (hn2 : n ≤ 9223372036854775807) (hg : (lockV s x n).1 = true) :
    RInv td (upf dn x (dn x + 1)) (upf at' x false) x [] (lockP s x n) ∧ (lockP s x n).tasks = s.tasks := by
  have wfl := h.wf.lock (x := x) hn2
  obtain ⟨h0, T, hT, hw⟩ := readyE_zero hr
  have hlt : dn x < (td x).length := (List.getElem?_eq_some_iff.1 hn).1
  have hTl : T.lock = none := by
    unfold waitsP at hw
    cases hl : T.lock with
    | none => rfl
    | some m => rw [hl] at hw; simp at hw
  have hnl : ∀ p ∈ s.tasks, p.1 = x → p.2.lock = none := fun p hp e => by
    have := getP_of_mem (inc_ne h.wf.inc) hp
    rw [e, hT] at this
    rw [← Option.some.inj this]; exact hTl
  have hgood : ∀ q, goodL td dn s q → goodL td (upf dn x (dn x + 1)) s q := fun q ⟨g1, g2, g3⟩ => by
    refine ⟨g1, ?_, g3⟩
    by_cases e : q.2.holder = x
    · rw [e] at g2 ⊢
      rw [upf_same]
      exact List.mem_of_mem_take (i := dn x + 1) (by rw [List.take_take]; rw [Nat.min_eq_left (by omega)]; exact g2)
    · rw [upf_ne _ _ e]; exact g2
  have hbase : ∀ s' : SchedP, s'.tasks = s.tasks → WF s' → (∀ m, holderP s m ≠ 0 → holderP s' m = holderP s m) → (∀ m L, getP s.locks m = some L → getP s'.locks m = some L) → (∀ q ∈ s'.locks, q ∈ s.locks ∨ q = (n, ⟨x, []⟩)) → RInv td (upf dn x (dn x + 1)) (upf at' x false) x [] s' := by
    intro s' st wf' hh hL hq
    refine ⟨wf', fun p hp => ?_, fun p hp => ?_, fun p hp m hm => ?_, fun q hqm => ?_, fun p hp ha hl => ?_⟩
    · rw [st] at hp
      by_cases e : p.1 = x
      · rw [e, upf_same]; omega
      · rw [upf_ne _ _ e]; exact h.le p hp
    · rw [st] at hp; exact h.lat p hp
    · rw [st] at hp
      have hne : p.1 ≠ x := fun e => by rw [hnl p hp e] at hm; cases hm
      obtain ⟨g1, L, g2, g3⟩ := h.wait p hp m hm
      rw [upf_ne _ _ hne]
      exact ⟨g1, L, hL _ _ g2, g3⟩
    · left
      rcases hq q hqm with h1 | h1
      · rcases h.hold q h1 with g | ⟨g, -⟩
        · obtain ⟨g1, g2, g3⟩ := hgood q g
          exact ⟨by rw [st]; exact g1, g2, g3⟩
        · cases g
      · subst h1
        refine ⟨⟨T, by rw [st]; exact hT⟩, ?_, by simp⟩
        show n ∈ (td x).take (upf dn x (dn x + 1) x + 1)
        rw [upf_same]
        have : (td x)[dn x] = n := (List.getElem?_eq_some_iff.1 hn).2
        refine List.mem_of_mem_take (i := dn x + 1) ?_
        rw [List.take_take, Nat.min_eq_left (by omega), List.take_succ_eq_append_getElem hlt]
        simp [this]
    · rw [st] at hp
      by_cases e : p.1 = x
      · rw [e, upf_same] at ha; cases ha
      · rw [upf_ne _ _ e] at ha ⊢
        obtain ⟨m, g1, g2⟩ := h.att p hp ha hl
        have hp1 := (h.wf.rng p hp).1
        exact ⟨m, g1, by rw [hh m (by rw [g2]; omega)]; exact g2⟩
  unfold lockV at hg
  unfold lockP at wfl ⊢
  rw [hr] at hg wfl ⊢
  simp only [ne_eq, not_true_eq_false, if_false] at hg wfl ⊢
  cases hgl : getP s.locks n with
  | none =>
    rw [hgl] at wfl
    refine ⟨hbase _ rfl wfl (fun m hm => ?_) (fun m L hL => ?_) (fun q hq => ?_), rfl⟩
    · unfold holderP at hm ⊢
      dsimp only
      rw [getP_append]
      cases hm2 : getP s.locks m with
      | none => rw [hm2] at hm; exact absurd rfl hm
      | some L => rfl
    · dsimp only
      rw [getP_append, hL]; rfl
    · rcases List.mem_append.1 hq with h1 | h1
      · exact .inl h1
      · right; simpa using h1
  | some L =>
    rw [hgl] at hg wfl
    have hLx : L.holder = x := by simpa using hg
    simp only [hLx, if_true] at wfl ⊢
    exact ⟨hbase _ rfl wfl (fun _ _ => rfl) (fun _ _ h => h) (fun q hq => .inl hq), trivial⟩
/-- waits for it -/
theorem RInv.not {n : Int} (h : RInv td dn at' x [] s) (hr : readyE s x n = 0) (hn : (td x)[dn x]? = some n) (hn2 : n ≤ 9223372036854775807) (hg : (lockV s x n).1 = false) :
    RInv td dn (upf at' x true) x [] (lockP s x n) ∧ (lockP s x n).tasks.map (·.1) = s.tasks.map (·.1) ∧ at' x = false := by
  have wfl := h.wf.lock (x := x) hn2
  obtain ⟨h0, T, hT, hw⟩ := readyE_zero hr
  have hTl : T.lock = none := by
    unfold waitsP at hw
    cases hl : T.lock with
    | none => rfl
    | some m => rw [hl] at hw; simp at hw
  unfold lockV at hg
  rw [hr] at hg
  simp only [ne_eq, not_true_eq_false, if_false] at hg
  cases hgl : getP s.locks n with
  | none => rw [hgl] at hg; cases hg
  | some L =>
    rw [hgl] at hg
    have hLx : ¬ L.holder = x := by simpa using hg
    have hatx : at' x = false := by
      cases ha : at' x
      · rfl
      · obtain ⟨m, g1, g2⟩ := h.att _ (getP_mem hT) ha hTl
        have g1 : (td x)[dn x]? = some m := g1
        rw [hn] at g1
        obtain rfl : n = m := Option.some.inj g1
        rw [holderP_some hgl] at g2
        exact absurd g2 hLx
    have e : lockP s x n = { s with locks := modP s.locks n (fun L => ⟨L.holder, L.queue ++ [x]⟩), tasks := modP s.tasks x (fun T => ⟨T.picks, some n, T.latch⟩) } := by
      unfold lockP
      rw [hr, hgl]
      simp only [ne_eq, not_true_eq_false, if_false, hLx]
    obtain ⟨s', hs'⟩ : ∃ s', s' = lockP s x n := ⟨_, rfl⟩
    have st : s'.tasks = modP s.tasks x (fun T => (⟨T.picks, some n, T.latch⟩ : TaskP)) := by rw [hs', e]
    have sl : s'.locks = modP s.locks n (fun L => (⟨L.holder, L.queue ++ [x]⟩ : LockP)) := by rw [hs', e]
    rw [← hs'] at wfl ⊢
    have hgn : ∀ m, getP s'.locks m = if m = n then (getP s.locks m).map (fun L => (⟨L.holder, L.queue ++ [x]⟩ : LockP)) else getP s.locks m := fun m => by rw [sl, getP_modP]
    have hho : ∀ m, holderP s' m = holderP s m := fun m => by
      unfold holderP
      rw [hgn m]
      by_cases em : m = n
      · rw [if_pos em]; cases getP s.locks m <;> rfl
      · rw [if_neg em]
    refine ⟨⟨wfl, fun p hp => ?_, fun p hp => ?_, fun p hp m hm => ?_, fun q hq => ?_, fun p hp ha hl => ?_⟩, by rw [st]; exact modP_keys _ _ _, hatx⟩
    · rw [st] at hp
      rcases mem_modP hp with ⟨g1, g2⟩ | ⟨g1, a, g2, g3⟩
      · exact h.le p g2
      · rw [g1]; exact h.le _ g2
    · rw [st] at hp
      rcases mem_modP hp with ⟨g1, g2⟩ | ⟨g1, a, g2, g3⟩
      · exact h.lat p g2
      · rw [g3]; exact h.lat _ g2
    · rw [st] at hp
      rcases mem_modP hp with ⟨g1, g2⟩ | ⟨g1, a, g2, g3⟩
      · obtain ⟨k1, L', k2, k3⟩ := h.wait p g2 m hm
        refine ⟨k1, ?_⟩
        rw [hgn m]
        by_cases em : m = n
        · rw [if_pos em, k2]; exact ⟨_, rfl, List.mem_append_left _ k3⟩
        · rw [if_neg em]; exact ⟨L', k2, k3⟩
      · rw [g3] at hm
        obtain rfl : n = m := Option.some.inj hm
        rw [g1]
        refine ⟨hn, ?_⟩
        rw [hgn n, if_pos rfl, hgl]
        exact ⟨_, rfl, by simp⟩
    · left
      rw [sl] at hq
      have hex : ∀ y, (∃ T, getP s.tasks y = some T) → ∃ T, getP s'.tasks y = some T := fun y ⟨T, hT⟩ => by
        rw [st, getP_modP]
        split
        · rw [hT]; exact ⟨_, rfl⟩
        · exact ⟨T, hT⟩
      rcases mem_modP hq with ⟨g1, g2⟩ | ⟨g1, a, g2, g3⟩
      · rcases h.hold q g2 with ⟨k1, k2, k3⟩ | ⟨k1, -⟩
        · exact ⟨hex _ k1, k2, k3⟩
        · cases k1
      · have ha := getP_of_mem h.wf.lks g2
        have ha : getP s.locks n = some a := ha
        rw [hgl] at ha
        obtain rfl : L = a := Option.some.inj ha
        rcases h.hold _ g2 with ⟨k1, k2, k3⟩ | ⟨k1, -⟩
        · unfold goodL
          rw [g1, g3]
          refine ⟨hex _ k1, k2, ?_⟩
          show L.holder ∉ L.queue ++ [x]
          intro hm
          rcases List.mem_append.1 hm with hm | hm
          · exact k3 hm
          · simp at hm; exact hLx hm
        · cases k1
    · rw [st] at hp
      rcases mem_modP hp with ⟨g1, g2⟩ | ⟨g1, a, g2, g3⟩
      · rw [upf_ne _ _ g1] at ha
        obtain ⟨m, k1, k2⟩ := h.att p g2 ha hl
        exact ⟨m, k1, by rw [hho]; exact k2⟩
      · rw [g3] at hl; cases hl
end
/-- a pick alone -/
theorem RInv.picked {td : Int → List Int} {dn : Int → Nat} {at' : Int → Bool} {x : Int} {s : SchedP} (h : RInv td dn at' x [] s) (n : Int) : RInv td dn at' x [] (pickP s n) ∧ (pickP s n).tasks.map (·.1) = s.tasks.map (·.1) := by
  have wfp := h.wf.pick n
  obtain ⟨s', hs'⟩ : ∃ s', s' = pickP s n := ⟨_, rfl⟩
  rw [← hs'] at wfp ⊢
  by_cases he : readyL s = []
  · have : s' = s := by rw [hs']; unfold pickP; rw [if_pos he]
    rw [this]; exact ⟨h, rfl⟩
  have st' : s'.tasks = modP s.tasks (pickT s n) (fun T => (⟨T.picks + 1, T.lock, T.latch⟩ : TaskP)) := by rw [hs']; unfold pickP; rw [if_neg he]
  have sl : s'.locks = s.locks := by rw [hs']; unfold pickP; rw [if_neg he]
  have hmem : ∀ p ∈ s'.tasks, ∃ p0 ∈ s.tasks, p0.1 = p.1 ∧ p0.2.latch = p.2.latch ∧ p0.2.lock = p.2.lock := by
    intro p hp
    rw [st'] at hp
    rcases mem_modP hp with ⟨g1, g2⟩ | ⟨g1, a, g2, g3⟩
    · exact ⟨p, g2, rfl, rfl, rfl⟩
    · exact ⟨_, g2, g1.symm, by rw [g3], by rw [g3]⟩
  have hho : ∀ m, holderP s' m = holderP s m := fun m => by unfold holderP; rw [sl]
  refine ⟨⟨wfp, fun p hp => ?_, fun p hp => ?_, fun p hp m hm => ?_, fun q hq => ?_, fun p hp ha hl => ?_⟩, by rw [st']; exact modP_keys _ _ _⟩
  · obtain ⟨p0, g1, g2, g3, g4⟩ := hmem p hp
    rw [← g2]; exact h.le p0 g1
  · obtain ⟨p0, g1, g2, g3, g4⟩ := hmem p hp
    rw [← g3]; exact h.lat p0 g1
  · obtain ⟨p0, g1, g2, g3, g4⟩ := hmem p hp
    rw [← g4] at hm
    rw [← g2, sl]; exact h.wait p0 g1 m hm
  · rw [sl] at hq
    rcases h.hold q hq with ⟨⟨T, hT⟩, k2, k3⟩ | g
    · refine .inl ⟨?_, k2, k3⟩
      rw [st', getP_modP, hT]
      split
      · exact ⟨_, rfl⟩
      · exact ⟨_, rfl⟩
    · exact .inr g
  · obtain ⟨p0, g1, g2, g3, g4⟩ := hmem p hp
    rw [← g2] at ha ⊢
    obtain ⟨m, k1, k2⟩ := h.att p0 g1 ha (by rw [g4]; exact hl)
    exact ⟨m, k1, by rw [hho]; exact k2⟩
/-- how much is yet to be done -/
def phi1 (td : Int → List Int) (dn : Int → Nat) (at' : Int → Bool) (k : Int) : Nat := 2 * ((td k).length - dn k) + if at' k then 0 else 1
def phi (td : Int → List Int) (dn : Int → Nat) (at' : Int → Bool) (K : List Int) : Nat := (K.map (phi1 td dn at')).sum
theorem sum_less {f g : Int → Nat} {x : Int} : ∀ (K : List Int), x ∈ K → (∀ k ∈ K, k ≠ x → g k = f k) → g x < f x → K.Nodup → (K.map g).sum < (K.map f).sum
  | [], h, _, _, _ => by cases h
  | k :: K, h, he, hl, hn => by
    obtain ⟨h1, h2⟩ := List.nodup_cons.1 hn
    rw [List.map_cons, List.map_cons, List.sum_cons, List.sum_cons]
    by_cases e : k = x
    · have : K.map g = K.map f := List.map_congr_left fun y hy => he y (by simp [hy]) (fun e2 => h1 (by rw [e, ← e2]; exact hy))
      rw [this, e]; omega
    · have hx : x ∈ K := by
        rcases List.mem_cons.1 h with h | h
        · exact absurd h.symm e
        · exact h
      have := sum_less K hx (fun y hy => he y (by simp [hy])) hl h2
      have := he k (by simp) e
      omega
theorem sum_filter {f : Int → Nat} {x : Int} : ∀ (K : List Int), x ∈ K → 0 < f x → K.Nodup → ((K.filter fun k => decide (k ≠ x)).map f).sum < (K.map f).sum
  | [], h, _, _ => by cases h
  | k :: K, h, hl, hn => by
    obtain ⟨h1, h2⟩ := List.nodup_cons.1 hn
    rw [List.filter_cons]
    by_cases e : k = x
    · rw [if_neg (by simp [e]), List.map_cons, List.sum_cons]
      have : (K.filter fun k => decide (k ≠ x)) = K := List.filter_eq_self.2 fun y hy => by
        have : y ≠ x := fun e2 => h1 (by rw [e, ← e2]; exact hy)
        simpa using this
      rw [this, e]; omega
    · have hx : x ∈ K := by
        rcases List.mem_cons.1 h with h | h
        · exact absurd h.symm e
        · exact h
      rw [if_pos (by simpa using e), List.map_cons, List.map_cons, List.sum_cons, List.sum_cons]
      have := sum_filter K hx hl h2
      omega
theorem WF.st {n : Nat} (h : n ≤ 64) : WF (st n (fun _ => 0)) := by
  induction n with
  | zero => exact WF.zero
  | succ n ih =>
    have := (ih (by omega)).start
    rw [(st_start (n := n) (by omega)).1] at this
    exact this
theorem RInv.first {td : Int → List Int} {n : Nat} (h : n ≤ 64) (x : Int) : RInv td (fun _ => 0) (fun _ => false) x [] (st n (fun _ => 0)) := by
  refine ⟨WF.st h, fun p hp => Nat.zero_le _, fun p hp => ?_, fun p hp m hm => ?_, fun q hq => (by cases hq), fun p hp ha => (by cases ha)⟩
  · obtain ⟨j, hj, rfl⟩ := tks_mem hp; rfl
  · obtain ⟨j, hj, rfl⟩ := tks_mem hp; cases hm
theorem phi_first (td : Int → List Int) (hl : ∀ t, (td t).length ≤ 4) : ∀ K : List Int, phi td (fun _ => 0) (fun _ => false) K ≤ 9 * K.length
  | [] => Nat.zero_le _
  | k :: K => by
    have := phi_first td hl K
    have := hl k
    unfold phi at *
    rw [List.map_cons, List.sum_cons, List.length_cons]
    have e : phi1 td (fun _ => 0) (fun _ => false) k = 2 * (td k).length + 1 := by simp [phi1]
    rw [e]; omega
end Go.Proofs.Ytkndcofmhfeaoaa
