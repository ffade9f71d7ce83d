/- Tasks that take their locks in rising order are never stuck (plain). -/
import Derived.Test.YtkndcofmhfeaoaaY
namespace Go.Proofs.Ytkndcofmhfeaoaa
set_option linter.unusedVariables false
set_option linter.unusedSimpArgs false
/-- a lock that is as it should be: its holder is there, has it among its own up to the next one, and does not wait for it -/
def goodL (td : Int → List Int) (dn : Int → Nat) (s : SchedP) (q : Int × LockP) : Prop := (∃ T, getP s.tasks q.2.holder = some T) ∧ q.1 ∈ (td q.2.holder).take (dn q.2.holder + 1) ∧ q.2.holder ∉ q.2.queue
/-- what is always so; l: the locks that x is yet to give back -/
structure RInv (td : Int → List Int) (dn : Int → Nat) (at' : Int → Bool) (x : Int) (l : List Int) (s : SchedP) : Prop where
  wf : WF s
  le : ∀ p ∈ s.tasks, dn p.1 ≤ (td p.1).length
  lat : ∀ p ∈ s.tasks, p.2.latch = -1
  wait : ∀ p ∈ s.tasks, ∀ n, p.2.lock = some n → (td p.1)[dn p.1]? = some n ∧ ∃ L, getP s.locks n = some L ∧ p.1 ∈ L.queue
  hold : ∀ q ∈ s.locks, goodL td dn s q ∨ (q.1 ∈ l ∧ q.2.holder = x)
  att : ∀ p ∈ s.tasks, at' p.1 = true → p.2.lock = none → ∃ n, (td p.1)[dn p.1]? = some n ∧ holderP s n = p.1
/-- the lists rise -/
structure Rises (td : Int → List Int) : Prop where
  pw : ∀ t, (td t).Pairwise (· < ·)
  bd : ∀ t, ∀ n ∈ td t, 0 ≤ n ∧ n ≤ 7
theorem take_lt {l : List Int} (h : l.Pairwise (· < ·)) {d : Nat} {n m : Int} (hn : n ∈ l.take (d + 1)) (hm : l[d]? = some m) (hne : n ≠ m) : n < m := by
  obtain ⟨i, hi, he⟩ := List.getElem_of_mem hn
  rw [List.length_take] at hi
  rw [List.getElem_take] at he
  have hd : d < l.length := (List.getElem?_eq_some_iff.1 hm).1
  have hme : l[d] = m := (List.getElem?_eq_some_iff.1 hm).2
  have hid : i ≠ d := fun e => hne (by subst e; rw [← he, ← hme])
  have := List.pairwise_iff_getElem.1 h i d (by omega) hd (by omega)
  rw [he, hme] at this
  exact this
theorem RInv.notStuck {td : Int → List Int} {dn : Int → Nat} {at' : Int → Bool} {x : Int} {s : SchedP} (hr : Rises td) (h : RInv td dn at' x [] s) (hne : s.tasks ≠ []) : readyL s ≠ [] := by
  intro he
  have hall : ∀ p ∈ s.tasks, ∃ n, p.2.lock = some n := by
    intro p hp
    have hw : waitsP p.2 = true := by
      cases hb : waitsP p.2
      · have : p.1 ∈ readyL s := List.mem_map.2 ⟨p, List.mem_filter.2 ⟨hp, by rw [hb]; rfl⟩, rfl⟩
        rw [he] at this; cases this
      · rfl
    unfold waitsP at hw
    rw [h.lat p hp] at hw
    cases hl : p.2.lock with
    | none => rw [hl] at hw; simp at hw
    | some n => exact ⟨n, rfl⟩
  have hno : ∀ k : Nat, ∀ p ∈ s.tasks, ∀ n, p.2.lock = some n → n + k = 8 → False := by
    intro k
    induction k using Nat.strongRecOn with
    | ind k ih =>
      intro p hp n hn hk
      obtain ⟨h1, L, hL, hq⟩ := h.wait p hp n hn
      rcases h.hold _ (getP_mem hL) with ⟨⟨T, hT⟩, h3, h4⟩ | ⟨h3, -⟩
      · have hT : getP s.tasks L.holder = some T := hT
        have h3 : n ∈ (td L.holder).take (dn L.holder + 1) := h3
        have h4 : L.holder ∉ L.queue := h4
        obtain ⟨n', hn'⟩ := hall _ (getP_mem hT)
        have hn' : T.lock = some n' := hn'
        obtain ⟨h5, L', hL', hq'⟩ := h.wait _ (getP_mem hT) n' hn'
        have h5 : (td L.holder)[dn L.holder]? = some n' := h5
        have hq' : L.holder ∈ L'.queue := hq'
        have hnn : n ≠ n' := fun e => by
          subst e
          rw [hL] at hL'
          cases hL'
          exact h4 hq'
        have hlt := take_lt (hr.pw _) h3 h5 hnn
        have hb := hr.bd L.holder n' (List.mem_of_getElem? h5)
        exact ih (8 - n').toNat (by omega) _ (getP_mem hT) n' hn' (by omega)
      · cases h3
  cases hs : s.tasks with
  | nil => exact hne hs
  | cons p r =>
    have hp : p ∈ s.tasks := by rw [hs]; simp
    obtain ⟨n, hn⟩ := hall p hp
    have hb := hr.bd p.1 n (List.mem_of_getElem? (h.wait p hp n hn).1)
    exact hno (8 - n).toNat p hp n hn (by omega)
section
variable {td : Int → List Int} {dn : Int → Nat} {at' : Int → Bool} {x : Int} {l : List Int} {s : SchedP}
theorem holderP_some {n : Int} {L : LockP} (h : getP s.locks n = some L) : holderP s n = L.holder := by unfold holderP; rw [h]
/-- one round of End -/
theorem RInv.round {n : Int} (h : RInv td dn at' x (n :: l) s) (hx : getP s.tasks x = none) : RInv td dn at' x l (endR x s n) ∧ getP (endR x s n).tasks x = none ∧ (endR x s n).tasks.map (·.1) = s.tasks.map (·.1) := by
  unfold endR
  split
  · rename_i hh
    have wf1 := h.wf.free n
    cases hg : getP s.locks n with
    | none =>
      have e : freeP s n = s := by unfold freeP; rw [hg]
      rw [e]
      refine ⟨⟨h.wf, h.le, h.lat, h.wait, fun q hq => ?_, h.att⟩, hx, rfl⟩
      rcases h.hold q hq with h1 | ⟨h1, h2⟩
      · exact .inl h1
      · rcases List.mem_cons.1 h1 with h1 | h1
        · exact absurd h1 (getP_none.1 hg q hq)
        · exact .inr ⟨h1, h2⟩
    | some L =>
      have hLh : L.holder = x := by rw [← hh, holderP_some hg]
      cases hq : L.queue with
      | nil =>
        have e : freeP s n = { s with locks := delP s.locks n } := by unfold freeP; rw [hg]; simp only [hq]
        rw [e] at wf1 ⊢
        refine ⟨⟨wf1, h.le, h.lat, fun p hp m hm => ?_, fun q hq2 => ?_, fun p hp ha hl => ?_⟩, hx, rfl⟩
        · obtain ⟨h1, L', hL', hq'⟩ := h.wait p hp m hm
          have hne : m ≠ n := fun e => by subst e; rw [hg] at hL'; cases hL'; rw [hq] at hq'; cases hq'
          exact ⟨h1, L', by show getP (delP s.locks n) m = _; rw [getP_delP, if_neg hne]; exact hL', hq'⟩
        · have hq3 := mem_delP hq2
          rcases h.hold q hq3.1 with h1 | ⟨h1, h2⟩
          · exact .inl h1
          · rcases List.mem_cons.1 h1 with h1 | h1
            · exact absurd h1 hq3.2
            · exact .inr ⟨h1, h2⟩
        · obtain ⟨m, h1, h2⟩ := h.att p hp ha hl
          refine ⟨m, h1, ?_⟩
          have hne : m ≠ n := fun e => by
            subst e
            rw [hh] at h2
            exact getP_none.1 hx p hp h2.symm
          unfold holderP
          show (match getP (delP s.locks n) m with | none => 0 | some L => L.holder) = p.1
          rw [getP_delP, if_neg hne]
          exact h2
      | cons hd r =>
        have e : freeP s n = { s with locks := modP s.locks n (fun _ => ⟨hd, r⟩), tasks := modP s.tasks hd (fun T => ⟨T.picks, none, T.latch⟩) } := by unfold freeP; rw [hg]; simp only [hq]
        obtain ⟨s', hs'⟩ : ∃ s', s' = freeP s n := ⟨_, rfl⟩
        have st : s'.tasks = modP s.tasks hd (fun T => (⟨T.picks, none, T.latch⟩ : TaskP)) := by rw [hs', e]
        have sl : s'.locks = modP s.locks n (fun _ => (⟨hd, r⟩ : LockP)) := by rw [hs', e]
        rw [← hs'] at wf1 ⊢
        have hLm := getP_mem hg
        obtain ⟨T, hT, hTl⟩ := h.wf.que _ hLm hd (by show hd ∈ L.queue; rw [hq]; simp)
        have hnd : hd ∉ r := by
          have := h.wf.nod _ hLm
          rw [show (n, L).2.queue = hd :: r from hq] at this
          exact (List.nodup_cons.1 this).1
        have hTw := h.wait _ (getP_mem hT) n hTl
        have hmem : ∀ p ∈ modP s.tasks hd (fun T => (⟨T.picks, none, T.latch⟩ : TaskP)), ∃ p0 ∈ s.tasks, p0.1 = p.1 ∧ p0.2.latch = p.2.latch ∧ (p.2.lock = none ∨ (p.1 ≠ hd ∧ p0.2.lock = p.2.lock)) := by
          intro p hp
          rcases mem_modP hp with ⟨h1, h2⟩ | ⟨h1, a, h2, h3⟩
          · exact ⟨p, h2, rfl, rfl, .inr ⟨h1, rfl⟩⟩
          · exact ⟨_, h2, h1.symm, by rw [h3], .inl (by rw [h3])⟩
        have hgl : ∀ m, m ≠ n → getP (modP s.locks n (fun _ => (⟨hd, r⟩ : LockP))) m = getP s.locks m := fun m hm => by rw [getP_modP, if_neg hm]
        have hgn : getP (modP s.locks n (fun _ => (⟨hd, r⟩ : LockP))) n = some ⟨hd, r⟩ := by rw [getP_modP, if_pos rfl, hg]; rfl
        have hex : ∀ y, (∃ T, getP s.tasks y = some T) → ∃ T, getP (modP s.tasks hd (fun T => (⟨T.picks, none, T.latch⟩ : TaskP))) y = some T := fun y ⟨T, hT⟩ => by
          rw [getP_modP]
          split
          · rw [hT]; exact ⟨_, rfl⟩
          · exact ⟨T, hT⟩
        refine ⟨⟨wf1, fun p hp => ?_, fun p hp => ?_, fun p hp m hm => ?_, fun q hq2 => ?_, fun p hp ha hl => ?_⟩, ?_, ?_⟩
        · rw [st] at hp
          obtain ⟨p0, h1, h2, -⟩ := hmem p hp
          rw [← h2]; exact h.le p0 h1
        · rw [st] at hp
          obtain ⟨p0, h1, h2, h3, -⟩ := hmem p hp
          rw [← h3]; exact h.lat p0 h1
        · rw [st] at hp
          rw [sl]
          obtain ⟨p0, h1, h2, h3, h4⟩ := hmem p hp
          rcases h4 with h4 | ⟨h4, h5⟩
          · rw [h4] at hm; cases hm
          · obtain ⟨h6, L', hL', hq'⟩ := h.wait p0 h1 m (by rw [h5]; exact hm)
            rw [h2] at h6 hq'
            refine ⟨h6, ?_⟩
            by_cases hmn : m = n
            · subst hmn
              rw [hg] at hL'; cases hL'
              rw [hq] at hq'
              refine ⟨_, hgn, ?_⟩
              rcases List.mem_cons.1 hq' with e | e
              · exact absurd e h4
              · exact e
            · exact ⟨L', by rw [hgl m hmn]; exact hL', hq'⟩
        · rw [sl] at hq2
          rcases mem_modP hq2 with ⟨hne, hq3⟩ | ⟨e1, a, ha, e2⟩
          · rcases h.hold q hq3 with ⟨g1, g2, g3⟩ | ⟨h1, h2⟩
            · exact .inl ⟨by rw [st]; exact hex _ g1, g2, g3⟩
            · rcases List.mem_cons.1 h1 with h1 | h1
              · exact absurd h1 hne
              · exact .inr ⟨h1, h2⟩
          · left
            unfold goodL
            rw [e1, e2]
            refine ⟨by rw [st]; exact hex hd ⟨T, hT⟩, ?_, hnd⟩
            show n ∈ (td hd).take (dn hd + 1)
            have h6 := hTw.1
            have hlt : dn hd < (td hd).length := (List.getElem?_eq_some_iff.1 h6).1
            rw [List.take_succ_eq_append_getElem hlt]
            have : (td hd)[dn hd] = n := (List.getElem?_eq_some_iff.1 h6).2
            simp [this]
        · rw [st] at hp
          obtain ⟨p0, h1, h2, h3, h4⟩ := hmem p hp
          by_cases hph : p.1 = hd
          · refine ⟨n, by rw [hph]; exact hTw.1, ?_⟩
            rw [holderP_some (s := s') (by rw [sl]; exact hgn), hph]
          · rcases h4 with h4 | ⟨h4, h5⟩
            · have hp0 : p0.2.lock = none := by
                rcases mem_modP hp with ⟨g1, g2⟩ | ⟨g1, -⟩
                · have u1 := getP_of_mem (inc_ne h.wf.inc) h1
                  have u2 := getP_of_mem (inc_ne h.wf.inc) g2
                  rw [h2, u2] at u1
                  rw [← Option.some.inj u1]; exact hl
                · exact absurd g1 hph
              obtain ⟨m, k1, k2⟩ := h.att p0 h1 (by rw [h2]; exact ha) hp0
              rw [h2] at k1 k2
              refine ⟨m, k1, ?_⟩
              have hne : m ≠ n := fun e => by
                subst e
                rw [hh] at k2
                exact getP_none.1 hx p0 h1 (by rw [h2]; exact k2.symm)
              unfold holderP at k2 ⊢
              rw [sl, hgl m hne]; exact k2
            · obtain ⟨m, k1, k2⟩ := h.att p0 h1 (by rw [h2]; exact ha) (by rw [h5]; exact hl)
              rw [h2] at k1 k2
              refine ⟨m, k1, ?_⟩
              have hne : m ≠ n := fun e => by
                subst e
                rw [hh] at k2
                exact getP_none.1 hx p0 h1 (by rw [h2]; exact k2.symm)
              unfold holderP at k2 ⊢
              rw [sl, hgl m hne]; exact k2
        · rw [st, getP_modP, hx]
          split <;> rfl
        · rw [st]
          exact modP_keys _ _ _
  · rename_i hh
    refine ⟨⟨h.wf, h.le, h.lat, h.wait, fun q hq => ?_, h.att⟩, hx, rfl⟩
    rcases h.hold q hq with h1 | ⟨h1, h2⟩
    · exact .inl h1
    · rcases List.mem_cons.1 h1 with h1 | h1
      · refine absurd ?_ hh
        have := getP_of_mem h.wf.lks hq
        rw [h1] at this
        rw [holderP_some this]; exact h2
      · exact .inr ⟨h1, h2⟩
end
end Go.Proofs.Ytkndcofmhfeaoaa
