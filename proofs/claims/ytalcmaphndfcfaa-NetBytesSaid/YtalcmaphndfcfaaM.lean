/- What comes out of a connection was sent into it: the plain law. -/
import Derived.Test.YtalcmaphndfcfaaK
namespace Go.Proofs.Ytalcmaphndfcfaa
open Go.RowKit Go.Maps
set_option linter.unusedVariables false
set_option linter.unusedSimpArgs false

theorem setUn_num (c : Cn) (s : Int) (x : ByteArray) : (c.setUn s x).num = c.num := by unfold Cn.setUn; split <;> rfl
theorem setTh_num (c : Cn) (s : Int) (x : ByteArray) : (c.setTh s x).num = c.num := by unfold Cn.setTh; split <;> rfl
theorem setSh_num (c : Cn) (s : Int) : (c.setSh s).num = c.num := by unfold Cn.setSh; split <;> rfl
theorem tell_num (c : Cn) (s : Int) : (c.tell s).num = c.num := by unfold Cn.tell; split <;> rfl
theorem tell_cut (c : Cn) (s : Int) : (c.tell s).cut = c.cut := by unfold Cn.tell; split <;> rfl

section
variable {L : List Cn} {x y : Int} {c c' : Cn}
theorem upd_other (h : y ≠ c'.num) : findC (updC L c') y = findC L y := by rw [find_upd, if_neg h]
theorem upd_self (hc : findC L x = some c) (h : c'.num = x) : findC (updC L c') x = some c' := by rw [find_upd, if_pos h.symm, hc]; rfl
theorem leave_other (h : y ≠ c.num) : findC (leaveC L c) y = findC L y := by
  unfold leaveC; split
  · rw [find_drop, if_neg h]
  · rfl
theorem leave_self (h : findC L x = some c) : findC (leaveC L c) x = none ∨ findC (leaveC L c) x = some c := by
  unfold leaveC; split
  · rw [find_drop, if_pos (findC_mem h).2.symm]; exact .inl rfl
  · exact .inr h

/-- what came out of connection x, and what was sent into it (on the way to side 1) -/
def Flow (L : List Cn) (x : Int) (g s : ByteArray) : Prop :=
  ∃ rest, g ++ rest = s ∧ ∀ c, findC L x = some c → c.cut = false → c.sh0 = false ∧ c.sh1 = false ∧ rest = c.th1 ++ c.un1

theorem Flow.other {L' : List Cn} {g s : ByteArray} (h : Flow L x g s) (hf : findC L' x = findC L x) : Flow L' x g s := by
  obtain ⟨r, h1, h2⟩ := h
  exact ⟨r, h1, fun c hc => h2 c (by rw [← hf]; exact hc)⟩
theorem ask_find (L : List Cn) (x y s : Int) : findC (askL L x s) y = findC L y ∨ (y = x ∧ (findC (askL L x s) y = none ∨ ∃ c, findC (askL L x s) y = some c ∧ c.cut = true) ∧ ∃ c, findC L x = some c ∧ c.cut = true) := by
  unfold askL
  split
  · exact .inl rfl
  · split
    · exact .inl rfl
    · rename_i c hc
      split
      · rename_i hcut
        have hn : (c.tell s).num = x := (tell_num c s).trans (findC_mem hc).2
        by_cases e : y = x
        · refine .inr ⟨e, ?_, ⟨c, hc, hcut⟩⟩
          subst e
          rcases leave_self (upd_self hc hn) with h | h
          · exact .inl h
          · exact .inr ⟨_, h, (tell_cut c s).trans hcut⟩
        · left
          rw [leave_other (by rw [hn]; exact e), upd_other (by rw [hn]; exact e)]
      · exact .inl rfl
theorem Flow.ask {g s : ByteArray} (h : Flow L x g s) (y sd : Int) : Flow (askL L y sd) x g s := by
  rcases ask_find L y x sd with e | ⟨-, e, -⟩
  · exact h.other e
  · obtain ⟨r, h1, h2⟩ := h
    refine ⟨r, h1, fun c hc hcut => ?_⟩
    rcases e with e | ⟨c', e, e2⟩
    · rw [e] at hc; cases hc
    · rw [e] at hc; injection hc with hc; subst hc; rw [e2] at hcut; cases hcut

/-- it is there, and not cut -/
def Live (L : List Cn) (x : Int) : Prop := ∃ c, findC L x = some c ∧ c.cut = false
theorem Live.other {L' : List Cn} (h : Live L x) (hf : findC L' x = findC L x) : Live L' x := by obtain ⟨c, h1, h2⟩ := h; exact ⟨c, hf.trans h1, h2⟩
theorem Live.ask (h : Live L x) (y sd : Int) : Live (askL L y sd) x := by
  rcases ask_find L y x sd with e | ⟨e1, -, c, hc, hcut⟩
  · exact h.other e
  · obtain ⟨c', h1, h2⟩ := h
    subst e1
    rw [hc] at h1; injection h1 with h1; subst h1; rw [hcut] at h2; cases h2

/-- sent -/
theorem Flow.send {g s : ByteArray} (h : Flow L x g s) (hc : findC L x = some c) (hcut : c.cut = false) (b : ByteArray) : Flow (updC L (c.setUn 1 (c.un1 ++ b))) x g (s ++ b) := by
  obtain ⟨r, h1, h2⟩ := h
  obtain ⟨h3, h4, h5⟩ := h2 c hc hcut
  refine ⟨r ++ b, by rw [← ByteArray.append_assoc, h1], fun c' hc' _ => ?_⟩
  rw [upd_self hc (by rw [setUn_num]; exact (findC_mem hc).2)] at hc'
  injection hc' with hc'
  subst hc'
  exact ⟨h3, h4, by rw [h5, ByteArray.append_assoc]; rfl⟩
/-- moved -/
theorem split_at (b : ByteArray) (k : Nat) : b.extract 0 k ++ b.extract k b.size = b := by
  rw [ByteArray.extract_append_extract, Nat.min_eq_left (Nat.zero_le _)]
  apply ByteArray.ext
  simp
theorem Flow.move {g s : ByteArray} (h : Flow L x g s) (hc : findC L x = some c) (hcut : c.cut = false) (k : Nat) :
    Flow (updC L ((c.setUn 1 (c.un1.extract k c.un1.size)).setTh 1 (c.th1 ++ c.un1.extract 0 k))) x g s := by
  obtain ⟨r, h1, h2⟩ := h
  obtain ⟨h3, h4, h5⟩ := h2 c hc hcut
  refine ⟨r, h1, fun c' hc' _ => ?_⟩
  rw [upd_self hc (by rw [setTh_num, setUn_num]; exact (findC_mem hc).2)] at hc'
  injection hc' with hc'
  subst hc'
  refine ⟨h3, h4, ?_⟩
  show r = (c.th1 ++ c.un1.extract 0 k) ++ c.un1.extract k c.un1.size
  rw [h5, ByteArray.append_assoc, split_at]
/-- taken -/
theorem Flow.take {g s : ByteArray} (h : Flow L x g s) (hc : findC L x = some c) (hcut : c.cut = false) (k : Nat) :
    Flow (leaveC (updC L (c.setTh 1 (c.th1.extract k c.th1.size))) (c.setTh 1 (c.th1.extract k c.th1.size))) x (g ++ c.th1.extract 0 k) s ∧
    leaveC (updC L (c.setTh 1 (c.th1.extract k c.th1.size))) (c.setTh 1 (c.th1.extract k c.th1.size)) = updC L (c.setTh 1 (c.th1.extract k c.th1.size)) := by
  obtain ⟨r, h1, h2⟩ := h
  obtain ⟨h3, h4, h5⟩ := h2 c hc hcut
  have hg : (c.setTh 1 (c.th1.extract k c.th1.size)).gone = false := by
    unfold Cn.gone
    rw [show (c.setTh 1 (c.th1.extract k c.th1.size)).cut = false from hcut, show (c.setTh 1 (c.th1.extract k c.th1.size)).sh0 = false from h3]
    rfl
  refine ⟨?_, leave_no hg⟩
  rw [leave_no hg]
  refine ⟨c.th1.extract k c.th1.size ++ c.un1, ?_, fun c' hc' _ => ?_⟩
  · rw [ByteArray.append_assoc, ← ByteArray.append_assoc (a := c.th1.extract 0 k), split_at, ← h5, h1]
  · rw [upd_self hc (by rw [setTh_num]; exact (findC_mem hc).2)] at hc'
    injection hc' with hc'
    subst hc'
    exact ⟨h3, h4, rfl⟩
/-- cut -/
theorem Flow.cutOff {g s : ByteArray} (h : Flow L x g s) (hc : findC L y = some c) : Flow (updC L c.cutOff) x g s := by
  by_cases e : x = y
  · subst e
    obtain ⟨r, h1, h2⟩ := h
    refine ⟨r, h1, fun c' hc' hcut => ?_⟩
    have hnum : c.cutOff.num = x := (findC_mem hc).2
    rw [upd_self hc hnum] at hc'
    injection hc' with hc'
    subst hc'
    cases hcut
  · exact h.other (upd_other (by rw [show c.cutOff.num = c.num from rfl, (findC_mem hc).2]; exact e))
theorem Flow.le {g s : ByteArray} (h : Flow L x g s) : g.size ≤ s.size ∧ s.extract 0 g.size = g := by
  obtain ⟨r, h1, -⟩ := h
  subst h1
  exact ⟨by rw [ByteArray.size_append]; omega, ByteArray.extract_append_eq_left rfl⟩
end
end Go.Proofs.Ytalcmaphndfcfaa
