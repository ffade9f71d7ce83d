/- A REGION THAT DRAWS ITS ORDER and whose LAST operation waits for all others: the condition on the world is not asked behind that one. -/
import Derived.Test.YtdpgpcffhhdpiaaBase13
namespace Go.Proofs.Ytdpgpcffhhdpiaa
open Go.RowKit
set_option linter.unusedVariables false
set_option linter.unusedSimpArgs false

section
variable {P : Program} {ops : Array Oper} {Q : Exit → Act → World → Prop} {S : World → Prop} {last : Nat}

/-- o waits for the operation i -/
def waitsB (o : Oper) (i : Nat) : Bool := o.after.any fun e => Region.binds .any e && e.on == i
/-- the last operation waits for each other one, or for one that waits for it -/
def lastT (ops : Array Oper) (last : Nat) : Bool :=
  match ops[last]? with
  | none => false
  | some o => (List.range ops.size).all fun i => i == last || waitsB o i || (List.range ops.size).any fun j => waitsB o j && (match ops[j]? with | none => false | some oj => waitsB oj i)
theorem getD_both {listed : Array Bool} {i : Nat} (h : listed.getD i false = true) : listed.getD i true = true := by
  rw [Array.getD_eq_getD_getElem?] at h ⊢
  cases hh : listed[i]? with
  | none => rfl
  | some b => rw [hh] at h; exact h
theorem getF_set {listed : Array Bool} {i j : Nat} (h : listed.getD j false = true) : (listed.setIfInBounds i true).getD j false = true := by
  rw [Array.getD_eq_getD_getElem?] at h ⊢
  rw [Array.getElem?_setIfInBounds]
  cases hh : listed[j]? with
  | none => rw [hh] at h; cases h
  | some b =>
    have hj : j < listed.size := (Array.getElem?_eq_some_iff.1 hh).1
    rw [hh] at h
    by_cases hij : i = j
    · rw [if_pos hij, hij, if_pos hj]; rfl
    · rw [if_neg hij]; exact h
theorem getF_other {listed : Array Bool} {i j : Nat} (hij : i ≠ j) (h : (listed.setIfInBounds i true).getD j false = true) : listed.getD j false = true := by
  rw [Array.getD_eq_getD_getElem?] at h ⊢
  rw [Array.getElem?_setIfInBounds, if_neg hij] at h
  exact h
/-- whoever is listed, those for which it waits are listed -/
def Closed (ops : Array Oper) (listed : Array Bool) : Prop := ∀ (j : Nat) (oj : Oper), ops[j]? = some oj → listed.getD j false = true → ∀ e ∈ oj.after, Region.binds .any e = true → listed.getD e.on false = true
def closedB (ops : Array Oper) (listed : Array Bool) : Bool := (List.range ops.size).all fun j => match ops[j]? with | none => true | some oj => !(listed.getD j false) || oj.after.all fun e => !(Region.binds .any e) || listed.getD e.on false
theorem closedB_spec {ops : Array Oper} {listed : Array Bool} (h : closedB ops listed = true) : Closed ops listed := fun j oj hj hl e he hb => by
  unfold closedB at h
  have h1 := List.all_eq_true.1 h j (by simpa using (Array.getElem?_eq_some_iff.1 hj).1)
  rw [hj] at h1
  simp only [hl, Bool.not_true, Bool.false_or] at h1
  rw [Array.all_eq_true'] at h1
  have h2 := h1 e he
  rw [hb] at h2
  simpa using h2
theorem lastT_spec {ops : Array Oper} {last : Nat} (h : lastT ops last = true) {listed : Array Bool} (hc : Closed ops listed) {i : Nat} (hi : i ∈ Region.ready .any ops listed) (hl : last ∈ Region.ready .any ops listed) : i = last := by
  obtain ⟨hun, oi, hoi, -⟩ := mem_ready.1 hi
  obtain ⟨-, ol, hol, hall⟩ := mem_ready.1 hl
  unfold lastT at h
  rw [hol] at h
  have hlt : i < ops.size := (Array.getElem?_eq_some_iff.1 hoi).1
  have h1 := List.all_eq_true.1 h i (by simpa using hlt)
  rw [Bool.or_eq_true, Bool.or_eq_true] at h1
  rcases h1 with (h1 | h1) | h1
  · simpa using h1
  · exfalso
    unfold waitsB at h1
    rw [Array.any_eq_true'] at h1
    obtain ⟨e, he, h2⟩ := h1
    rw [Bool.and_eq_true] at h2
    have h3 := hall e he h2.1
    have h4 : e.on = i := by simpa using h2.2
    rw [h4] at h3
    rw [getD_both h3] at hun; cases hun
  · exfalso
    rw [List.any_eq_true] at h1
    obtain ⟨j, hj, h1⟩ := h1
    rw [Bool.and_eq_true] at h1
    obtain ⟨hw, h1⟩ := h1
    cases hoj : ops[j]? with
    | none => rw [hoj] at h1; cases h1
    | some oj =>
      rw [hoj] at h1
      unfold waitsB at hw h1
      rw [Array.any_eq_true'] at hw h1
      obtain ⟨e, he, h2⟩ := hw
      obtain ⟨e', he', h2'⟩ := h1
      rw [Bool.and_eq_true] at h2 h2'
      have h3 := hall e he h2.1
      have h4 : e.on = j := by simpa using h2.2
      have h4' : e'.on = i := by simpa using h2'.2
      rw [h4] at h3
      have h5 := hc j oj hoj h3 e' he' h2'.1
      rw [h4'] at h5
      rw [getD_both h5] at hun; cases hun
theorem Closed.set {ops : Array Oper} {listed : Array Bool} (hc : Closed ops listed) {i : Nat} (hi : i ∈ Region.ready .any ops listed) : Closed ops (listed.setIfInBounds i true) := fun j oj hj hl e he hb => by
  obtain ⟨hun, oi, hoi, hall⟩ := mem_ready.1 hi
  by_cases hij : i = j
  · subst hij
    rw [hj] at hoi
    cases hoi
    exact getF_set (hall e he hb)
  · exact getF_set (hc j oj hj (getF_other hij hl) e he hb)

theorem wpT_first (hlast : lastT ops last = true) {i : Nat} {oi : Oper} {v : Value} (hi : ops[i]? = some oi) (hsel : ∀ (j : Nat) (o : Oper) cs b, ops[j]? = some o → o.op ≠ .select cs b)
    (hQ : ∀ c a w, Q (.panic c) (a.put oi.dst v) w → Q (.panic c) a w) :
    ∀ (fuel : Nat) (listed : Array Bool) (a : Act) (w : World), Closed ops listed →
      (∀ j oj, ops[j]? = some oj → j ≠ i → listed.getD j true = false → (∀ e ∈ oj.after, Region.binds .any e = true → e.on ≠ i) → oi.apart ops oj = true) →
      i ∈ Region.ready .any ops listed → YieldsIf P ops S oi v a → S w →
      wpL P ops Q S last fuel (listed.setIfInBounds i true) (a.put oi.dst v) w → wpL P ops Q S last (fuel + 1) listed a w := by
  intro fuel
  induction fuel with
  | zero =>
    intro listed a w hc _ hr hy hS H
    refine ⟨fun h => (by rw [h] at hr; cases hr), fun j hj => ?_⟩
    by_cases hji : j = i
    · subst hji; exact hy.wpOp hi hS ⟨fun _ => hS, H⟩
    · have := ready_mono hj hji
      rw [H.1] at this
      cases this
  | succ fuel ih =>
    intro listed a w hc hfree hr hy hS H
    refine ⟨fun h => (by rw [h] at hr; cases hr), fun j hj => ?_⟩
    by_cases hji : j = i
    · subst hji; exact hy.wpOp hi hS ⟨fun _ => hS, H⟩
    · have hjl : j ≠ last := fun e => hji (by subst e; exact (lastT_spec hlast hc hr hj).symm)
      have h1 := H.2 j (ready_mono hj hji)
      obtain ⟨hjun, oj, hoj, hall⟩ := mem_ready.1 hj
      have hnot : ∀ e ∈ oj.after, Region.binds .any e = true → e.on ≠ i := fun e he hb heq => by
        have h1 := hall e he hb
        have h0 := (mem_ready.1 hr).1
        rw [heq] at h1
        rcases Nat.lt_or_ge i listed.size with h' | h'
        · simp [h'] at h0 h1; rw [h0] at h1; cases h1
        · simp [Array.getElem?_eq_none h'] at h1
      have h2 := wpOp_putIf hoj (hfree j oj hoj hji hjun hnot) (fun cs b => hsel i oi cs b hi) (fun cs b => hsel j oj cs b hoj) hQ hy h1
      have hfree' : ∀ k ok, ops[k]? = some ok → k ≠ i → (listed.setIfInBounds j true).getD k true = false →
          (∀ e ∈ ok.after, Region.binds .any e = true → e.on ≠ i) → oi.apart ops ok = true := fun k ok hk hki hun hno => by
        refine hfree k ok hk hki ?_ hno
        by_cases hjk : j = k
        · subst hjk; exact hjun
        · rw [getD_set_ne true hjk] at hun; exact hun
      refine wpOp_mono (fun a' w' h3 => ⟨fun _ => h3.2.1 hjl, ih (listed.setIfInBounds j true) a' w' (hc.set hj) hfree' (ready_mono hr (Ne.symm hji)) h3.1 (h3.2.1 hjl) ?_⟩) h2
      rw [Array.setIfInBounds_comm _ _ hji]
      exact h3.2.2

variable {fuel : Nat} {listed : Array Bool} {a : Act} {w : World}

theorem ht_take (hP : PanicQ Q) (hlast : (lastT ops last && closedB ops listed) = true) (i : Nat) (d : Option Tmp) (v : Value) {oi : Oper} (hi : ops[i]? = some oi) (hd : oi.dst = d)
    (hs : (Region.noSelect ops && Region.free .any ops listed i && (Region.ready .any ops listed).contains i) = true)
    (hw : Region.wanted oi (yielded ops a.tmps) = true)
    (hv : ∀ w', S w' → (execOp a.eval oi).run P w' = .ok (.value v) w') (hS : S w)
    (h : wpL P ops Q S last fuel (listed.setIfInBounds i true) (a.put d v) w) : wpL P ops Q S last (fuel + 1) listed a w := by
  subst hd
  simp only [Bool.and_eq_true] at hs
  exact wpT_first (Bool.and_eq_true _ _ |>.mp hlast).1 hi (Region.noSelect_spec hs.1.1) (hP.put _ _) fuel listed a w (closedB_spec (Bool.and_eq_true _ _ |>.mp hlast).2) (Region.free_spec hi hs.1.2) (by simpa using hs.2) (.inl ⟨hw, hv⟩) hS h

theorem ht_skip (hP : PanicQ Q) (hlast : (lastT ops last && closedB ops listed) = true) (i : Nat) (d : Option Tmp) {oi : Oper} (hi : ops[i]? = some oi) (hd : oi.dst = d)
    (hs : (Region.noSelect ops && Region.free .any ops listed i && (Region.ready .any ops listed).contains i) = true)
    (hw : Region.wanted oi (yielded ops a.tmps) = false) (hS : S w)
    (h : wpL P ops Q S last fuel (listed.setIfInBounds i true) (a.put d undef) w) : wpL P ops Q S last (fuel + 1) listed a w := by
  subst hd
  simp only [Bool.and_eq_true] at hs
  exact wpT_first (Bool.and_eq_true _ _ |>.mp hlast).1 hi (Region.noSelect_spec hs.1.1) (hP.put _ _) fuel listed a w (closedB_spec (Bool.and_eq_true _ _ |>.mp hlast).2) (Region.free_spec hi hs.1.2) (by simpa using hs.2) (.inr ⟨hw, rfl⟩) hS h

theorem ht_load_at (hP : PanicQ Q) (hlast : (lastT ops last && closedB ops listed) = true) (i : Nat) (d : Option Tmp) {oi : Oper} (hi : ops[i]? = some oi) (hdst : oi.dst = d)
    (hs : (Region.noSelect ops && Region.free .any ops listed i && (Region.ready .any ops listed).contains i) = true)
    (hw : Region.wanted oi (yielded ops a.tmps) = true) (ty : TypeId) (x : Operand) (ho : oi.op = .load ty x)
    (b off : Nat) (hx : a.eval x = .pointer (some ⟨b, off, none⟩)) (cs : Array Value) (td : TypeDesc) (hc : ∀ w', S w' → ∀ j, j < cs.size → w'.cell? ⟨b, off + j, none⟩ = cs[j]?)
    (hu : P.underlying ty = some td) (hd : (match td with | .struct _ | .array _ _ => true | _ => false) = true) (hsz : (P.info? ty).map (·.size) = some cs.size) (hS : S w)
    (h : wpL P ops Q S last fuel (listed.setIfInBounds i true) (a.put d (.agg cs)) w) : wpL P ops Q S last (fuel + 1) listed a w :=
  ht_take hP hlast i d _ hi hdst hs hw (fun w' hS' => exec_load_at (w := w') ty x ho b off hx cs td (hc w' hS') hu hd hsz) hS h

end
end Go.Proofs.Ytdpgpcffhhdpiaa
