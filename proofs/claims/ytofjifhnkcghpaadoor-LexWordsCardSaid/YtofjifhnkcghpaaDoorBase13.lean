/- A REGION THAT DRAWS ITS ORDER and whose LAST operation waits for all others: the condition on the world is not asked behind that one. -/
import Derived.Test.YtofjifhnkcghpaaDoorBase12
namespace Go.Proofs.YtofjifhnkcghpaaDoor
open Go.RowKit
set_option linter.unusedVariables false
set_option linter.unusedSimpArgs false

section
variable {P : Program} {ops : Array Oper} {Q : Exit → Act → World → Prop} {S : World → Prop} {last : Nat}

/-- the last operation waits for each other one -/
def lastB (ops : Array Oper) (last : Nat) : Bool :=
  match ops[last]? with
  | none => false
  | some o => (List.range ops.size).all fun i => i == last || o.after.any fun e => Region.binds .any e && e.on == i

theorem lastB_spec {ops : Array Oper} {last : Nat} (h : lastB ops last = true) {listed : Array Bool} {i : Nat} (hi : i ∈ Region.ready .any ops listed) (hl : last ∈ Region.ready .any ops listed) : i = last := by
  obtain ⟨hun, oi, hoi, -⟩ := mem_ready.1 hi
  obtain ⟨-, ol, hol, hall⟩ := mem_ready.1 hl
  unfold lastB at h
  rw [hol] at h
  have hlt : i < ops.size := (Array.getElem?_eq_some_iff.1 hoi).1
  have h1 := List.all_eq_true.1 h i (by simpa using hlt)
  rw [Bool.or_eq_true] at h1
  rcases h1 with h1 | h1
  · simpa using h1
  · exfalso
    rw [Array.any_eq_true'] at h1
    obtain ⟨e, he, h2⟩ := h1
    rw [Bool.and_eq_true] at h2
    have h3 := hall e he h2.1
    have h4 : e.on = i := by simpa using h2.2
    rw [h4] at h3
    rcases Nat.lt_or_ge i listed.size with h' | h'
    · simp [h'] at hun h3; rw [hun] at h3; cases h3
    · simp [Array.getElem?_eq_none h'] at h3

/-- whatever order is picked from here on, and S holds behind every operation but the last one -/
def wpL (P : Program) (ops : Array Oper) (Q : Exit → Act → World → Prop) (S : World → Prop) (last : Nat) : Nat → Array Bool → Act → World → Prop
  | 0, listed, a, w => Region.ready .any ops listed = [] ∧ Q .normal a w
  | fuel + 1, listed, a, w =>
    (Region.ready .any ops listed = [] → Q .normal a w) ∧
    ∀ i ∈ Region.ready .any ops listed, wpOp P ops Q i (fun a' w' => (i ≠ last → S w') ∧ wpL P ops Q S last fuel (listed.setIfInBounds i true) a' w') a w

theorem wpAny_of_L : ∀ (fuel : Nat) (listed : Array Bool) (a : Act) (w : World), wpL P ops Q S last fuel listed a w → wpAny P .any ops Q fuel listed a w
  | 0, _, _, _, h => h
  | fuel + 1, _, _, _, h => ⟨h.1, fun i hi => wpOp_mono (fun a' w' h' => wpAny_of_L fuel _ a' w' h'.2) (h.2 i hi)⟩

theorem wpL_first (hlast : lastB ops last = true) {i : Nat} {oi : Oper} {v : Value} (hi : ops[i]? = some oi) (hsel : ∀ (j : Nat) (o : Oper) cs b, ops[j]? = some o → o.op ≠ .select cs b)
    (hQ : ∀ c a w, Q (.panic c) (a.put oi.dst v) w → Q (.panic c) a w) :
    ∀ (fuel : Nat) (listed : Array Bool) (a : Act) (w : World),
      (∀ j oj, ops[j]? = some oj → j ≠ i → listed.getD j true = false → (∀ e ∈ oj.after, Region.binds .any e = true → e.on ≠ i) → oi.apart ops oj = true) →
      i ∈ Region.ready .any ops listed → YieldsIf P ops S oi v a → S w →
      wpL P ops Q S last fuel (listed.setIfInBounds i true) (a.put oi.dst v) w → wpL P ops Q S last (fuel + 1) listed a w := by
  intro fuel
  induction fuel with
  | zero =>
    intro listed a w _ hr hy hS H
    refine ⟨fun h => (by rw [h] at hr; cases hr), fun j hj => ?_⟩
    by_cases hji : j = i
    · subst hji; exact hy.wpOp hi hS ⟨fun _ => hS, H⟩
    · have := ready_mono hj hji
      rw [H.1] at this
      cases this
  | succ fuel ih =>
    intro listed a w hfree hr hy hS H
    refine ⟨fun h => (by rw [h] at hr; cases hr), fun j hj => ?_⟩
    by_cases hji : j = i
    · subst hji; exact hy.wpOp hi hS ⟨fun _ => hS, H⟩
    · have hjl : j ≠ last := fun e => hji (by subst e; exact (lastB_spec hlast hr hj).symm)
      have h1 := H.2 j (ready_mono hj hji)
      obtain ⟨hjun, oj, hoj, hall⟩ := mem_ready.1 hj
      have hnot : ∀ e ∈ oj.after, Region.binds .any e = true → e.on ≠ i := fun e he hb heq => by
        have h1 := hall e he hb
        have h0 := (mem_ready.1 hr).1
        rw [heq] at h1
        rcases Nat.lt_or_ge i listed.size with h' | h'
        · simp [h'] at h0 h1; rw [h0] at h1; cases h1
        · simp [Array.getElem?_eq_none h'] at h1
      have h2 := wpOp_putIf hoj (hfree j oj hoj hji hjun hnot) (fun cs b => hsel i oi cs b hi) (fun cs b => hsel j oj cs b hoj) hQ hy h1
      have hfree' : ∀ k ok, ops[k]? = some ok → k ≠ i → (listed.setIfInBounds j true).getD k true = false →
          (∀ e ∈ ok.after, Region.binds .any e = true → e.on ≠ i) → oi.apart ops ok = true := fun k ok hk hki hun hno => by
        refine hfree k ok hk hki ?_ hno
        by_cases hjk : j = k
        · subst hjk; exact hjun
        · rw [getD_set_ne true hjk] at hun; exact hun
      refine wpOp_mono (fun a' w' h3 => ⟨fun _ => h3.2.1 hjl, ih (listed.setIfInBounds j true) a' w' hfree' (ready_mono hr (Ne.symm hji)) h3.1 (h3.2.1 hjl) ?_⟩) h2
      rw [Array.setIfInBounds_comm _ _ hji]
      exact h3.2.2

variable {fuel : Nat} {listed : Array Bool} {a : Act} {w : World}

theorem wpL_all {rs : List Nat} (hr : Region.ready .any ops listed = rs) (hne : rs ≠ [])
    (h : ∀ i ∈ rs, wpOp P ops Q i (fun a' w' => (i ≠ last → S w') ∧ wpL P ops Q S last fuel (listed.setIfInBounds i true) a' w') a w) : wpL P ops Q S last (fuel + 1) listed a w :=
  ⟨fun h0 => absurd (hr ▸ h0) hne, hr ▸ h⟩

theorem hl_start {id : Nat} {l : List Oper} (S : World → Prop) (last n : Nat) (hn : n = l.toArray.size) (hm : P.follows .mixedOrders = true) (hP : PanicQ Q)
    (h : PanicQ Q → wpL P l.toArray Q S last n (Array.replicate n false) a w.drew) : (Code.region id l.toArray true).wp P Q a w := by
  subst hn
  exact wp_region_any hm (wpAny_of_L _ _ _ _ (h hP))

theorem hl_take (hP : PanicQ Q) (hlast : lastB ops last = true) (i : Nat) (d : Option Tmp) (v : Value) {oi : Oper} (hi : ops[i]? = some oi) (hd : oi.dst = d)
    (hs : (Region.noSelect ops && Region.free .any ops listed i && (Region.ready .any ops listed).contains i) = true)
    (hw : Region.wanted oi (yielded ops a.tmps) = true)
    (hv : ∀ w', S w' → (execOp a.eval oi).run P w' = .ok (.value v) w') (hS : S w)
    (h : wpL P ops Q S last fuel (listed.setIfInBounds i true) (a.put d v) w) : wpL P ops Q S last (fuel + 1) listed a w := by
  subst hd
  simp only [Bool.and_eq_true] at hs
  exact wpL_first hlast hi (Region.noSelect_spec hs.1.1) (hP.put _ _) fuel listed a w (Region.free_spec hi hs.1.2) (by simpa using hs.2) (.inl ⟨hw, hv⟩) hS h

theorem hl_skip (hP : PanicQ Q) (hlast : lastB ops last = true) (i : Nat) (d : Option Tmp) {oi : Oper} (hi : ops[i]? = some oi) (hd : oi.dst = d)
    (hs : (Region.noSelect ops && Region.free .any ops listed i && (Region.ready .any ops listed).contains i) = true)
    (hw : Region.wanted oi (yielded ops a.tmps) = false) (hS : S w)
    (h : wpL P ops Q S last fuel (listed.setIfInBounds i true) (a.put d undef) w) : wpL P ops Q S last (fuel + 1) listed a w := by
  subst hd
  simp only [Bool.and_eq_true] at hs
  exact wpL_first hlast hi (Region.noSelect_spec hs.1.1) (hP.put _ _) fuel listed a w (Region.free_spec hi hs.1.2) (by simpa using hs.2) (.inr ⟨hw, rfl⟩) hS h

theorem hl_load_at (hP : PanicQ Q) (hlast : lastB ops last = true) (i : Nat) (d : Option Tmp) {oi : Oper} (hi : ops[i]? = some oi) (hdst : oi.dst = d)
    (hs : (Region.noSelect ops && Region.free .any ops listed i && (Region.ready .any ops listed).contains i) = true)
    (hw : Region.wanted oi (yielded ops a.tmps) = true) (ty : TypeId) (x : Operand) (ho : oi.op = .load ty x)
    (b off : Nat) (hx : a.eval x = .pointer (some ⟨b, off, none⟩)) (cs : Array Value) (td : TypeDesc) (hc : ∀ w', S w' → ∀ j, j < cs.size → w'.cell? ⟨b, off + j, none⟩ = cs[j]?)
    (hu : P.underlying ty = some td) (hd : (match td with | .struct _ | .array _ _ => true | _ => false) = true) (hsz : (P.info? ty).map (·.size) = some cs.size) (hS : S w)
    (h : wpL P ops Q S last fuel (listed.setIfInBounds i true) (a.put d (.agg cs)) w) : wpL P ops Q S last (fuel + 1) listed a w :=
  hl_take hP hlast i d _ hi hdst hs hw (fun w' hS' => exec_load_at (w := w') ty x ho b off hx cs td (hc w' hS') hu hd hsz) hS h

theorem hl_call (i : Nat) (d : Option Tmp) {o : Oper} (hi : ops[i]? = some o) (hd : o.dst = d) (hr : Region.ready .any ops listed = [i]) (hw : Region.wanted o (yielded ops a.tmps) = true)
    (f : FuncId) (args : Array Value) (hx : (execOp a.eval o).run P w = .ok (.enter f args) w)
    (hc : Calls P f args w fun e w' => ∃ v, e = .returned v ∧ S w' ∧ wpL P ops Q S last fuel (listed.setIfInBounds i true) (a.put d v) w') :
    wpL P ops Q S last (fuel + 1) listed a w := by
  refine wpL_all hr (by simp) fun j hj => ?_
  obtain rfl : j = i := by simpa using hj
  exact wpOp_call j d hi hd hw f args hx (hc.mono fun e w' ⟨v, h1, h2, h3⟩ => ⟨v, h1, fun _ => h2, h3⟩)

theorem hl_val (i : Nat) (d : Option Tmp) {o : Oper} (hi : ops[i]? = some o) (hd : o.dst = d) (hr : Region.ready .any ops listed = [i]) (hw : Region.wanted o (yielded ops a.tmps) = true)
    (v : Value) (w' : World) (hx : (execOp a.eval o).run P w = .ok (.value v) w') (hS : S w')
    (h : wpL P ops Q S last fuel (listed.setIfInBounds i true) (a.put d v) w') : wpL P ops Q S last (fuel + 1) listed a w := by
  refine wpL_all hr (by simp) fun j hj => ?_
  obtain rfl : j = i := by simpa using hj
  exact wpOp_val j d hi hd hw v w' hx ⟨fun _ => hS, h⟩

theorem hl_append (k : Nat) (d : Option Tmp) {o : Oper} (hk : ops[k]? = some o) (hd : o.dst = d)
    (hr : Region.ready .any ops listed = [k]) (hw : Region.wanted o (yielded ops a.tmps) = true) (s x : Operand) (t : TypeId) (ho : o.op = .call { callee := .builtin .append, args := #[s, x], argTypes := #[t, t] })
    (base : Nat) (e : TypeId) (i : TypeInfo) (z : Value) (size bytes : Nat) (ht : P.underlying t = some (.slice e)) (hi : P.info? e = some i) (hz : i.zero = some z)
    (hsize : i.size = size) (hby : i.bytes = bytes) (hzs : z.cells.size = size) (h0 : 0 < size)
    (v : Value) (n : Nat) (xs : List Value) (hs : a.eval s = v) (hown : w.ownsRow base e size v n xs)
    (ad : Addr) (m c : Nat) (news : List Value) (hx : a.eval x = .slice (some ad) m c) (hl : news.length = m * size) (hnews : ∀ j u, news[j]? = some u → w.cell? (ad.add j) = some u) (h1 : ∀ u ∈ news, u.oneCell' = true)
    (h63 : n + m ≤ maxLen) (hbytes : (n + m) * bytes ≤ 140737488355328) (hbase : base ≤ w.heap.size)
    (h : ∀ v' w', w'.ownsRow base e size v' (n + m) (xs ++ news) → w.grownBy w' v.ownBlock → (v'.ownBlock = v.ownBlock ∨ v'.ownBlock = some w.heap.size) → S w' ∧ wpL P ops Q S last fuel (listed.setIfInBounds k true) (a.put d v') w') :
    wpL P ops Q S last (fuel + 1) listed a w := by
  obtain ⟨v', w', hrun, h2, h3, -, h5⟩ := run_append_own_at (P := P) w base t o.type e i z size bytes ht hi hz hsize hby hzs h0 v n xs hown ad m c news hl hnews h1 h63 hbytes hbase
  obtain ⟨hS, hh⟩ := h v' w' h2 h3 h5
  refine hl_val k d hk hd hr hw v' w' ?_ hS hh
  unfold execOp
  simp only [ho, resolve, invoke, builtin, Sem.run_bind, Sem.run_pure, Result.andThen_ok, List.map_toArray, List.map_cons, List.map_nil, hs, hx, hrun]

/-- the last one, a store -/
theorem hl_end {o : Oper} (hi : ops[last]? = some o) (hd : o.dst = none) (hr : Region.ready .any ops listed = [last]) (hr2 : Region.ready .any ops (listed.setIfInBounds last true) = []) (hw : Region.wanted o (yielded ops a.tmps) = true)
    (w' : World) (hx : (execOp a.eval o).run P w = .ok .skip w') (h : Q .normal a w') : wpL P ops Q S last (fuel + 1) listed a w := by
  refine wpL_all hr (by simp) fun j hj => ?_
  obtain rfl : j = last := by simpa using hj
  unfold wpOp
  simp only [hi, hw, if_true]
  refine .inl ?_
  unfold Oper.wp
  rw [hx, Oper.upon_skip, hd]
  refine ⟨fun h => absurd rfl h, ?_⟩
  cases fuel with
  | zero => exact ⟨hr2, h⟩
  | succ n => exact ⟨fun _ => h, by rw [hr2]; simp⟩
/-- the last one, with a value -/
theorem hl_endv (d : Option Tmp) {o : Oper} (hi : ops[last]? = some o) (hd : o.dst = d) (hr : Region.ready .any ops listed = [last]) (hr2 : Region.ready .any ops (listed.setIfInBounds last true) = []) (hw : Region.wanted o (yielded ops a.tmps) = true)
    (v : Value) (w' : World) (hx : (execOp a.eval o).run P w = .ok (.value v) w') (h : Q .normal (a.put d v) w') : wpL P ops Q S last (fuel + 1) listed a w := by
  refine wpL_all hr (by simp) fun j hj => ?_
  obtain rfl : j = last := by simpa using hj
  refine wpOp_val j d hi hd hw v w' hx ⟨fun h => absurd rfl h, ?_⟩
  cases fuel with
  | zero => exact ⟨hr2, h⟩
  | succ n => exact ⟨fun _ => h, by rw [hr2]; simp⟩
end
end Go.Proofs.YtofjifhnkcghpaaDoor
