/- A REGION THAT DRAWS ITS ORDER and holds calls that change the world: what does not hang on the calls is taken first, the calls come up one by one. -/
import Derived.Test.YtofjifhnkcghpaaDoorBase3
import Derived.OrdersHeld
namespace Go.Proofs.YtofjifhnkcghpaaDoor
open Go.RowKit
set_option linter.unusedVariables false
set_option linter.unusedSimpArgs false

section
variable {P : Program} {ops : Array Oper} {Q : Exit → Act → World → Prop} {S : World → Prop} {fuel : Nat} {listed : Array Bool} {a : Act} {w : World}

theorem hk_start {id : Nat} {l : List Oper} (S : World → Prop) (n : Nat) (hn : n = l.toArray.size) (hm : P.follows .mixedOrders = true)
    (h : wpAnyH P .any l.toArray Q S n (Array.replicate n false) a w.drew) : (Code.region id l.toArray true).wp P Q a w := by
  subst hn
  exact wp_region_held (S := S) hm h

theorem hk_take (i : Nat) (v : Value) {oi : Oper} (hi : ops[i]? = some oi)
    (hs : (Region.noSelect ops && Region.free .any ops listed i && (Region.ready .any ops listed).contains i) = true)
    (hQ : ∀ c a w, Q (.panic c) (a.put oi.dst v) w → Q (.panic c) a w) (hw : Region.wanted oi (yielded ops a.tmps) = true)
    (hv : ∀ w', S w' → (execOp a.eval oi).run P w' = .ok (.value v) w') (hS : S w)
    (h : wpAnyH P .any ops Q S fuel (listed.setIfInBounds i true) (a.put oi.dst v) w) : wpAnyH P .any ops Q S (fuel + 1) listed a w := by
  simp only [Bool.and_eq_true] at hs
  exact wpAnyH_take hi hs.1.1 hs.1.2 hs.2 hQ (.inl ⟨hw, hv⟩) hS h

theorem hk_skip (i : Nat) {oi : Oper} (hi : ops[i]? = some oi)
    (hs : (Region.noSelect ops && Region.free .any ops listed i && (Region.ready .any ops listed).contains i) = true)
    (hQ : ∀ c a w, Q (.panic c) (a.put oi.dst undef) w → Q (.panic c) a w) (hw : Region.wanted oi (yielded ops a.tmps) = false) (hS : S w)
    (h : wpAnyH P .any ops Q S fuel (listed.setIfInBounds i true) (a.put oi.dst undef) w) : wpAnyH P .any ops Q S (fuel + 1) listed a w := by
  simp only [Bool.and_eq_true] at hs
  exact wpAnyH_take hi hs.1.1 hs.1.2 hs.2 hQ (.inr ⟨hw, rfl⟩) hS h

theorem hk_call (i : Nat) {o : Oper} (hi : ops[i]? = some o) (hr : Region.ready .any ops listed = [i]) (hw : Region.wanted o (yielded ops a.tmps) = true)
    (f : FuncId) (args : Array Value) (hx : (execOp a.eval o).run P w = .ok (.enter f args) w)
    (hc : Calls P f args w fun e w' => ∃ v, e = .returned v ∧ S w' ∧ wpAnyH P .any ops Q S fuel (listed.setIfInBounds i true) (a.put o.dst v) w') :
    wpAnyH P .any ops Q S (fuel + 1) listed a w := by
  refine wpAnyH_all hr (by simp) fun j hj => ?_
  obtain rfl : j = i := by simpa using hj
  unfold wpOp
  simp only [hi, hw, if_true]
  refine .inl ?_
  unfold Oper.wp
  rw [hx]
  refine hc.mono fun e w' h => ?_
  obtain ⟨v, rfl, h2⟩ := h
  exact h2

theorem hk_load_at (i : Nat) {oi : Oper} (hi : ops[i]? = some oi)
    (hs : (Region.noSelect ops && Region.free .any ops listed i && (Region.ready .any ops listed).contains i) = true)
    (hw : Region.wanted oi (yielded ops a.tmps) = true) (ty : TypeId) (x : Operand) (ho : oi.op = .load ty x)
    (b off : Nat) (hx : a.eval x = .pointer (some ⟨b, off, none⟩)) (cs : Array Value) (d : TypeDesc) (hc : ∀ w', S w' → ∀ j, j < cs.size → w'.cell? ⟨b, off + j, none⟩ = cs[j]?)
    (hu : P.underlying ty = some d) (hd : (match d with | .struct _ | .array _ _ => true | _ => false) = true) (hsz : (P.info? ty).map (·.size) = some cs.size)
    (hQ : ∀ c a w, Q (.panic c) (a.put oi.dst (.agg cs)) w → Q (.panic c) a w) (hS : S w)
    (h : wpAnyH P .any ops Q S fuel (listed.setIfInBounds i true) (a.put oi.dst (.agg cs)) w) : wpAnyH P .any ops Q S (fuel + 1) listed a w :=
  hk_take i _ hi hs hQ hw (fun w' hS' => exec_load_at (w := w') ty x ho b off hx cs d (hc w' hS') hu hd hsz) hS h

/-- a panic looks at nothing but the deferred calls -/
def PanicQ (Q : Exit → Act → World → Prop) : Prop := ∀ c (a a' : Act) w, a.defers = a'.defers → Q (.panic c) a w → Q (.panic c) a' w
theorem put_defers (a : Act) (d : Option Tmp) (v : Value) : (a.put d v).defers = a.defers := by cases d <;> rfl
theorem PanicQ.put {Q : Exit → Act → World → Prop} (h : PanicQ Q) (d : Option Tmp) (v : Value) : ∀ c a w, Q (.panic c) (a.put d v) w → Q (.panic c) a w :=
  fun c a w hq => h c _ _ w (put_defers a d v) hq

theorem hp_start {id : Nat} {l : List Oper} (S : World → Prop) (n : Nat) (hn : n = l.toArray.size) (hm : P.follows .mixedOrders = true) (hP : PanicQ Q)
    (h : PanicQ Q → wpAnyH P .any l.toArray Q S n (Array.replicate n false) a w.drew) : (Code.region id l.toArray true).wp P Q a w := hk_start S n hn hm (h hP)

theorem hp_take (hP : PanicQ Q) (i : Nat) (d : Option Tmp) (v : Value) {oi : Oper} (hi : ops[i]? = some oi) (hd : oi.dst = d)
    (hs : (Region.noSelect ops && Region.free .any ops listed i && (Region.ready .any ops listed).contains i) = true)
    (hw : Region.wanted oi (yielded ops a.tmps) = true)
    (hv : ∀ w', S w' → (execOp a.eval oi).run P w' = .ok (.value v) w') (hS : S w)
    (h : wpAnyH P .any ops Q S fuel (listed.setIfInBounds i true) (a.put d v) w) : wpAnyH P .any ops Q S (fuel + 1) listed a w := by
  subst hd; exact hk_take i v hi hs (hP.put _ _) hw hv hS h

theorem hp_skip (hP : PanicQ Q) (i : Nat) (d : Option Tmp) {oi : Oper} (hi : ops[i]? = some oi) (hd : oi.dst = d)
    (hs : (Region.noSelect ops && Region.free .any ops listed i && (Region.ready .any ops listed).contains i) = true)
    (hw : Region.wanted oi (yielded ops a.tmps) = false) (hS : S w)
    (h : wpAnyH P .any ops Q S fuel (listed.setIfInBounds i true) (a.put d undef) w) : wpAnyH P .any ops Q S (fuel + 1) listed a w := by
  subst hd; exact hk_skip i hi hs (hP.put _ _) hw hS h

theorem hp_call (i : Nat) (d : Option Tmp) {o : Oper} (hi : ops[i]? = some o) (hd : o.dst = d) (hr : Region.ready .any ops listed = [i]) (hw : Region.wanted o (yielded ops a.tmps) = true)
    (f : FuncId) (args : Array Value) (hx : (execOp a.eval o).run P w = .ok (.enter f args) w)
    (hc : Calls P f args w fun e w' => ∃ v, e = .returned v ∧ S w' ∧ wpAnyH P .any ops Q S fuel (listed.setIfInBounds i true) (a.put d v) w') :
    wpAnyH P .any ops Q S (fuel + 1) listed a w := by
  subst hd; exact hk_call i hi hr hw f args hx hc

theorem hp_load_at (hP : PanicQ Q) (i : Nat) (d : Option Tmp) {oi : Oper} (hi : ops[i]? = some oi) (hdst : oi.dst = d)
    (hs : (Region.noSelect ops && Region.free .any ops listed i && (Region.ready .any ops listed).contains i) = true)
    (hw : Region.wanted oi (yielded ops a.tmps) = true) (ty : TypeId) (x : Operand) (ho : oi.op = .load ty x)
    (b off : Nat) (hx : a.eval x = .pointer (some ⟨b, off, none⟩)) (cs : Array Value) (td : TypeDesc) (hc : ∀ w', S w' → ∀ j, j < cs.size → w'.cell? ⟨b, off + j, none⟩ = cs[j]?)
    (hu : P.underlying ty = some td) (hd : (match td with | .struct _ | .array _ _ => true | _ => false) = true) (hsz : (P.info? ty).map (·.size) = some cs.size) (hS : S w)
    (h : wpAnyH P .any ops Q S fuel (listed.setIfInBounds i true) (a.put d (.agg cs)) w) : wpAnyH P .any ops Q S (fuel + 1) listed a w := by
  subst hdst; exact hk_load_at i hi hs hw ty x ho b off hx cs td hc hu hd hsz (hP.put _ _) hS h

theorem hk_done (hr : Region.ready .any ops listed = []) (h : Q .normal a w) : wpAnyH P .any ops Q S fuel listed a w := wpAnyH_done hr h _
end

end Go.Proofs.YtofjifhnkcghpaaDoor
