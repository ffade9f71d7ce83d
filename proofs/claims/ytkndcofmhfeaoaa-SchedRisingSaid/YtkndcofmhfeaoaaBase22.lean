/- Maps from numbers to pointers, as lists of entries (net's A, as a base text). -/
import Derived.Test.YtkndcofmhfeaoaaBase20
import Derived.Maps.OwnSet
namespace Go.Proofs.Ytkndcofmhfeaoaa
open Go.RowKit Go.Maps
set_option linter.unusedVariables false
set_option linter.unusedSimpArgs false

/-- how a pointer to the beginning of a block reads, as an element of a map -/
def ptrElem (v : Value) : Option (DataW Unit × List MemPlace) :=
  match v with
  | .pointer none => some (.nil, [])
  | .pointer (some ⟨b, 0, none⟩) => some (.lit (.int .i64 (b : Int)), [])
  | _ => none
def pv (o : Option Nat) : Value := .pointer (o.map fun b => ⟨b, 0, none⟩)
def pd (o : Option Nat) : DataW Unit := match o with | none => .nil | some b => .lit (.int .i64 (b : Int))
theorem ptrElem_pv (o : Option Nat) : ptrElem (pv o) = some (pd o, []) := by cases o <;> rfl
theorem ptrElem_inv {v : Value} {o : Option Nat} {ps : List MemPlace} (h : ptrElem v = some (pd o, ps)) : v = pv o := by
  unfold ptrElem at h
  split at h
  · cases o <;> simp [pd] at h ⊢; rfl
  · cases o <;> simp [pd] at h ⊢
    obtain ⟨h, -⟩ := h
    obtain rfl := Int.ofNat.inj h; rfl
  · cases h

/-- where the entry at a key leads -/
def at_ (l : List (Int × Nat)) (x : Int) : Option Nat := (l.find? fun p => p.1 == x).map (·.2)
theorem at_none {l : List (Int × Nat)} {x : Int} : at_ l x = none ↔ ∀ p ∈ l, p.1 ≠ x := by
  unfold at_
  simp [List.find?_eq_none]
theorem at_cons (p : Int × Nat) (l : List (Int × Nat)) (x : Int) : at_ (p :: l) x = if p.1 = x then some p.2 else at_ l x := by
  unfold at_
  rw [List.find?_cons]
  by_cases h : p.1 = x
  · simp [h]
  · have : (p.1 == x) = false := by simpa using h
    simp [h, this]
theorem at_append (l m : List (Int × Nat)) (x : Int) : at_ (l ++ m) x = (at_ l x).or (at_ m x) := by
  unfold at_
  rw [List.find?_append]
  cases l.find? (fun p => p.1 == x) <;> simp

def atD (l : List (Int × Nat)) (x : Int) (z : DataW Unit) : DataW Unit := match at_ l x with | some b => pd (some b) | none => z

/-- BLOCK bm IS A MAP from numbers to pointers, with just these entries -/
structure PMap (P : Program) (k : TypeId) (w : World) (bm : Nat) (l : List (Int × Nat)) : Prop where
  apart : l.Pairwise (fun p q => p.1 ≠ q.1)
  map : ∃ D, w.ownsMap P k ptrElem bm l.length D ∧ Maps.size D = l.length ∧ ∀ x z, D.atKey (.int .i64 x) z = atD l x z

section
variable {P : Program} {k : TypeId} {w w' : World} {bm : Nat} {l : List (Int × Nat)}

theorem PMap.made (w : World) (P : Program) (k : TypeId) : PMap P k (w.alloc (.map #[] 0)) w.heap.size [] :=
  ⟨List.Pairwise.nil, _, World.ownsMap_made w P k _, rfl, fun x z => rfl⟩
theorem PMap.lt (h : PMap P k w bm l) : bm < w.heap.size := by obtain ⟨-, D, hD, -⟩ := h; exact hD.lt
theorem PMap.isMap (h : PMap P k w bm l) : ∃ es clock, w.heap[bm]? = some (.map es clock) := by
  obtain ⟨-, D, ⟨es, clock, h, -⟩, -⟩ := h; exact ⟨es, clock, h⟩
theorem PMap.block (h : PMap P k w bm l) (hb : w'.heap[bm]? = w.heap[bm]?) : PMap P k w' bm l := by
  obtain ⟨ha, D, ⟨es, clock, h1, h2, h3, h4⟩, h5⟩ := h
  exact ⟨ha, D, ⟨es, clock, hb.trans h1, h2, h3, h4⟩, h5⟩
theorem PMap.turn {F : Nat → Prop} (h : PMap P k w bm l) (ht : Turn F w w') (hF : ¬ F bm) : PMap P k w' bm l := h.block (ht.block bm h.lt hF)
theorem PMap.alloc (h : PMap P k w bm l) (o : Obj) : PMap P k (w.alloc o) bm l := h.block (Below.heap_alloc _ _ _ h.lt)
theorem PMap.setCell (h : PMap P k w bm l) {a : Addr} (ha : bm ≠ a.block) (u : Value) : PMap P k (w.setCell a u) bm l := h.block (Below.heap_setCell _ _ _ _ ha)
theorem PMap.setRow (h : PMap P k w bm l) {g : Nat} (ha : bm ≠ g) (cs : Array Value) : PMap P k (w.setRow g cs) bm l := h.block (setRow_other w g bm cs ha)

theorem PMap.has {D : DataW Unit} (h : ∀ x z, D.atKey (.int .i64 x) z = atD l x z) (x : Int) : Maps.has D (.int .i64 x) = (at_ l x).isSome := by
  cases hx : at_ l x with
  | none => exact has_false_of_atKey (fun z => by rw [h x z]; simp [atD, hx])
  | some b => exact has_true_of_atKey (y := pd (some b)) (fun z => by rw [h x z]; simp [atD, hx])

theorem PMap.look {t e : TypeId} (h : PMap P k w bm l) (hk : P.underlying k = some (.int .i64)) (ht : P.underlying t = some (.map k e)) (hz : (zeroValue e).run P w = .ok (.pointer none) w) {x : Int} (hx : (Lit.int .i64 x).wf = true) :
    (Instr.lookup t (.map (some bm)) (.int .i64 x) false).run P w = .ok (pv (at_ l x)) w := by
  obtain ⟨-, D, hown, -, hat⟩ := h
  obtain ⟨v, ps, hrun, hv⟩ := hown.lookup (int_keyed hk) ht hz (zd := .nil) (zp := []) rfl (keyOf_int_mk hk hx)
  rw [hat] at hv
  have : atD l x .nil = pd (at_ l x) := by unfold atD; cases at_ l x <;> rfl
  rw [this] at hv
  rw [hrun, ptrElem_inv hv]
theorem PMap.len {t e : TypeId} (h : PMap P k w bm l) (ht : P.underlying t = some (.map k e)) (ty : TypeId) : (Builtin.len_ #[t] ty #[.map (some bm)]).run P w = .ok (.int .i64 (l.length : Nat)) w := by
  obtain ⟨-, D, hown, hs, hat⟩ := h
  rw [hown.len ht, hs]
theorem PMap.store {t e : TypeId} (h : PMap P k w bm l) (hk : P.underlying k = some (.int .i64)) (ht : P.underlying t = some (.map k e)) (hn : l.length < maxLen) {x : Int} (hx : (Lit.int .i64 x).wf = true) (hnew : at_ l x = none) (b : Nat) :
    ∃ w', (Instr.mapUpdate t (.map (some bm)) (.int .i64 x) (.pointer (some ⟨b, 0, none⟩))).run P w = .ok () w' ∧ PMap P k w' bm (l ++ [(x, b)]) ∧ w.mapTurned w' bm := by
  obtain ⟨ha, D, hown, hs, hat⟩ := h
  obtain ⟨w', hrun, hown', hturn⟩ := hown.store (int_keyed hk) ht hn (keyOf_int_mk hk hx) (ptrElem_pv (some b))
  have ht' := hown.tidy (int_keyed hk)
  refine ⟨w', hrun, ⟨?_, _, hown'.mono (by simp), ?_, ?_⟩, hturn⟩
  · rw [List.pairwise_append]
    refine ⟨ha, by simp, fun p hp q hq => ?_⟩
    simp only [List.mem_cons, List.not_mem_nil, or_false] at hq
    subst hq
    exact at_none.1 hnew p hp
  · rw [size_put ht', PMap.has hat, hnew]
    simp [hs]
  · intro y z
    by_cases e : y = x
    · subst e
      rw [atKey_put_same ht'.isMap (by trivial)]
      simp [atD, at_append, hnew, at_cons]
    · rw [atKey_put_other (by simpa using e), hat]
      simp [atD, at_append, at_cons, Ne.symm e]
      cases at_ l y <;> simp [at_]
theorem length_drop_key (x : Int) : ∀ l : List (Int × Nat), l.Pairwise (fun p q => p.1 ≠ q.1) → (l.filter fun p => decide (p.1 ≠ x)).length + (if (at_ l x).isSome then 1 else 0) = l.length
  | [], _ => rfl
  | p :: r, h => by
    obtain ⟨h1, h2⟩ := List.pairwise_cons.1 h
    have ih := length_drop_key x r h2
    rw [at_cons]
    by_cases e : p.1 = x
    · have hn : at_ r x = none := at_none.2 fun q hq => by rw [← e]; exact (h1 q hq).symm
      rw [hn] at ih
      simp [e] at ih ⊢
      intro a b hab
      exact at_none.1 hn (a, b) hab
    · rw [if_neg e, List.filter_cons, if_pos (by simpa using e), List.length_cons, List.length_cons]
      omega
theorem at_filter (l : List (Int × Nat)) (x y : Int) : at_ (l.filter fun p => decide (p.1 ≠ x)) y = if y = x then none else at_ l y := by
  induction l with
  | nil => simp [at_]
  | cons p r ih =>
    rw [List.filter_cons]
    by_cases e : p.1 = x
    · rw [if_neg (by simpa using e), ih, at_cons]
      split
      · rfl
      · rename_i h; rw [if_neg (by rw [e]; exact fun e' => h e'.symm)]
    · rw [if_pos (by simpa using e), at_cons, at_cons, ih]
      by_cases e2 : p.1 = y
      · rw [if_pos e2, if_pos e2, if_neg (by rw [← e2]; exact e)]
      · rw [if_neg e2, if_neg e2]
theorem PMap.drop {t e : TypeId} (h : PMap P k w bm l) (hk : P.underlying k = some (.int .i64)) (ht : P.underlying t = some (.map k e)) {x : Int} (hx : (Lit.int .i64 x).wf = true) (ty : TypeId) :
    ∃ w', (Builtin.delete_ #[t, k] ty #[.map (some bm), .int .i64 x]).run P w = .ok (.tuple #[]) w' ∧ PMap P k w' bm (l.filter fun p => decide (p.1 ≠ x)) ∧ w.mapTurned w' bm := by
  obtain ⟨ha, D, hown, hs, hat⟩ := h
  obtain ⟨w', hrun, hown', hturn⟩ := hown.drop (int_keyed hk) ht (keyOf_int_mk hk hx) ty
  have ht' := hown.tidy (int_keyed hk)
  have hsz : Maps.size (D.del (.int .i64 x)) = (l.filter fun p => decide (p.1 ≠ x)).length := by
    have h1 := size_del (k := .int .i64 x) ht'
    rw [PMap.has hat] at h1
    have h2 := length_drop_key x l ha
    omega
  refine ⟨w', hrun, ⟨ha.filter _, _, ?_, hsz, ?_⟩, hturn⟩
  · have := tight hown'
    rw [hsz] at this
    exact this
  · intro y z
    unfold atD
    rw [at_filter]
    by_cases e : y = x
    · subst e
      rw [atKey_del_same]; simp
    · rw [atKey_del_other (by simpa using e), hat, if_neg e]; rfl
end
end Go.Proofs.Ytkndcofmhfeaoaa
