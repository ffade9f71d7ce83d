/- Words that all proofs of this seat use: rows of cells that are read, lists of numbers, contracts that leave the world alone. -/
import Derived.WalkKit
import Derived.WalkLawsBesides
import Derived.WalkSpells
import Derived.Lib.Hide
import Derived.Deep.QuietTactic
import Derived.BigQuiet
import Derived.Deep.RegionWith
import Derived.Deep.Draws
import Derived.Laws.AppendOwn
import Derived.StillTailTactics
import Derived.Deep.LoopGhost
namespace Go.Proofs.YtofjifhnkcghpaaDoor
open Go.RowKit
set_option linter.unusedVariables false
set_option linter.unusedSimpArgs false

theorem ret_int {k : IntKind} {a b : Int} (h : a = b) : Ending.returned (.int k a) = .returned (.int k b) := by rw [h]
theorem ret_bool {a b : Bool} (h : a = b) : Ending.returned (.bool a) = .returned (.bool b) := by rw [h]
theorem w64 {x : Int} (h : -9223372036854775808 ≤ x ∧ x ≤ 9223372036854775807) : wrap64 x = x := IntWalk.wrap64_in x h

/-- a contract that leaves the world alone, inside a region that draws -/
theorem quietL {P : Program} {f : FuncId} {args : Array Value} {w : World} {n : Nat} {v : Value}
    (h : Calls P f args (w.drewN n) fun e w' => e = .returned v ∧ w.drewN n = w') : Calls P f args (w.drewN n) fun e w' => e = .returned v ∧ ∃ m, w' = w.drewN m :=
  h.mono fun _ _ h => ⟨h.1, n, h.2.symm⟩
theorem quietA {P : Program} {f : FuncId} {args : Array Value} {w : World} {a n : Nat} {v : Value}
    (h : Calls P f args (w.drewN (a + n)) fun e w' => e = .returned v ∧ w.drewN (a + n) = w') :
    Calls P f args (w.drewN (a + n)) fun e w' => e = .returned v ∧ ∃ m, w' = w.drewN (a + m) :=
  h.mono fun _ _ h => ⟨h.1, n, h.2.symm⟩

theorem Below.drewN {B : Nat} {a w : World} (h : Below B a w) (n : Nat) : Below B a (w.drewN n) := ⟨h.os, h.tape, h.output, h.size, h.block⟩

/-- numbers as values -/
def ints (l : List Int) : Array Value := (l.map (Value.int .i64)).toArray
theorem ints_one (l : List Int) : (ints l).all (·.oneCell') = true := by
  simp [ints, Value.oneCell']
theorem size_ints (l : List Int) : (ints l).size = l.length := by simp [ints]

/-- A SLICE THAT CAN BE READ: n elements of 'size' cells each, in a block below B. -/
structure Row (B : Nat) (w : World) (v : Value) (n size : Nat) (xs : List Value) : Prop where
  len : xs.length = n * size
  val : ∃ a cap, v = .slice a n cap ∧ n ≤ cap ∧ cap ≤ maxLen ∧
    (0 < n → ∃ b off, a = some ⟨b, off, none⟩ ∧ b < B ∧ ∀ j, j < n * size → w.cell? ⟨b, off + j, none⟩ = some (xs.getD j undef))

theorem Row.mono {B B' : Nat} {w w' : World} {v : Value} {n size : Nat} {xs : List Value} (h : Row B w v n size xs) (hb : Below B w w') (hB : B ≤ B') : Row B' w' v n size xs := by
  obtain ⟨hl, a, cap, hv, h1, h2, h3⟩ := h
  refine ⟨hl, a, cap, hv, h1, h2, fun hn => ?_⟩
  obtain ⟨b, off, ha, hb', hc⟩ := h3 hn
  exact ⟨b, off, ha, by omega, fun j hj => (hb.cell (by exact hb')).trans (hc j hj)⟩

theorem Row.nil (B : Nat) (w : World) (size : Nat) : Row B w (.slice none 0 0) 0 size [] := ⟨by simp, none, 0, rfl, Nat.le_refl _, by unfold maxLen; omega, fun h => absurd h (by omega)⟩

theorem Row.of_owns {w : World} {base : Nat} {e : TypeId} {size : Nat} {v : Value} {n : Nat} {xs : List Value} (h : w.ownsRow base e size v n xs) : Row w.heap.size w v n size xs := by
  refine ⟨h.1, ?_⟩
  have hlt := h.lt
  have hc := @World.ownsRow.cells _ _ _ _ _ _ _ h
  rcases h.2 with ⟨rfl, rfl⟩ | ⟨g, cap, cur, rfl, hb, hg, hn, hm, hs, ht⟩
  · exact ⟨none, 0, rfl, Nat.le_refl _, by unfold maxLen; omega, fun h => absurd h (by omega)⟩
  · refine ⟨some ⟨g, 0, none⟩, cap, rfl, hn, hm, fun _ => ⟨g, 0, rfl, (hlt g rfl).2, fun j hj => ?_⟩⟩
    have := hc (g := g) rfl j (xs.getD j undef) (by rw [List.getD_eq_getElem?_getD, List.getElem?_eq_getElem (by have := h.1; omega)]; rfl)
    have e : (⟨g, 0, none⟩ : Addr).add j = ⟨g, 0 + j, none⟩ := by unfold Addr.add; split <;> simp_all
    rw [e] at this
    exact this

/-- a slice of ints that can be read -/
def RowI (B : Nat) (w : World) (v : Value) (l : List Int) : Prop := Row B w v l.length 1 (l.map (Value.int .i64))

theorem RowI.mono {B B' : Nat} {w w' : World} {v : Value} {l : List Int} (h : RowI B w v l) (hb : Below B w w') (hB : B ≤ B') : RowI B' w' v l := Row.mono h hb hB
theorem RowI.nil (B : Nat) (w : World) : RowI B w (.slice none 0 0) [] := Row.nil B w 1
theorem RowI.of_owns {w : World} {base : Nat} {e : TypeId} {v : Value} {n : Nat} {l : List Int} (h : w.ownsRow base e 1 v n (l.map (Value.int .i64))) : RowI w.heap.size w v l := by
  have hn : n = l.length := by have := h.1; simpa using this.symm
  subst hn; exact Row.of_owns h
theorem RowI.open {B : Nat} {w : World} {v : Value} {l : List Int} (h : RowI B w v l) : ∃ a cap, v = .slice a l.length cap ∧ l.length ≤ cap ∧ cap ≤ 9223372036854775807 ∧
    (0 < l.length → ∃ b off, a = some ⟨b, off, none⟩ ∧ b < B ∧ ∀ j, j < l.length → w.cell? ⟨b, off + j, none⟩ = some (.int .i64 (l.getD j 0))) := by
  obtain ⟨hl, a, cap, hv, h1, h2, h3⟩ := h
  refine ⟨a, cap, hv, h1, by simpa [maxLen] using h2, fun hn => ?_⟩
  obtain ⟨b, off, ha, hb', hc⟩ := h3 hn
  refine ⟨b, off, ha, hb', fun j hj => ?_⟩
  rw [hc j (by omega)]
  simp [List.getD_eq_getElem?_getD, hj]

/-- where a number stands in a list; -1: it isn't there -/
def indexZ (l : List Int) (x : Int) : Int := if x ∈ l then (l.idxOf x : Nat) else -1
theorem indexZ_at {l : List Int} {x : Int} {k : Nat} (hk : k < l.length) (hx : x = l.getD k 0) (hn : ∀ j, j < k → l.getD j 0 ≠ x) : indexZ l x = k := by
  have hx' : l[k] = x := by rw [hx, List.getD_eq_getElem?_getD, List.getElem?_eq_getElem hk]; rfl
  have hm : x ∈ l := hx' ▸ List.getElem_mem hk
  unfold indexZ
  rw [if_pos hm]
  have h1 : l.idxOf x < l.length := List.idxOf_lt_length_iff.2 hm
  have h2 : l[l.idxOf x] = x := List.getElem_idxOf h1
  have h3 : ¬ l.idxOf x < k := fun h => hn _ h (by rw [List.getD_eq_getElem?_getD, List.getElem?_eq_getElem h1]; exact h2)
  have h4 : ¬ k < l.idxOf x := fun h => by
    have := List.not_of_lt_findIdx (p := (· == x)) (xs := l) (i := k) (by simpa [List.idxOf] using h)
    simp [hx'] at this
  omega
theorem indexZ_none {l : List Int} {x : Int} (hn : ∀ j, j < l.length → l.getD j 0 ≠ x) : indexZ l x = -1 := by
  unfold indexZ
  rw [if_neg]
  intro hm
  obtain ⟨i, hi, h⟩ := List.getElem_of_mem hm
  exact hn i hi (by rw [List.getD_eq_getElem?_getD, List.getElem?_eq_getElem hi]; exact h)
/-- is a number in a list? -/
def hasZ (l : List Int) (x : Int) : Bool := l.contains x
theorem indexZ_contains (l : List Int) (x : Int) : decide (0 ≤ indexZ l x) = hasZ l x := by
  unfold indexZ hasZ
  by_cases h : x ∈ l <;> simp [h]
theorem contains_at {l : List Int} {x : Int} {k : Nat} (hk : k < l.length) (hx : l.getD k 0 = x) : hasZ l x = true := by
  have hx' : l[k] = x := by rw [← hx, List.getD_eq_getElem?_getD, List.getElem?_eq_getElem hk]; rfl
  unfold hasZ
  simpa using hx' ▸ List.getElem_mem hk
theorem contains_none {l : List Int} {x : Int} (hn : ∀ j, j < l.length → l.getD j 0 ≠ x) : hasZ l x = false := by
  rw [← indexZ_contains, indexZ_none hn]; rfl

theorem cell_one_new' (w : World) (T : TypeId) (v : Value) : ∀ j u, [v][j]? = some u → (w.alloc (.cells #[v] T)).cell? ((⟨w.heap.size, 0, none⟩ : Addr).add j) = some u := by
  intro j u hj
  match j, hj with
  | 0, hj => simp at hj; subst hj; simp [Addr.add]

/-- behind an append onto a row of the call's own, of elements that were laid in a new block -/
theorem Below.appended {B : Nat} {w wr w1 : World} {v : Value} {e : TypeId} {size n : Nat} {xs : List Value} (hB : Below B w wr) (hs : B ≤ wr.heap.size)
    (hown : wr.ownsRow B e size v n xs) (o : Obj) (hg : (wr.alloc o).grownBy w1 v.ownBlock) : Below B w w1 :=
  (hB.alloc hs o).grown hg (by simp; omega) (fun k hk => (hown.lt k hk).1)

theorem stillL {P : Program} {f : FuncId} {args : Array Value} {w : World} {v : Value}
    (h : Calls P f args w fun e w' => e = .returned v ∧ w = w') : Calls P f args w fun e w' => e = .returned v ∧ w' = w := h.mono fun _ _ h => ⟨h.1, h.2.symm⟩
theorem owns_base {w : World} {base base' : Nat} {e : TypeId} {size : Nat} {v : Value} {n : Nat} {xs : List Value} (h : w.ownsRow base e size v n xs) (hb : base' ≤ base) : w.ownsRow base' e size v n xs := by
  refine ⟨h.1, ?_⟩
  rcases h.2 with h | ⟨g, cap, cur, hv, hg, r⟩
  · exact .inl h
  · exact .inr ⟨g, cap, cur, hv, by omega, r⟩
theorem owns_below {w w' : World} {base B : Nat} {e : TypeId} {size : Nat} {v : Value} {n : Nat} {xs : List Value} (h : w.ownsRow base e size v n xs) (hb : Below B w w') (hB : w.heap.size ≤ B) : w'.ownsRow base e size v n xs := by
  refine ⟨h.1, ?_⟩
  rcases h.2 with h | ⟨g, cap, cur, hv, hg, hh, r⟩
  · exact .inl h
  · exact .inr ⟨g, cap, cur, hv, hg, by rw [hb.block g (by have := (Array.getElem?_eq_some_iff.1 hh).1; omega)]; exact hh, r⟩

/-- BLOCK b HOLDS JUST THESE CELLS, none of them frozen. -/
def Blk (w : World) (b : Nat) (T : TypeId) (cs : Array Value) : Prop := w.heap[b]? = some (.cells cs T (0, 0))
theorem Blk.lt {w : World} {b : Nat} {T : TypeId} {cs : Array Value} (h : Blk w b T cs) : b < w.heap.size := (Array.getElem?_eq_some_iff.1 h).1
theorem Blk.cell {w : World} {b : Nat} {T : TypeId} {cs : Array Value} (h : Blk w b T cs) (j : Nat) : w.cell? ⟨b, j, none⟩ = cs[j]? := by
  unfold Blk at h; simp [World.cell?, h]
theorem Blk.free {w : World} {b : Nat} {T : TypeId} {cs : Array Value} (h : Blk w b T cs) (j : Nat) : w.frozen? ⟨b, j, none⟩ = false := by
  unfold Blk at h; simp [World.frozen?, h]
theorem Blk.below {w w' : World} {B b : Nat} {T : TypeId} {cs : Array Value} (h : Blk w b T cs) (hb : Below B w w') (hB : b < B) : Blk w' b T cs := (hb.block b hB).trans h
theorem Blk.new (w : World) (T : TypeId) (cs : Array Value) : Blk (w.alloc (.cells cs T)) w.heap.size T cs := heap_alloc_new w _
theorem Blk.newAt (w : World) (T : TypeId) (cs : Array Value) {b : Nat} (h : b = w.heap.size) : Blk (w.alloc (.cells cs T)) b T cs := by subst h; exact Blk.new w T cs
theorem Blk.alloc {w : World} {b : Nat} {T : TypeId} {cs : Array Value} (h : Blk w b T cs) (o : Obj) : Blk (w.alloc o) b T cs :=
  (Below.heap_alloc w o b h.lt).trans h
theorem Blk.drew {w : World} {b : Nat} {T : TypeId} {cs : Array Value} (h : Blk w b T cs) : Blk w.drew b T cs := h
theorem Blk.drewN {w : World} {b : Nat} {T : TypeId} {cs : Array Value} (h : Blk w b T cs) (n : Nat) : Blk (w.drewN n) b T cs := h
theorem Blk.other {w : World} {b : Nat} {T : TypeId} {cs : Array Value} (h : Blk w b T cs) {p : Addr} (hp : p.block ≠ b) (u : Value) : Blk (w.setCell p u) b T cs :=
  (Below.heap_setCell w p u b (fun e => hp e.symm)).trans h
theorem Blk.set {w : World} {b : Nat} {T : TypeId} {cs : Array Value} (h : Blk w b T cs) (j : Nat) (u : Value) : Blk (w.setCell ⟨b, j, none⟩ u) b T (cs.setIfInBounds j u) := by
  unfold Blk at *
  simp only [World.setCell, Array.getElem?_modify, if_true]
  rw [h]
  rfl
theorem Blk.setRow {w : World} {b : Nat} {T : TypeId} {cs cs' : Array Value} (h : Blk w b T cs) : Blk (w.setRow b cs') b T cs' := setRow_heap w b cs cs' T (0, 0) h
theorem Blk.otherRow {w : World} {b g : Nat} {T : TypeId} {cs cs' : Array Value} (h : Blk w b T cs) (hne : b ≠ g) : Blk (w.setRow g cs') b T cs := (setRow_other w g b cs' hne).trans h
theorem Below.setRow {B g : Nat} {a w : World} (h : Below B a w) (hg : B ≤ g) (cs : Array Value) : Below B a (w.setRow g cs) :=
  h.trans ⟨rfl, rfl, rfl, by simp [World.setRow], fun k hk => setRow_other w g k cs (by omega)⟩
theorem Blk.grown {w w' : World} {row : Option Nat} {b : Nat} {T : TypeId} {cs : Array Value} (h : Blk w b T cs) (hg : w.grownBy w' row) (hne : some b ≠ row) : Blk w' b T cs := (hg.block b h.lt hne).trans h

/-- block b holds just these numbers -/
def Arr (w : World) (b : Nat) (T : TypeId) (l : List Int) : Prop := Blk w b T (ints l)
theorem ints_set (l : List Int) (j : Nat) (x : Int) : (ints l).setIfInBounds j (.int .i64 x) = ints (l.set j x) := by
  simp [ints, List.map_set]
theorem ints_get (l : List Int) (j : Nat) (h : j < l.length) : (ints l)[j]? = some (.int .i64 (l.getD j 0)) := by
  simp [ints, List.getD_eq_getElem?_getD, h]
theorem Arr.cell {w : World} {b : Nat} {T : TypeId} {l : List Int} (h : Arr w b T l) {j : Nat} (hj : j < l.length) : w.cell? ⟨b, j, none⟩ = some (.int .i64 (l.getD j 0)) :=
  (Blk.cell h j).trans (ints_get l j hj)
theorem Arr.free {w : World} {b : Nat} {T : TypeId} {l : List Int} (h : Arr w b T l) (j : Nat) : w.frozen? ⟨b, j, none⟩ = false := Blk.free h j
theorem Arr.set {w : World} {b : Nat} {T : TypeId} {l : List Int} (h : Arr w b T l) (j : Nat) (x : Int) : Arr (w.setCell ⟨b, j, none⟩ (.int .i64 x)) b T (l.set j x) := by
  have := Blk.set h j (.int .i64 x)
  rw [ints_set] at this
  exact this

/-- a whole array or struct that lies somewhere in a block is loaded -/
theorem run_loadVar_at {P : Program} (w : World) (b off : Nat) (ty : TypeId) (cs : Array Value) (d : TypeDesc)
    (hc : ∀ j, j < cs.size → w.cell? ⟨b, off + j, none⟩ = cs[j]?)
    (hu : P.underlying ty = some d) (hd : (match d with | .struct _ | .array _ _ => true | _ => false) = true) (hi : (P.info? ty).map (·.size) = some cs.size) :
    (loadVar ty ⟨b, off, none⟩).run P w = .ok (.agg cs) w := by
  have hl : (loadCells ⟨b, off, none⟩ cs.toList.length).run P w = .ok cs.toList.toArray w :=
    run_loadCells_list (P := P) w ⟨b, off, none⟩ cs.toList (fun j v hv => by
      have hadd : (⟨b, off, none⟩ : Addr).add j = ⟨b, off + j, none⟩ := by unfold Addr.add; split <;> simp_all
      have hv' : cs[j]? = some v := by simpa using hv
      have hj : j < cs.size := (Array.getElem?_eq_some_iff.1 hv').1
      rw [hadd, hc j hj, hv'])
  cases hq : P.info? ty with
  | none => simp [hq] at hi
  | some i =>
    have hs : i.size = cs.size := by simpa [hq] using hi
    have hagg : (isAgg ty).run P w = .ok true w := by
      unfold isAgg
      rw [Sem.run_bind, run_underlying hu w]
      cases d <;> simp_all
    simp only [Array.length_toList, Array.toArray_toList] at hl
    simp [loadVar, Sem.run_bind, hagg, sizeOf, typeInfo, hq, hs, hl]

theorem exec_load_at {P : Program} {o : Oper} {a : Act} {w : World} (ty : TypeId) (x : Operand) (ho : o.op = .load ty x) (b off : Nat) (hx : a.eval x = .pointer (some ⟨b, off, none⟩))
    (cs : Array Value) (d : TypeDesc) (hc : ∀ j, j < cs.size → w.cell? ⟨b, off + j, none⟩ = cs[j]?)
    (hu : P.underlying ty = some d) (hd : (match d with | .struct _ | .array _ _ => true | _ => false) = true) (hi : (P.info? ty).map (·.size) = some cs.size) :
    (execOp a.eval o).run P w = .ok (.value (.agg cs)) w := by
  unfold execOp
  simp only [ho, hx, Instr.loadAt, Instr.sureAddr, Sem.run_bind, Sem.run_pure, Result.andThen_ok, run_loadVar_at w b off ty cs d hc hu hd hi]

theorem wpList_load_at {P : Program} {ops : Array Oper} {rest : List Oper} {o : Oper} {a : Act} {w : World} {Q : Exit → Act → World → Prop} (hgd : o.guard = none) (ty : TypeId) (x : Operand) (ho : o.op = .load ty x)
    (b off : Nat) (hx : a.eval x = .pointer (some ⟨b, off, none⟩)) (cs : Array Value) (d : TypeDesc) (hc : ∀ j, j < cs.size → w.cell? ⟨b, off + j, none⟩ = cs[j]?)
    (hu : P.underlying ty = some d) (hd : (match d with | .struct _ | .array _ _ => true | _ => false) = true) (hi : (P.info? ty).map (·.size) = some cs.size)
    (h : wpList P ops Q rest (a.put o.dst (.agg cs)) w) : wpList P ops Q (o :: rest) a w :=
  wpList_plain hgd fun _ hK => by
    unfold Oper.wp
    rw [exec_load_at ty x ho b off hx cs d hc hu hd hi]
    exact hK _ _ h

theorem wpStill_load_at {P : Program} {ops : Array Oper} {w : World} {Q : Act → Prop} {rest : List Oper} {o : Oper} {a : Act} (hgd : o.guard = none) (ty : TypeId) (x : Operand) (ho : o.op = .load ty x)
    (b off : Nat) (hx : a.eval x = .pointer (some ⟨b, off, none⟩)) (cs : Array Value) (d : TypeDesc) (hc : ∀ j, j < cs.size → w.cell? ⟨b, off + j, none⟩ = cs[j]?)
    (hu : P.underlying ty = some d) (hd : (match d with | .struct _ | .array _ _ => true | _ => false) = true) (hi : (P.info? ty).map (·.size) = some cs.size)
    (h : wpStill P ops w Q rest (a.put o.dst (.agg cs))) : wpStill P ops w Q (o :: rest) a :=
  wpStill_step fun K hK => by
    simp only [Region.wanted, hgd, if_true]
    unfold Oper.still
    rw [exec_load_at ty x ho b off hx cs d hc hu hd hi]
    exact ⟨rfl, hK _ h⟩

theorem wpQuiet_load_at {P : Program} {ops : Array Oper} {w : World} {Q : Act → Prop} {rest : List Oper} {o : Oper} {a : Act} (hgd : o.guard = none) (ty : TypeId) (x : Operand) (ho : o.op = .load ty x)
    (b off : Nat) (hx : a.eval x = .pointer (some ⟨b, off, none⟩)) (cs : Array Value) (d : TypeDesc) (hc : ∀ j, j < cs.size → w.cell? ⟨b, off + j, none⟩ = cs[j]?)
    (hu : P.underlying ty = some d) (hd : (match d with | .struct _ | .array _ _ => true | _ => false) = true) (hi : (P.info? ty).map (·.size) = some cs.size)
    (h : wpQuiet P ops (fun w' => ∃ n, w' = w.drewN n) Q rest (a.put o.dst (.agg cs))) : wpQuiet P ops (fun w' => ∃ n, w' = w.drewN n) Q (o :: rest) a :=
  wpQuiet_step fun K hK => by
    simp only [Region.wanted, hgd, if_true]
    refine ⟨.agg cs, ?_, hK _ h⟩
    rintro w' ⟨n, rfl⟩
    unfold Oper.quietAt
    rw [exec_load_at (w := w.drewN n) ty x ho b off hx cs d hc hu hd hi]
    exact ⟨rfl, rfl⟩

end Go.Proofs.YtofjifhnkcghpaaDoor
