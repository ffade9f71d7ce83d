/- The dictionary: New, Find, Len, Text. -/
import Derived.Test.YtiihnepfcgmghaaRows
import Derived.Test.YtiihnepfcgmghaaBase20
import Derived.Test.YtiihnepfcgmghaaBase17
import Derived.Test.YtiihnepfcgmghaaBase18
import Derived.Deep.DeepCutAuto
import Derived.OwnWalk
import Derived.Tactics2
import Derived.Defers
import Derived.Laws.Pointers
import Derived.RegionTactic
import Derived.RegionCalls
namespace Go.Proofs.Ytiihnepfcgmghaa
open Go.RowKit Go.Maps
set_option linter.unusedVariables false
set_option linter.unusedSimpArgs false

/-- the texts' numbers, as a map's entries -/
def nums : Nat → List ByteArray → List (ByteArray × DataW Unit)
  | _, [] => []
  | n, s :: l => (s, .lit (.int .i64 (n : Int))) :: nums (n + 1) l
/-- a text's number -/
def idx (l : List ByteArray) (s : ByteArray) : Option Nat := l.findIdx? (fun t => decide (t = s))
theorem nums_length (n : Nat) (l : List ByteArray) : (nums n l).length = l.length := by
  induction l generalizing n with
  | nil => rfl
  | cons s l ih => simp [nums, ih]
theorem nums_look (n : Nat) (l : List ByteArray) (s : ByteArray) : look (nums n l) s = (idx l s).map fun i => .lit (.int .i64 ((n + i : Nat) : Int)) := by
  induction l generalizing n with
  | nil => rfl
  | cons t l ih =>
    unfold nums
    rw [look_cons]
    unfold idx
    rw [List.findIdx?_cons]
    by_cases h : t = s
    · simp [h]
    · rw [if_neg h, ih]
      simp only [h, decide_false, Bool.false_eq_true, if_false]
      unfold idx
      cases l.findIdx? (fun t => decide (t = s)) with
      | none => rfl
      | some i =>
        simp only [Option.map_some]
        congr 4
        omega
theorem nums_append (n : Nat) (l : List ByteArray) (s : ByteArray) : nums n (l ++ [s]) = nums n l ++ [(s, .lit (.int .i64 ((n + l.length : Nat) : Int)))] := by
  induction l generalizing n with
  | nil => rfl
  | cons t l ih =>
    simp only [List.cons_append, nums, ih, List.length_cons]
    rw [show n + 1 + l.length = n + (l.length + 1) by omega]
theorem idx_lt {l : List ByteArray} {s : ByteArray} {i : Nat} (h : idx l s = some i) : i < l.length := by
  unfold idx at h
  rw [List.findIdx?_eq_some_iff_getElem] at h
  exact h.1
theorem idx_get {l : List ByteArray} {s : ByteArray} {i : Nat} (h : idx l s = some i) : l[i]? = some s := by
  unfold idx at h
  rw [List.findIdx?_eq_some_iff_getElem] at h
  obtain ⟨hlt, h2, -⟩ := h
  rw [List.getElem?_eq_getElem hlt]
  simpa using h2
theorem intR_mk {n : Nat} (h : n < 4294967296) : (plainElem (H := Unit) Try.prog 3) (.int .i64 (n : Int)) = some (.lit (.int .i64 (n : Int)), []) :=
  plainElem_int Try.underlying3 (by have h1 : IntKind.i64.min = -9223372036854775808 := rfl
                                    have h2 : IntKind.i64.max = 9223372036854775807 := rfl
                                    simp only [Lit.wf, Bool.and_eq_true, decide_eq_true_eq]; omega)
set_option maxRecDepth 100000 in
theorem intR_inv {v : Value} {n : Int} {ps : List MemPlace} (h : (plainElem (H := Unit) Try.prog 3) v = some (.lit (.int .i64 n), ps)) : v = .int .i64 n := by
  obtain ⟨c, rfl, hc, -⟩ := plainElem_int_inv Try.underlying3 h
  injection hc with hc _
  injection hc with hc
  injection hc with _ hc
  rw [hc]
/-- A DICTIONARY in block D has these texts; its blocks are in F -/
structure DictAt (F : Nat → Prop) (D : Nat) (w : World) (l : List ByteArray) (vo : Value) : Prop where
  cells : ∃ vt vm, Blk w D 57 #[vt, vm, vo] ∧ w.ownsRow 0 9 1 vt l.length (l.map Value.string) ∧ (∀ g, vt.ownBlock = some g → F g) ∧
    ((vm = .map none ∧ l = []) ∨ ∃ bm, vm = .map (some bm) ∧ SMap Try.prog 9 (plainElem (H := Unit) Try.prog 3) w bm (nums 0 l) ∧ F bm)
  fd : F D
  size : l.length ≤ 4096
  small : ∀ s ∈ l, s.size ≤ 64
theorem zero3 (w : World) : (zeroValue 3).run Try.prog w = .ok (.int .i64 0) w := by kernel_rfl
theorem DictAt.lt {F : Nat → Prop} {D : Nat} {w : World} {l : List ByteArray} {vo : Value} (h : DictAt F D w l vo) : D < w.heap.size := by obtain ⟨⟨vt, vm, hb, -⟩, -⟩ := h; exact hb.lt
/-- kept where no block of its own has turned -/
theorem DictAt.keep {F G : Nat → Prop} {D : Nat} {w w' : World} {l : List ByteArray} {vo : Value} (h : DictAt F D w l vo) (ht : Turn G w w') (hFG : ∀ k, F k → ¬ G k) : DictAt F D w' l vo := by
  obtain ⟨⟨vt, vm, hb, ho, hf, hm⟩, hd, hz, hs⟩ := h
  refine ⟨⟨vt, vm, Blk.turn hb ht (hFG D hd), ?_, hf, ?_⟩, hd, hz, hs⟩
  · refine ⟨ho.1, ?_⟩
    rcases ho.2 with h1 | ⟨g, cap, cur, hv, hg, hh, q⟩
    · exact .inl h1
    · exact .inr ⟨g, cap, cur, hv, hg, (ht.block g (Array.getElem?_eq_some_iff.1 hh).1 (hFG g (hf g (by rw [hv]; rfl)))).trans hh, q⟩
  · rcases hm with h1 | ⟨bm, h1, h2, h3⟩
    · exact .inl h1
    · exact .inr ⟨bm, h1, h2.turn ht (hFG bm h3), h3⟩
theorem DictAt.mono {F G : Nat → Prop} {D : Nat} {w : World} {l : List ByteArray} {vo : Value} (h : DictAt F D w l vo) (hFG : ∀ k, F k → G k) : DictAt G D w l vo := by
  obtain ⟨⟨vt, vm, hb, ho, hf, hm⟩, hd, hz, hs⟩ := h
  exact ⟨⟨vt, vm, hb, ho, fun g hg => hFG g (hf g hg), hm.imp id (fun ⟨bm, h1, h2, h3⟩ => ⟨bm, h1, h2, hFG bm h3⟩)⟩, hFG D hd, hz, hs⟩
theorem new9 (w : World) : Calls Try.prog 9 #[] w fun e w' => e = .returned (.pointer (some ⟨w.heap.size, 0, none⟩)) ∧ w' = w.alloc (Obj.cells #[.slice none 0 0, .map none, .pointer none] 57) := by
  go_enter Try.func9, Try.ntmps9
  go_wp2_with fail
  go_ret
  exact ⟨rfl, rfl⟩
theorem DictAt.new (w : World) : DictAt (fun k => k = w.heap.size) w.heap.size (w.alloc (Obj.cells #[.slice none 0 0, .map none, .pointer none] 57)) [] (.pointer none) :=
  ⟨⟨_, _, Blk.new w 57 _, World.ownsRow_nil _ _ _ _, (fun g h => by cases h), .inl ⟨rfl, rfl⟩⟩, rfl, by decide, fun s h => by cases h⟩
theorem len11 (F : Nat → Prop) (D : Nat) (l : List ByteArray) (w : World) {vo : Value} (h : DictAt F D w l vo) : Calls Try.prog 11 #[.pointer (some ⟨D, 0, none⟩)] w fun e w' => e = .returned (.int .i64 (l.length : Nat)) ∧ w = w' := by
  obtain ⟨⟨vt, vm, hb, ho, hf, hm⟩, hd, hz, hs⟩ := h
  obtain ⟨a, c, rfl⟩ := owns_form ho
  have c0 : w.cell? ⟨D, 0, none⟩ = some (.slice a l.length c) := Blk.cell hb 0
  go_enter Try.func11, Try.ntmps11
  go_wp2_with fail
  go_ret
  exact ⟨rfl, rfl⟩
theorem len11_nil (w : World) : Calls Try.prog 11 #[.pointer none] w fun e w' => e = .returned (.int .i64 0) ∧ w = w' := by
  go_enter Try.func11, Try.ntmps11
  go_wp2_with fail
  go_ret
  exact ⟨rfl, rfl⟩
/-- what Find tells -/
def findV (l : List ByteArray) (s : ByteArray) : Value := .tuple #[.int .i64 ((idx l s).getD 0 : Nat), .bool (idx l s).isSome]
theorem find15_nil (s : ByteArray) (w : World) : Calls Try.prog 15 #[.pointer none, .string s] w fun e w' => e = .returned (.tuple #[.int .i64 0, .bool false]) ∧ w = w' := by
  go_enter Try.func15, Try.ntmps15
  go_wp2_with fail
  go_ret2
  exact ⟨rfl, rfl⟩
theorem find_look {vm : Value} {w : World} {l : List ByteArray} (hm : (vm = .map none ∧ l = []) ∨ ∃ bm, vm = .map (some bm) ∧ SMap Try.prog 9 (plainElem (H := Unit) Try.prog 3) w bm (nums 0 l) ∧ True) {s : ByteArray} (hs : s.size ≤ maxLen) :
    (Instr.lookup 54 vm (.string s) true).run Try.prog w = .ok (findV l s) w := by
  rcases hm with ⟨rfl, rfl⟩ | ⟨bm, rfl, h, -⟩
  · rw [Maps.look_nil true (string_keyed Try.underlying9) Try.underlying54 (zero3 w) (WideMaps.keyOf_string_mk Try.underlying9 hs)]
    rfl
  · obtain ⟨v, ps, hrun, hv⟩ := h.look_ok Try.underlying9 Try.underlying54 (zero3 w) (zd := .lit (.int .i64 0)) (zp := []) (intR_mk (n := 0) (by decide)) hs
    rw [hrun]
    have e : lookD (nums 0 l) s (.lit (.int .i64 0)) = .lit (.int .i64 ((idx l s).getD 0 : Nat)) := by
      unfold lookD
      rw [nums_look]
      cases idx l s with
      | none => rfl
      | some i => simp
    rw [e] at hv
    rw [intR_inv hv, nums_look]
    unfold findV
    cases idx l s <;> rfl
theorem find15 (F : Nat → Prop) (D : Nat) (l : List ByteArray) (s : ByteArray) (w : World) {vo : Value} (h : DictAt F D w l vo) (hs : s.size ≤ maxLen) :
    Calls Try.prog 15 #[.pointer (some ⟨D, 0, none⟩), .string s] w fun e w' => e = .returned (findV l s) ∧ w = w' := by
  obtain ⟨⟨vt, vm, hb, ho, hf, hm⟩, hd, hz, hsm⟩ := h
  have hlk := find_look (w := w) (hm.imp id (fun ⟨bm, h1, h2, h3⟩ => ⟨bm, h1, h2, trivial⟩)) hs
  have c1 : w.cell? ⟨D, 1, none⟩ = some vm := Blk.cell hb 1
  unfold findV at hlk ⊢
  clear hm ho hf hb
  go_enter Try.func15, Try.ntmps15
  go_wp2_with fail
  go_ret2
  exact ⟨rfl, rfl⟩
end Go.Proofs.Ytiihnepfcgmghaa
