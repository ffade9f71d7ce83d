/- Rows of a caller beside a scheduler. -/
import Derived.Test.YtkndcofmhfeaoaaS
import Derived.Test.YtkndcofmhfeaoaaY
namespace Go.Proofs.Ytkndcofmhfeaoaa
open Go.RowKit Go.Maps
set_option linter.unusedVariables false
set_option linter.unusedSimpArgs false
theorem grown_alloc {w w' : World} {o : Obj} {r : Option Nat} (h : (w.alloc o).grownBy w' r) : w.grownBy w' r :=
  ⟨h.os, h.tape, h.output, Nat.le_trans (by simp) h.size, fun k hk hn => (h.block k (by simp; omega) hn).trans (Below.heap_alloc _ _ _ hk)⟩
/-- a row of numbers of the caller's own, made behind B, none of it in G -/
structure RowZ (G : Nat → Prop) (B : Nat) (w : World) (v : Value) (l : List Int) : Prop where
  own : ownsIn w B 3 v l.length (l.map (Value.int .i64))
  out : ∀ g, v.ownBlock = some g → ¬ G g
section
variable {G : Nat → Prop} {B : Nat} {w w' : World} {v u : Value} {l m : List Int}
theorem RowZ.nil (G : Nat → Prop) (B : Nat) (w : World) : RowZ G B w (.slice none 0 0) [] := ⟨⟨rfl, .inl ⟨rfl, rfl⟩⟩, fun g h => by cases h⟩
theorem RowZ.turn (h : RowZ G B w v l) (ht : Turn G w w') : RowZ (Fn G w w') B w' v l :=
  ⟨h.own.block (fun g hg => ht.block g (h.own.lt hg) (h.out g hg)), fun g hg e => by
    rcases e with e | e
    · exact h.out g hg e
    · have := h.own.lt hg; omega⟩
theorem RowZ.below (h : RowZ G B w v l) (hb : Below w.heap.size w w') : RowZ G B w' v l :=
  ⟨h.own.block (fun g hg => hb.block g (h.own.lt hg)), h.out⟩
theorem RowZ.grown (h : RowZ G B w v l) {r : Option Nat} (hg : w.grownBy w' r) (hn : ∀ g, v.ownBlock = some g → some g ≠ r) : RowZ G B w' v l :=
  ⟨h.own.block (fun g hv => hg.block g (h.own.lt hv) (hn g hv)), h.out⟩
/-- the row that was appended to -/
theorem RowZ.app (h : RowZ G B w v l) (hG : ∀ k, G k → k < w.heap.size) {m : List Int} {n : Nat} (hn : n = (l ++ m).length) (h2 : ownsIn w' B 3 u n (l.map (Value.int .i64) ++ m.map (Value.int .i64))) (hv : ∀ g, u.ownBlock = some g → v.ownBlock = some g ∨ w.heap.size ≤ g) : RowZ G B w' u (l ++ m) := by
  subst hn
  refine ⟨by rw [List.map_append]; exact h2, fun g hg e => ?_⟩
  rcases hv g hg with h1 | h1
  · exact h.out g h1 e
  · have := hG g e; omega
end
/-- a scheduler made behind B, its blocks in G -/
structure Sch (B : Nat) (w0 : World) (G : Nat → Prop) (S : Nat) (w : World) (s : SchedP) : Prop where
  q : SQ G S w s
  out : ∀ k, G k → B ≤ k
  base : B = w0.heap.size
  below : Below B w0 w
section
variable {B : Nat} {w0 w w' : World} {G : Nat → Prop} {S : Nat} {s s' : SchedP}
theorem Sch.step (h : Sch B w0 G S w s) (hq : SQ (Fn G w w') S w' s') (ht : Turn G w w') : Sch B w0 (Fn G w w') S w' s' := by
  have hs : B ≤ w.heap.size := by rw [h.base]; exact h.below.size
  refine ⟨hq, fun k hk => ?_, h.base, ?_⟩
  · rcases hk with hk | hk
    · exact h.out k hk
    · omega
  · exact ⟨ht.os.trans h.below.os, ht.tape.trans h.below.tape, ht.output.trans h.below.output, Nat.le_trans h.below.size ht.size, fun k hk => (ht.block k (by omega) (fun e => by have := h.out k e; omega)).trans (h.below.block k hk)⟩
theorem Sch.next (h : Sch B w0 G S w s) (hb : Below w.heap.size w w') : Sch B w0 G S w' s :=
  ⟨h.q.below hb, h.out, h.base, h.below.trans (hb.mono (by rw [h.base]; exact h.below.size))⟩
theorem Sch.grown (h : Sch B w0 G S w s) {v : Value} {l : List Int} (hr : RowZ G B w v l) (hg : w.grownBy w' v.ownBlock) : Sch B w0 G S w' s := by
  have hs : B ≤ w.heap.size := by rw [h.base]; exact h.below.size
  refine ⟨h.q.frame hg.size (fun k hk => hg.block k (h.q.lt k hk) (fun e => hr.out k e.symm hk)), h.out, h.base, ?_⟩
  refine ⟨hg.os.trans h.below.os, hg.tape.trans h.below.tape, hg.output.trans h.below.output, Nat.le_trans h.below.size hg.size, fun k hk => (hg.block k (by omega) (fun e => ?_)).trans (h.below.block k hk)⟩
  rcases hr.own.2 with ⟨rfl, -⟩ | ⟨g, off, cap, cur, rfl, hg', _⟩
  · cases e
  · cases e

    have hk' : g < B := hk
    omega
theorem Sch.size (h : Sch B w0 G S w s) : B ≤ w.heap.size := by rw [h.base]; exact h.below.size
end
theorem wpList_append_Z {ops : Array Oper} {rest : List Oper} {o : Oper} {a : Act} {w : World} {Q : Exit → Act → World → Prop} (hgd : o.guard = none) (s x : Operand)
    (ho : o.op = .call { callee := .builtin .append, args := #[s, x], argTypes := #[22, 22] }) {G : Nat → Prop} {B : Nat} {v : Value} {l : List Int} (hs : a.eval s = v) (hr : RowZ G B w v l) (hG : ∀ k, G k → k < w.heap.size) (hB : B ≤ w.heap.size) (m : List Int)
    (ad : Addr) (n c : Nat) (hx : a.eval x = .slice (some ad) n c) (hn : m.length = n) (hnews : ∀ j u, (m.map (Value.int .i64))[j]? = some u → w.cell? (ad.add j) = some u) (hlen : l.length + m.length ≤ 4096)
    (h : ∀ v' w', RowZ G B w' v' (l ++ m) → w.grownBy w' v.ownBlock → (∀ g, v'.ownBlock = some g → v.ownBlock = some g ∨ w.heap.size ≤ g) → wpList Try.prog ops Q rest (a.put o.dst v') w') : wpList Try.prog ops Q (o :: rest) a w := by
  obtain ⟨i0, hi, hz0, hz1, hz2⟩ := info_parts info3
  refine wpList_append_in hgd s x 22 ho B 3 i0 (.int .i64 0) 8 Try.underlying22 hi hz0 hz1 hz2 rfl v _ _ hs hr.own ad n c (m.map (Value.int .i64)) hx (by simpa using hn) hnews (fun u hu => by rw [List.mem_map] at hu; obtain ⟨y, -, rfl⟩ := hu; rfl) (by unfold maxLen; omega) (by omega) hB ?_
  intro v' w' h1 h2 h3
  exact h v' w' (hr.app hG (by rw [List.length_append, hn]) h1 h3) h2 h3
end Go.Proofs.Ytkndcofmhfeaoaa
