/- The scheduler's state in memory. -/
import Derived.Test.YtkndcofmhfeaoaaD
import Derived.Test.YtkndcofmhfeaoaaEP
import Derived.Test.YtkndcofmhfeaoaaBase23
namespace Go.Proofs.Ytkndcofmhfeaoaa
open Go.RowKit Go.Maps
set_option linter.unusedVariables false
set_option linter.unusedSimpArgs false
/-- where things lie -/
structure Lay where
  tb : Int → Nat
  lb : Int → Nat
  qv : Int → Value
/-- where the blocks of numbers lie -/
def nums_ {α : Type} (l : List (Int × α)) (b : Int → Nat) : List (Int × Nat) := l.map (fun p => (p.1, b p.1))
def taskAt (w : World) (b : Nat) (t : TaskP) : Prop := ∃ o : Option Nat, o.isSome = t.lock.isSome ∧ Blk w b 66 (taskC ⟨t.picks, o, t.latch⟩)
structure lockAt (w : World) (b : Nat) (v : Value) (l : LockP) : Prop where
  blk : Blk w b 70 #[.int .i64 l.holder, v]
  row : ownsIn w 0 3 v l.queue.length (l.queue.map (Value.int .i64))
/-- the maps -/
structure MapsAt (F : Nat → Prop) (w : World) (s : SchedP) (L : Lay) (bt bl bo : Nat) : Prop where
  pt : PMap Try.prog 3 w bt (nums_ s.tasks L.tb)
  pl : PMap Try.prog 3 w bl (nums_ s.locks L.lb)
  po : OMap w bo s.opened
  ft : F bt
  fl : F bl
  fo : F bo
  ntl : bt ≠ bl
  nto : bt ≠ bo
  nlo : bl ≠ bo
/-- A SCHEDULER in block S has this state; its blocks are in F -/
structure SchedQ (F : Nat → Prop) (S : Nat) (w : World) (s : SchedP) (L : Lay) (vt vl vo : Value) : Prop where
  lt : ∀ k, F k → k < w.heap.size
  root : F S
  blk : Blk w S 57 #[.int .i64 (s.made : Int), vt, vl, vo]
  maps : (vt = .map none ∧ vl = .map none ∧ vo = .map none ∧ s = zeroP) ∨ ∃ bt bl bo, vt = .map (some bt) ∧ vl = .map (some bl) ∧ vo = .map (some bo) ∧ MapsAt F w s L bt bl bo
  task : ∀ p ∈ s.tasks, F (L.tb p.1) ∧ taskAt w (L.tb p.1) p.2
  lock : ∀ p ∈ s.locks, F (L.lb p.1) ∧ lockAt w (L.lb p.1) (L.qv p.1) p.2 ∧ ∀ g, (L.qv p.1).ownBlock = some g → F g
  tinj : ∀ p ∈ s.tasks, ∀ q ∈ s.tasks, p.1 ≠ q.1 → L.tb p.1 ≠ L.tb q.1
  linj : ∀ p ∈ s.locks, ∀ q ∈ s.locks, p.1 ≠ q.1 → L.lb p.1 ≠ L.lb q.1
  qinj : ∀ p ∈ s.locks, ∀ q ∈ s.locks, p.1 ≠ q.1 → ∀ g, (L.qv p.1).ownBlock = some g → (L.qv q.1).ownBlock ≠ some g
/-- the same, wherever things lie -/
def SQ (F : Nat → Prop) (S : Nat) (w : World) (s : SchedP) : Prop := WF s ∧ ∃ L vt vl vo, SchedQ F S w s L vt vl vo
/-- F, and all blocks that are new in w' -/
def Fn (F : Nat → Prop) (w w' : World) : Nat → Prop := fun k => F k ∨ (w.heap.size ≤ k ∧ k < w'.heap.size)

theorem blk_ne {w : World} {b b' : Nat} {T T' : TypeId} {cs cs' : Array Value} (h : Blk w b T cs) (h' : Blk w b' T' cs') (hT : T ≠ T') : b ≠ b' := fun e => by
  subst e
  unfold Blk at h h'
  rw [h] at h'
  injection h' with h'
  injection h' with _ h'
  exact hT h'
theorem blk_ne_row {w : World} {b g : Nat} {T : TypeId} {cs : Array Value} (h : Blk w b T cs) {base : Nat} {e : TypeId} {v : Value} {n : Nat} {xs : List Value} (h' : ownsIn w base e v n xs) (hT : T ≠ e) (hg : v.ownBlock = some g) : b ≠ g := fun e' => by
  subst e'
  obtain ⟨cur, hh⟩ := h'.own hg
  exact blk_ne h (show Blk w b e cur from hh) hT rfl
theorem blk_ne_map {w : World} {b m : Nat} {T : TypeId} {cs : Array Value} (h : Blk w b T cs) (h' : ∃ es clock, w.heap[m]? = some (.map es clock)) : b ≠ m := fun e => by
  subst e
  obtain ⟨es, c, h'⟩ := h'
  unfold Blk at h
  rw [h] at h'
  cases h'
theorem row_ne_map {w : World} {g m : Nat} (h' : ∃ es clock, w.heap[m]? = some (.map es clock)) {base : Nat} {e : TypeId} {v : Value} {n : Nat} {xs : List Value} (h : ownsIn w base e v n xs) (hg : v.ownBlock = some g) : g ≠ m := fun e' => by
  subst e'
  obtain ⟨cur, hh⟩ := h.own hg
  exact blk_ne_map (show Blk w g e cur from hh) h' rfl
theorem OMap.setCell {w : World} {bm : Nat} {l : List Int} (h : OMap w bm l) {a : Addr} (ha : bm ≠ a.block) (u : Value) : OMap (w.setCell a u) bm l := h.block (Below.heap_setCell _ _ _ _ ha)
theorem Blk.same {w w' : World} {b : Nat} {T : TypeId} {cs : Array Value} (h : Blk w b T cs) (hb : w'.heap[b]? = w.heap[b]?) : Blk w' b T cs := hb.trans h
section
variable {F G : Nat → Prop} {S : Nat} {w w' : World} {s : SchedP} {L : Lay} {vt vl vo : Value} {bt bl bo : Nat}
theorem taskAt.same {b : Nat} {t : TaskP} (h : taskAt w b t) (hb : w'.heap[b]? = w.heap[b]?) : taskAt w' b t := by
  obtain ⟨o, h1, h2⟩ := h
  exact ⟨o, h1, h2.same hb⟩
theorem lockAt.same {b : Nat} {v : Value} {l : LockP} (h : lockAt w b v l) (hb : w'.heap[b]? = w.heap[b]?) (hg : ∀ g, v.ownBlock = some g → w'.heap[g]? = w.heap[g]?) : lockAt w' b v l :=
  ⟨h.blk.same hb, h.row.block hg⟩
theorem MapsAt.same (h : MapsAt F w s L bt bl bo) (h1 : w'.heap[bt]? = w.heap[bt]?) (h2 : w'.heap[bl]? = w.heap[bl]?) (h3 : w'.heap[bo]? = w.heap[bo]?) : MapsAt F w' s L bt bl bo :=
  ⟨h.pt.block h1, h.pl.block h2, h.po.block h3, h.ft, h.fl, h.fo, h.ntl, h.nto, h.nlo⟩
/-- nothing of its blocks has turned -/
theorem SchedQ.frame (h : SchedQ F S w s L vt vl vo) (hs : w.heap.size ≤ w'.heap.size) (hb : ∀ k, F k → w'.heap[k]? = w.heap[k]?) : SchedQ F S w' s L vt vl vo where
  lt := fun k hk => Nat.lt_of_lt_of_le (h.lt k hk) hs
  root := h.root
  blk := h.blk.same (hb S h.root)
  maps := by
    rcases h.maps with m | ⟨bt, bl, bo, h1, h2, h3, m⟩
    · exact .inl m
    · exact .inr ⟨bt, bl, bo, h1, h2, h3, m.same (hb _ m.ft) (hb _ m.fl) (hb _ m.fo)⟩
  task := fun p hp => ⟨(h.task p hp).1, (h.task p hp).2.same (hb _ (h.task p hp).1)⟩
  lock := fun p hp => ⟨(h.lock p hp).1, (h.lock p hp).2.1.same (hb _ (h.lock p hp).1) (fun g hg => hb g ((h.lock p hp).2.2 g hg)), (h.lock p hp).2.2⟩
  tinj := h.tinj
  linj := h.linj
  qinj := h.qinj
theorem SQ.frame (h : SQ F S w s) (hs : w.heap.size ≤ w'.heap.size) (hb : ∀ k, F k → w'.heap[k]? = w.heap[k]?) : SQ F S w' s := by
  obtain ⟨wf, L, vt, vl, vo, h⟩ := h
  exact ⟨wf, L, vt, vl, vo, h.frame hs hb⟩
theorem SQ.lt (h : SQ F S w s) : ∀ k, F k → k < w.heap.size := by obtain ⟨-, L, vt, vl, vo, h⟩ := h; exact h.lt
theorem SQ.wf (h : SQ F S w s) : WF s := h.1
/-- what turns is none of its blocks -/
theorem SQ.turn (h : SQ F S w s) (ht : Turn G w w') (hG : ∀ k, F k → ¬ G k) : SQ F S w' s := h.frame ht.size (fun k hk => ht.block k (h.lt k hk) (hG k hk))
theorem SQ.below (h : SQ F S w s) (hb : Below w.heap.size w w') : SQ F S w' s := h.frame hb.size (fun k hk => hb.block k (h.lt k hk))
theorem SchedQ.below (h : SchedQ F S w s L vt vl vo) (hb : Below w.heap.size w w') : SchedQ F S w' s L vt vl vo := h.frame hb.size (fun k hk => hb.block k (h.lt k hk))
theorem SchedQ.mono (h : SchedQ F S w s L vt vl vo) (hF : ∀ k, F k → G k) (hG : ∀ k, G k → k < w.heap.size) : SchedQ G S w s L vt vl vo where
  lt := hG
  root := hF _ h.root
  blk := h.blk
  maps := by
    rcases h.maps with m | ⟨bt, bl, bo, h1, h2, h3, m⟩
    · exact .inl m
    · exact .inr ⟨bt, bl, bo, h1, h2, h3, m.pt, m.pl, m.po, hF _ m.ft, hF _ m.fl, hF _ m.fo, m.ntl, m.nto, m.nlo⟩
  task := fun p hp => ⟨hF _ (h.task p hp).1, (h.task p hp).2⟩
  lock := fun p hp => ⟨hF _ (h.lock p hp).1, (h.lock p hp).2.1, fun g hg => hF _ ((h.lock p hp).2.2 g hg)⟩
  tinj := h.tinj
  linj := h.linj
  qinj := h.qinj
theorem SchedQ.grow (h : SchedQ F S w s L vt vl vo) (w0 : World) (h0 : ∀ k, F k → k < w0.heap.size) : SchedQ (Fn F w0 w) S w s L vt vl vo := h.mono (fun k hk => .inl hk) (fun k hk => by rcases hk with hk | hk; exact h.lt k hk; exact hk.2)
theorem SQ.grow (h : SQ F S w s) (w0 : World) : SQ (Fn F w0 w) S w s := by
  obtain ⟨wf, L, vt, vl, vo, h⟩ := h
  exact ⟨wf, L, vt, vl, vo, h.mono (fun k hk => .inl hk) (fun k hk => by rcases hk with hk | hk; exact h.lt k hk; exact hk.2)⟩
theorem SQ.mono (h : SQ F S w s) (hF : ∀ k, F k → G k) (hG : ∀ k, G k → k < w.heap.size) : SQ G S w s := by
  obtain ⟨wf, L, vt, vl, vo, h⟩ := h
  exact ⟨wf, L, vt, vl, vo, h.mono hF hG⟩
end
theorem new10 (w : World) : Calls Try.prog 10 #[] w fun e w' => e = .returned (.pointer (some ⟨w.heap.size, 0, none⟩)) ∧ w' = w.alloc (Obj.cells #[.int .i64 0, .map none, .map none, .map none] 57) := by
  go_enter Try.func10, Try.ntmps10
  go_wp2_with fail
  go_ret
  exact ⟨rfl, rfl⟩
theorem SQ.new (w : World) : SQ (fun k => k = w.heap.size) w.heap.size (w.alloc (Obj.cells #[.int .i64 0, .map none, .map none, .map none] 57)) zeroP :=
  ⟨WF.zero, ⟨fun _ => 0, fun _ => 0, fun _ => .slice none 0 0⟩, _, _, _, (fun k hk => by simp; omega), rfl, Blk.new w 57 _, .inl ⟨rfl, rfl, rfl, rfl⟩, (fun p h => by cases h), (fun p h => by cases h), (fun p h => by cases h), (fun p h => by cases h), (fun p h => by cases h)⟩
end Go.Proofs.Ytkndcofmhfeaoaa
