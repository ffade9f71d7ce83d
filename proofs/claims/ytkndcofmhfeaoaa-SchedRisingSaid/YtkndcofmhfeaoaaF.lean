/- What one change of a block makes of the scheduler's state; looking up tasks and locks; ready. -/
import Derived.Test.YtkndcofmhfeaoaaE
namespace Go.Proofs.Ytkndcofmhfeaoaa
open Go.RowKit Go.Maps
set_option linter.unusedVariables false
set_option linter.unusedSimpArgs false
theorem nums_mod {α : Type} (l : List (Int × α)) (b : Int → Nat) (x : Int) (f : α → α) : nums_ (modP l x f) b = nums_ l b := by
  unfold nums_ modP
  rw [List.map_map]
  apply List.map_congr_left
  intro p _
  show ((if p.1 = x then (p.1, f p.2) else p).1, b (if p.1 = x then (p.1, f p.2) else p).1) = _
  split <;> rfl
theorem nums_del {α : Type} (l : List (Int × α)) (b : Int → Nat) (x : Int) : nums_ (delP l x) b = (nums_ l b).filter (fun p => decide (p.1 ≠ x)) := by
  unfold nums_ delP
  rw [List.filter_map]
  rfl
theorem nums_len {α : Type} (l : List (Int × α)) (b : Int → Nat) : (nums_ l b).length = l.length := by unfold nums_; rw [List.length_map]
def upd {β : Type} (f : Int → β) (x : Int) (b : β) : Int → β := fun k => if k = x then b else f k
theorem upd_same {β : Type} (f : Int → β) (x : Int) (b : β) : upd f x b x = b := by simp [upd]
theorem upd_ne {β : Type} (f : Int → β) {x k : Int} (b : β) (h : k ≠ x) : upd f x b k = f k := by simp [upd, h]
theorem nums_app {α : Type} (l : List (Int × α)) (b : Int → Nat) (x : Int) (a : α) (k : Nat) (h : getP l x = none) : nums_ (l ++ [(x, a)]) (upd b x k) = nums_ l b ++ [(x, k)] := by
  unfold nums_
  rw [List.map_append]
  congr 1
  · apply List.map_congr_left
    intro p hp
    rw [upd_ne _ _ (getP_none.1 h p hp)]
  · simp [upd]
theorem at_nums {α : Type} (l : List (Int × α)) (b : Int → Nat) (x : Int) : at_ (nums_ l b) x = (getP l x).map (fun _ => b x) := by
  unfold at_ nums_ getP
  induction l with
  | nil => rfl
  | cons p r ih =>
    rw [List.map_cons, List.find?_cons, List.find?_cons]
    by_cases h : p.1 = x
    · subst h; simp
    · have : (p.1 == x) = false := by simpa using h
      simp only [this]
      exact ih
section
variable {F : Nat → Prop} {S : Nat} {w w' : World} {s : SchedP} {L : Lay} {vt vl vo : Value}
theorem MapsAt.isMaps {bt bl bo : Nat} (m : MapsAt F w s L bt bl bo) : (∃ es c, w.heap[bt]? = some (.map es c)) ∧ (∃ es c, w.heap[bl]? = some (.map es c)) ∧ (∃ es c, w.heap[bo]? = some (.map es c)) := ⟨m.pt.isMap, m.pl.isMap, m.po.isMap⟩
/-- a task's block has turned -/
theorem SchedQ.setT (h : SchedQ F S w s L vt vl vo) {x : Int} (f : TaskP → TaskP) (ht : Turn (fun k => k = L.tb x) w w') {T : TaskP} (hx : (x, T) ∈ s.tasks) (hT : ∀ a, (x, a) ∈ s.tasks → taskAt w' (L.tb x) (f a)) : SchedQ F S w' { s with tasks := modP s.tasks x f } L vt vl vo := by
  obtain ⟨o, -, hb0⟩ := (h.task _ hx).2
  have hb0 : Blk w (L.tb x) 66 _ := hb0
  have hsame : ∀ k, F k → k ≠ L.tb x → w'.heap[k]? = w.heap[k]? := fun k hk hne => ht.block k (h.lt k hk) hne
  refine ⟨fun k hk => Nat.lt_of_lt_of_le (h.lt k hk) ht.size, h.root, h.blk.same (hsame _ h.root (blk_ne h.blk hb0 (by decide))), ?_, ?_, ?_, ?_, h.linj, h.qinj⟩
  · rcases h.maps with ⟨-, -, -, m⟩ | ⟨bt, bl, bo, h1, h2, h3, m⟩
    · subst m; cases hx
    · obtain ⟨i1, i2, i3⟩ := m.isMaps
      have m' := m.same (w' := w') (hsame _ m.ft (blk_ne_map hb0 i1).symm) (hsame _ m.fl (blk_ne_map hb0 i2).symm) (hsame _ m.fo (blk_ne_map hb0 i3).symm)
      refine .inr ⟨bt, bl, bo, h1, h2, h3, ?_, m'.pl, m'.po, m.ft, m.fl, m.fo, m.ntl, m.nto, m.nlo⟩
      show PMap Try.prog 3 w' bt (nums_ (modP s.tasks x f) L.tb)
      rw [nums_mod]; exact m'.pt
  · intro p hp
    rcases mem_modP hp with ⟨hne, hp⟩ | ⟨e, a, ha, e2⟩
    · exact ⟨(h.task p hp).1, (h.task p hp).2.same (hsame _ (h.task p hp).1 (h.tinj p hp _ hx hne))⟩
    · rw [e, e2]; exact ⟨(h.task _ hx).1, hT a ha⟩
  · intro p hp
    obtain ⟨h1, h2, h3⟩ := h.lock p hp
    refine ⟨h1, h2.same (hsame _ h1 (blk_ne h2.blk hb0 (by decide))) (fun g hg => hsame _ (h3 g hg) (blk_ne_row hb0 h2.row (by decide) hg).symm), h3⟩
  · intro p hp q hq hne
    rcases mem_modP hp with ⟨-, hp⟩ | ⟨e, a, ha, -⟩ <;> rcases mem_modP hq with ⟨-, hq⟩ | ⟨e', a', ha', -⟩
    · exact h.tinj p hp q hq hne
    · rw [e'] at hne ⊢; exact h.tinj p hp _ ha' hne
    · rw [e] at hne ⊢; exact h.tinj _ ha q hq hne
    · rw [e, e'] at hne; exact absurd rfl hne
/-- a lock's block and its queue have turned -/
theorem SchedQ.setL (h : SchedQ F S w s L vt vl vo) {n : Int} (f : LockP → LockP) (v' : Value) (ht : Turn (fun k => k = L.lb n ∨ (L.qv n).ownBlock = some k) w w') {K : LockP} (hn : (n, K) ∈ s.locks) (hK : ∀ a, (n, a) ∈ s.locks → lockAt w' (L.lb n) v' (f a)) (hv : ∀ g, v'.ownBlock = some g → (L.qv n).ownBlock = some g ∨ (w.heap.size ≤ g ∧ g < w'.heap.size)) :
    SchedQ (Fn F w w') S w' { s with locks := modP s.locks n f } { L with qv := upd L.qv n v' } vt vl vo := by
  obtain ⟨hF0, hb0, hq0⟩ := h.lock _ hn
  have hb1 : Blk w (L.lb n) 70 _ := hb0.blk
  have hr1 : ownsIn w 0 3 (L.qv n) _ _ := hb0.row
  have hsame : ∀ k, F k → k ≠ L.lb n → (L.qv n).ownBlock ≠ some k → w'.heap[k]? = w.heap[k]? := fun k hk h1 h2 => ht.block k (h.lt k hk) (fun e => e.elim h1 h2)
  have rne : ∀ {b : Nat} {T : TypeId} {cs : Array Value}, Blk w b T cs → T ≠ 3 → (L.qv n).ownBlock ≠ some b := fun hb hT e => blk_ne_row hb hr1 hT e rfl
  have up : ∀ k, F k → Fn F w w' k := fun k hk => .inl hk
  refine ⟨fun k hk => by rcases hk with hk | hk; exact Nat.lt_of_lt_of_le (h.lt k hk) ht.size; exact hk.2, .inl h.root, h.blk.same (hsame _ h.root (blk_ne h.blk hb1 (by decide)) (rne h.blk (by decide))), ?_, ?_, ?_, h.tinj, ?_, ?_⟩
  · rcases h.maps with ⟨-, -, -, m⟩ | ⟨bt, bl, bo, h1, h2, h3, m⟩
    · subst m; cases hn
    · obtain ⟨i1, i2, i3⟩ := m.isMaps
      have mne : ∀ {b : Nat}, (∃ es c, w.heap[b]? = some (.map es c)) → (L.qv n).ownBlock ≠ some b := fun i e => row_ne_map i hr1 e rfl
      have m' := m.same (w' := w') (hsame _ m.ft (blk_ne_map hb1 i1).symm (mne i1)) (hsame _ m.fl (blk_ne_map hb1 i2).symm (mne i2)) (hsame _ m.fo (blk_ne_map hb1 i3).symm (mne i3))
      refine .inr ⟨bt, bl, bo, h1, h2, h3, m'.pt, ?_, m'.po, up _ m.ft, up _ m.fl, up _ m.fo, m.ntl, m.nto, m.nlo⟩
      show PMap Try.prog 3 w' bl (nums_ (modP s.locks n f) L.lb)
      rw [nums_mod]; exact m'.pl
  · intro p hp
    obtain ⟨h1, o, h2, h3⟩ := h.task p hp
    exact ⟨up _ h1, (h.task p hp).2.same (hsame _ h1 (blk_ne h3 hb1 (by decide)) (rne h3 (by decide)))⟩
  · intro p hp
    rcases mem_modP hp with ⟨hne, hp⟩ | ⟨e, a, ha, e2⟩
    · obtain ⟨h1, h2, h3⟩ := h.lock p hp
      show Fn F w w' (L.lb p.1) ∧ lockAt w' (L.lb p.1) (upd L.qv n v' p.1) p.2 ∧ ∀ g, (upd L.qv n v' p.1).ownBlock = some g → Fn F w w' g
      rw [upd_ne _ _ hne]
      refine ⟨up _ h1, h2.same (hsame _ h1 (h.linj p hp _ hn hne) (rne h2.blk (by decide))) (fun g hg => hsame _ (h3 g hg) (blk_ne_row hb1 h2.row (by decide) hg).symm (fun e => h.qinj p hp _ hn hne g hg e)), fun g hg => up _ (h3 g hg)⟩
    · show Fn F w w' (L.lb p.1) ∧ lockAt w' (L.lb p.1) (upd L.qv n v' p.1) p.2 ∧ ∀ g, (upd L.qv n v' p.1).ownBlock = some g → Fn F w w' g
      rw [e, upd_same, e2]
      refine ⟨up _ hF0, hK a ha, fun g hg => ?_⟩
      rcases hv g hg with h1 | h1
      · exact up _ (hq0 g h1)
      · exact .inr h1
  · intro p hp q hq hne
    rcases mem_modP hp with ⟨-, hp⟩ | ⟨e, a, ha, -⟩ <;> rcases mem_modP hq with ⟨-, hq⟩ | ⟨e', a', ha', -⟩
    · exact h.linj p hp q hq hne
    · rw [e'] at hne ⊢; exact h.linj p hp _ ha' hne
    · rw [e] at hne ⊢; exact h.linj _ ha q hq hne
    · rw [e, e'] at hne; exact absurd rfl hne
  · have hold : ∀ p ∈ s.locks, p.1 ≠ n → ∀ g, (L.qv p.1).ownBlock = some g → v'.ownBlock ≠ some g := by
      intro p hp hne g hg hvg
      rcases hv g hvg with h1 | h1
      · exact h.qinj p hp _ hn hne g hg h1
      · have := h.lt g ((h.lock p hp).2.2 g hg); omega
    intro p hp q hq hne
    show ∀ g, (upd L.qv n v' p.1).ownBlock = some g → (upd L.qv n v' q.1).ownBlock ≠ some g
    rcases mem_modP hp with ⟨hpn, hp⟩ | ⟨e, a, ha, -⟩ <;> rcases mem_modP hq with ⟨hqn, hq⟩ | ⟨e', a', ha', -⟩
    · rw [upd_ne _ _ hpn, upd_ne _ _ hqn]; exact h.qinj p hp q hq hne
    · rw [e', upd_ne _ _ hpn, upd_same]; exact hold p hp hpn
    · rw [e, upd_ne _ _ hqn, upd_same]; exact fun g hg hg' => hold q hq hqn g hg' hg
    · rw [e, e'] at hne; exact absurd rfl hne
end
theorem look53 {w : World} {s : SchedP} {tb : Int → Nat} {vt : Value} (h : (vt = .map none ∧ s.tasks = []) ∨ ∃ bt, vt = .map (some bt) ∧ PMap Try.prog 3 w bt (nums_ s.tasks tb)) (hz : (zeroValue 58).run Try.prog w = .ok (.pointer none) w) {x : Int} (hx : (Lit.int .i64 x).wf = true) :
    (Instr.lookup 53 vt (.int .i64 x) false).run Try.prog w = .ok (pv ((getP s.tasks x).map (fun _ => tb x))) w := by
  rcases h with ⟨rfl, hs⟩ | ⟨bt, rfl, h⟩
  · rw [hs]
    rw [Maps.look_nil false (int_keyed Try.underlying3) Try.underlying53 hz (keyOf_int_mk Try.underlying3 hx)]
    rfl
  · rw [← at_nums]
    exact h.look Try.underlying3 Try.underlying53 hz hx
theorem look54 {w : World} {s : SchedP} {lb : Int → Nat} {vl : Value} (h : (vl = .map none ∧ s.locks = []) ∨ ∃ bl, vl = .map (some bl) ∧ PMap Try.prog 3 w bl (nums_ s.locks lb)) (hz : (zeroValue 64).run Try.prog w = .ok (.pointer none) w) {x : Int} (hx : (Lit.int .i64 x).wf = true) :
    (Instr.lookup 54 vl (.int .i64 x) false).run Try.prog w = .ok (pv ((getP s.locks x).map (fun _ => lb x))) w := by
  rcases h with ⟨rfl, hs⟩ | ⟨bt, rfl, h⟩
  · rw [hs]
    rw [Maps.look_nil false (int_keyed Try.underlying3) Try.underlying54 hz (keyOf_int_mk Try.underlying3 hx)]
    rfl
  · rw [← at_nums]
    exact h.look Try.underlying3 Try.underlying54 hz hx
theorem zero58 (w : World) : (zeroValue 58).run Try.prog w = .ok (.pointer none) w := by kernel_rfl
theorem zero64 (w : World) : (zeroValue 64).run Try.prog w = .ok (.pointer none) w := by kernel_rfl
theorem zero4 (w : World) : (zeroValue 4).run Try.prog w = .ok (.bool false) w := by kernel_rfl
theorem wfi {x : Int} (h0 : 0 ≤ x) (h1 : x ≤ 9223372036854775807) : (Lit.int .i64 x).wf = true := by
  have a : IntKind.i64.min ≤ x := Int.le_trans (show IntKind.i64.min ≤ 0 by decide) h0
  have b : x ≤ IntKind.i64.max := Int.le_trans h1 (by decide)
  simp [Lit.wf, a]
  exact h1
section
variable {F : Nat → Prop} {S : Nat} {w w' : World} {s : SchedP} {L : Lay} {vt vl vo : Value}
theorem SchedQ.lookT (h : SchedQ F S w s L vt vl vo) {x : Int} (hx : (Lit.int .i64 x).wf = true) : (Instr.lookup 53 vt (.int .i64 x) false).run Try.prog w = .ok (pv ((getP s.tasks x).map (fun _ => L.tb x))) w :=
  look53 (by
    rcases h.maps with ⟨h1, -, -, h4⟩ | ⟨bt, bl, bo, h1, -, -, m⟩
    · exact .inl ⟨h1, by rw [h4]; rfl⟩
    · exact .inr ⟨bt, h1, m.pt⟩) (zero58 w) hx
theorem SchedQ.lookL (h : SchedQ F S w s L vt vl vo) {x : Int} (hx : (Lit.int .i64 x).wf = true) : (Instr.lookup 54 vl (.int .i64 x) false).run Try.prog w = .ok (pv ((getP s.locks x).map (fun _ => L.lb x))) w :=
  look54 (by
    rcases h.maps with ⟨-, h1, -, h4⟩ | ⟨bt, bl, bo, -, h1, -, m⟩
    · exact .inl ⟨h1, by rw [h4]; rfl⟩
    · exact .inr ⟨bl, h1, m.pl⟩) (zero64 w) hx
theorem SchedQ.lookO (h : SchedQ F S w s L vt vl vo) {x : Int} (hx : (Lit.int .i64 x).wf = true) : (Instr.lookup 55 vo (.int .i64 x) false).run Try.prog w = .ok (.bool (decide (x ∈ s.opened))) w := by
  rcases h.maps with ⟨-, -, h1, h4⟩ | ⟨bt, bl, bo, -, -, h1, m⟩
  · rw [h1, h4, Maps.look_nil false (int_keyed Try.underlying3) Try.underlying55 (zero4 w) (keyOf_int_mk Try.underlying3 hx)]
    simp [zeroP]
  · rw [h1]; exact m.po.look (zero4 w) hx
end
set_option maxRecDepth 100000 in
theorem ready28 {F : Nat → Prop} {S : Nat} {w : World} {s : SchedP} {L : Lay} {vt vl vo : Value} (h : SchedQ F S w s L vt vl vo) {x thing : Int} (hx : (Lit.int .i64 x).wf = true) :
    Calls Try.prog 28 #[.pointer (some ⟨S, 0, none⟩), .int .i64 x, .int .i64 thing] w fun e w' => e = .returned (.tuple #[pv (if readyE s x thing = 0 then some (L.tb x) else none), .int .i64 (readyE s x thing)]) ∧ w = w' := by
  have hb := h.blk
  have c1 : w.cell? ⟨S, 1, none⟩ = some vt := Blk.cell hb 1
  have hlk := h.lookT hx
  unfold readyE
  by_cases hneg : thing < 0
  · rw [if_pos hneg]
    have hd : decide (thing < 0) = true := decide_eq_true hneg
    clear hlk hb h
    go_enter Try.func28, Try.ntmps28
    go_wp2_with fail
    go_ret2
    exact ⟨rfl, rfl⟩
  · rw [if_neg hneg]
    have hd : decide (thing < 0) = false := decide_eq_false hneg
    cases hg : getP s.tasks x with
    | none =>
      rw [hg] at hlk
      simp only [Option.map_none, pv] at hlk
      clear hb h hg
      go_enter Try.func28, Try.ntmps28
      go_wp2_with fail
      go_ret2
      exact ⟨rfl, rfl⟩
    | some t =>
      rw [hg] at hlk
      simp only [Option.map_some, pv] at hlk
      obtain ⟨o, ho, hbt⟩ := (h.task _ (getP_mem hg)).2
      have HW := Lib.hid (waits31 _ _ w hbt)
      have e : waitsB ⟨t.picks, o, t.latch⟩ = waitsP t := by unfold waitsB waitsP; rw [← ho]
      rw [e] at HW
      clear hb h hg hbt e ho
      cases hw : waitsP t
      · rw [hw] at HW
        go_enter Try.func28, Try.ntmps28
        go_wp2_with fail
        refine HW.out.mono ?_
        rintro e w1 ⟨rfl, rfl⟩
        go_wp2_with fail
        all_goals (go_ret2; exact ⟨rfl, rfl⟩)
      · rw [hw] at HW
        go_enter Try.func28, Try.ntmps28
        go_wp2_with fail
        refine HW.out.mono ?_
        rintro e w1 ⟨rfl, rfl⟩
        go_wp2_with fail
        all_goals (go_ret2; exact ⟨rfl, rfl⟩)
end Go.Proofs.Ytkndcofmhfeaoaa
