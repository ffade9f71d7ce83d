/- Holder; a lock is given back. -/
import Derived.Test.YtkndcofmhfeaoaaH
namespace Go.Proofs.Ytkndcofmhfeaoaa
open Go.RowKit Go.Maps
set_option linter.unusedVariables false
set_option linter.unusedSimpArgs false
theorem hl_none {P : Program} {ops : Array Oper} {Q : Exit → Act → World → Prop} {S : World → Prop} {last fuel : Nat} {listed : Array Bool} {a : Act} {w : World} (hil : True) (i : Nat) {o : Oper} (hi : ops[i]? = some o) (hd : o.dst = none) (hr : Region.ready .any ops listed = [i]) (hw : Region.wanted o (yielded ops a.tmps) = true)
    (w' : World) (hx : (execOp a.eval o).run P w = .ok .skip w') (hS : S w')
    (h : wpL P ops Q S last fuel (listed.setIfInBounds i true) a w') : wpL P ops Q S last (fuel + 1) listed a w := by
  refine wpL_all hr (by simp) fun j hj => ?_
  obtain rfl : j = i := by simpa using hj
  unfold wpOp
  simp only [hi, hw, if_true]
  refine .inl ?_
  unfold Oper.wp
  rw [hx, Oper.upon_skip, hd]
  exact ⟨fun _ => hS, h⟩
theorem wpList_delete_any {w : World} {ops : Array Oper} {rest : List Oper} {o : Oper} {a : Act} {Q : Exit → Act → World → Prop} (R : World → Prop) (hg : o.guard = none) (m x : Operand) (t : TypeId)
    (hop : o.op = Op.call { callee := Callee.builtin Builtin.delete, args := #[m, x], argTypes := #[t, 3] }) {mv xv : Value} (h : ∀ ty, ∃ w', (Builtin.delete_ #[t, 3] ty #[mv, xv]).run Try.prog w = .ok (.tuple #[]) w' ∧ R w')
    (hm : a.eval m = mv) (hx : a.eval x = xv)
    (hK : ∀ w', R w' → wpList Try.prog ops Q rest (a.put o.dst (.tuple #[])) w') : wpList Try.prog ops Q (o :: rest) a w := by
  refine wpList_plain hg fun K' hK' => ?_
  obtain ⟨w', hrun, r1⟩ := h o.type
  unfold Oper.wp
  simp [execOp, hop, resolve, invoke, builtin, hm, hx, hrun, Result.andThen]
  exact hK' _ _ (hK w' r1)
theorem Turn.mapT {F : Nat → Prop} {w w' : World} {b : Nat} (hF : F b) (ht : w.mapTurned w' b) : Turn F w w' := (Turn.refl F w).map hF ht
/-- a lock goes -/
theorem SchedQ.dropL {F : Nat → Prop} {S : Nat} {w : World} {s : SchedP} {L : Lay} {vt vl vo : Value} (h : SchedQ F S w s L vt vl vo) (wf : WF s) {n : Int} (hn : (Lit.int .i64 n).wf = true) {K : LockP} (hK : (n, K) ∈ s.locks) (ty : TypeId) :
    ∃ w', (Builtin.delete_ #[54, 3] ty #[vl, .int .i64 n]).run Try.prog w = .ok (.tuple #[]) w' ∧ SchedQ F S w' { s with locks := delP s.locks n } L vt vl vo ∧ Turn F w w' := by
  rcases h.maps with ⟨-, -, -, h0⟩ | ⟨bt, bl, bo, rfl, rfl, rfl, m⟩
  · subst h0; cases hK
  obtain ⟨w', hr, hP, hT⟩ := m.pl.drop Try.underlying3 Try.underlying54 hn ty
  have hsz := hT.grown.size
  have hsame : ∀ k, k < w.heap.size → k ≠ bl → w'.heap[k]? = w.heap[k]? := fun k hk hne => hT.grown.block k hk (fun e => hne (by cases e; rfl))
  obtain ⟨i1, i2, i3⟩ := m.isMaps
  refine ⟨w', hr, ⟨fun k hk => Nat.lt_of_lt_of_le (h.lt k hk) hsz, h.root, h.blk.same (hsame _ h.blk.lt (blk_ne_map h.blk i2)), ?_, ?_, ?_, h.tinj, ?_, ?_⟩, Turn.mapT m.fl hT⟩
  · refine .inr ⟨bt, bl, bo, rfl, rfl, rfl, m.pt.block (hsame _ (h.lt _ m.ft) m.ntl), ?_, m.po.block (hsame _ (h.lt _ m.fo) m.nlo.symm), m.ft, m.fl, m.fo, m.ntl, m.nto, m.nlo⟩
    show PMap Try.prog 3 w' bl (nums_ (delP s.locks n) L.lb)
    rw [nums_del]; exact hP
  · intro p hp
    obtain ⟨h2, o', ho', h3⟩ := h.task p hp
    exact ⟨h2, o', ho', h3.same (hsame _ h3.lt (blk_ne_map h3 i2))⟩
  · intro p hp
    obtain ⟨h2, h3, h4⟩ := h.lock p (mem_delP hp).1
    exact ⟨h2, h3.same (hsame _ h3.blk.lt (blk_ne_map h3.blk i2)) (fun g hg => hsame _ (h3.row.lt hg) (row_ne_map i2 h3.row hg)), h4⟩
  · exact fun p hp q hq => h.linj p (mem_delP hp).1 q (mem_delP hq).1
  · exact fun p hp q hq => h.qinj p (mem_delP hp).1 q (mem_delP hq).1
/-- a task goes -/
theorem SchedQ.dropT {F : Nat → Prop} {S : Nat} {w : World} {s : SchedP} {L : Lay} {vt vl vo : Value} (h : SchedQ F S w s L vt vl vo) (wf : WF s) {n : Int} (hn : (Lit.int .i64 n).wf = true) {K : TaskP} (hK : (n, K) ∈ s.tasks) (ty : TypeId) :
    ∃ w', (Builtin.delete_ #[53, 3] ty #[vt, .int .i64 n]).run Try.prog w = .ok (.tuple #[]) w' ∧ SchedQ F S w' (delT s n) L vt vl vo ∧ Turn F w w' := by
  rcases h.maps with ⟨-, -, -, h0⟩ | ⟨bt, bl, bo, rfl, rfl, rfl, m⟩
  · subst h0; cases hK
  obtain ⟨w', hr, hP, hT⟩ := m.pt.drop Try.underlying3 Try.underlying53 hn ty
  have hsz := hT.grown.size
  have hsame : ∀ k, k < w.heap.size → k ≠ bt → w'.heap[k]? = w.heap[k]? := fun k hk hne => hT.grown.block k hk (fun e => hne (by cases e; rfl))
  obtain ⟨i1, i2, i3⟩ := m.isMaps
  refine ⟨w', hr, ⟨fun k hk => Nat.lt_of_lt_of_le (h.lt k hk) hsz, h.root, h.blk.same (hsame _ h.blk.lt (blk_ne_map h.blk i1)), ?_, ?_, ?_, ?_, h.linj, h.qinj⟩, Turn.mapT m.ft hT⟩
  · refine .inr ⟨bt, bl, bo, rfl, rfl, rfl, ?_, m.pl.block (hsame _ (h.lt _ m.fl) m.ntl.symm), m.po.block (hsame _ (h.lt _ m.fo) m.nto.symm), m.ft, m.fl, m.fo, m.ntl, m.nto, m.nlo⟩
    show PMap Try.prog 3 w' bt (nums_ (delP s.tasks n) L.tb)
    rw [nums_del]; exact hP
  · intro p hp
    obtain ⟨h2, o', ho', h3⟩ := h.task p (mem_delP hp).1
    exact ⟨h2, o', ho', h3.same (hsame _ h3.lt (blk_ne_map h3 i1))⟩
  · intro p hp
    obtain ⟨h2, h3, h4⟩ := h.lock p hp
    exact ⟨h2, h3.same (hsame _ h3.blk.lt (blk_ne_map h3.blk i1)) (fun g hg => hsame _ (h3.row.lt hg) (row_ne_map i1 h3.row hg)), h4⟩
  · exact fun p hp q hq => h.tinj p (mem_delP hp).1 q (mem_delP hq).1
theorem holder13 {F : Nat → Prop} {S : Nat} {w : World} {s : SchedP} (h : SQ F S w s) {n : Int} (hn : (Lit.int .i64 n).wf = true) :
    Calls Try.prog 13 #[.pointer (some ⟨S, 0, none⟩), .int .i64 n] w fun e w' => e = .returned (.int .i64 (holderP s n)) ∧ w = w' := by
  obtain ⟨wf, L, vt, vl, vo, h⟩ := h
  have c2 : w.cell? ⟨S, 2, none⟩ = some vl := Blk.cell h.blk 2
  have hlk := h.lookL hn
  unfold holderP
  cases hg : getP s.locks n with
  | none =>
    rw [hg] at hlk
    simp only [Option.map_none, pv] at hlk
    clear h wf hg
    go_enter Try.func13, Try.ntmps13
    go_wp2_with fail
    go_ret
    exact ⟨rfl, rfl⟩
  | some K =>
    rw [hg] at hlk
    simp only [Option.map_some, pv] at hlk
    have c3 : w.cell? ⟨L.lb n, 0, none⟩ = some (.int .i64 K.holder) := Blk.cell (h.lock _ (getP_mem hg)).2.1.blk 0
    clear h wf hg
    go_enter Try.func13, Try.ntmps13
    go_wp2_with fail
    go_ret
    exact ⟨rfl, rfl⟩
theorem slice_tail (g off k cap : Nat) (hc : k + 1 ≤ cap) (hm : cap ≤ 9223372036854775807) (w : World) : (Instr.sliceAt 22 (.slice (some ⟨g, off, none⟩) (k + 1) cap) (some (.int .i64 1)) none none).run Try.prog w = .ok (.slice (some ⟨g, if cap = 1 then off else off + 1, none⟩) k (cap - 1)) w := by
  by_cases h : cap = 1
  · have hk : k = 0 := by omega
    subst hk h
    go_simp
  · rw [if_neg h]
    go_simp
    intro hh
    omega
set_option maxRecDepth 100000 in
theorem free32 {F : Nat → Prop} {S : Nat} {w : World} {s : SchedP} (h : SQ F S w s) {n : Int} (hn : (Lit.int .i64 n).wf = true) (hm : s.made < 4611686018427387904) {K : LockP} (hK : getP s.locks n = some K) :
    Calls Try.prog 32 #[.pointer (some ⟨S, 0, none⟩), .int .i64 n] w fun e w' => e = .returned (.tuple #[]) ∧ SQ (Fn F w w') S w' (freeP s n) ∧ Turn F w w' := by
  obtain ⟨wf, L, vt, vl, vo, h⟩ := h
  have c1 : w.cell? ⟨S, 1, none⟩ = some vt := Blk.cell h.blk 1
  have c2 : w.cell? ⟨S, 2, none⟩ = some vl := Blk.cell h.blk 2
  have hlk := h.lookL hn
  rw [hK] at hlk
  simp only [Option.map_some, pv] at hlk
  have hl := h.lock _ (getP_mem hK)
  have hlA := hl.2.1
  obtain ⟨b, hb⟩ : ∃ b, b = L.lb n := ⟨_, rfl⟩
  have hblk : Blk w b 70 #[.int .i64 K.holder, L.qv n] := by rw [hb]; exact hlA.blk
  have hrow : ownsIn w 0 3 (L.qv n) K.queue.length (K.queue.map (Value.int .i64)) := hlA.row
  have d0 : w.cell? ⟨b, 0, none⟩ = some (.int .i64 K.holder) := Blk.cell hblk 0
  have d1 : w.cell? ⟨b, 1, none⟩ = some (L.qv n) := Blk.cell hblk 1
  have wf1 := wf.free n
  rw [← hb] at hlk
  have HH := Lib.hid (And.intro wf (And.intro h (And.intro wf1 hb)))
  have e : freeP s n = (match K.queue with
    | [] => { s with locks := delP s.locks n }
    | h :: r => { s with locks := modP s.locks n (fun _ => ⟨h, r⟩), tasks := modP s.tasks h (fun T => ⟨T.picks, none, T.latch⟩) }) := by unfold freeP; rw [hK]; rfl
  rw [e] at wf1
  rw [e]
  clear e HH
  cases hq : K.queue with
  | nil =>
    rw [hq] at wf1 hrow
    obtain ⟨a, cap, hv⟩ := hrow.any
    rw [hv] at d1
    have hdel := h.dropL wf hn (getP_mem hK)
    have HD := Lib.hid hdel
    have HW := Lib.hid wf1
    have HL := Lib.hid h.lt
    clear h wf hl hlA hb hblk hrow wf1 hv hdel hK hq d0 hm
    simp only [List.length_nil] at d1
    go_enter Try.func32, Try.ntmps32
    go_wp2_with (at_delete; go_loud (refine wpList_delete_any _ rfl _ _ 54 rfl HD.out rfl rfl ?_); intro w1 hh; have HX := Lib.hid hh; clear hh)
    first | go_end0 | refine bodyPost_ret (results_none rfl _ _ _) rfl ?_
    obtain ⟨h1, hT⟩ := HX.out
    exact ⟨rfl, ⟨HW.out, _, _, _, _, h1.grow w HL.out⟩, hT⟩
  | cons hd r =>
    rw [hq] at wf1 hrow
    obtain ⟨g, off, cap, hv, -, hcap, hmax⟩ := hrow.form (by simp)
    have hv : L.qv n = .slice (some ⟨g, off, none⟩) (r.length + 1) cap := hv
    obtain ⟨T, hT, hTl⟩ := wf.que _ (getP_mem hK) hd (by show hd ∈ K.queue; rw [hq]; simp)
    have hrg := wf.rng _ (getP_mem hT)
    have hwd : (Lit.int .i64 hd).wf = true := wfi (by have := hrg.1; simp at this; omega) (by have := hrg.2; simp at this; omega)
    rw [hv] at d1
    obtain ⟨t, ht⟩ : ∃ t, t = L.tb hd := ⟨_, rfl⟩
    have htk := h.task _ (getP_mem hT)
    obtain ⟨hFt, o, ho, hbt⟩ := htk
    have hbt : Blk w t 66 (taskC ⟨T.picks, o, T.latch⟩) := by rw [ht]; exact hbt
    rw [hv] at hrow
    have hg0 : w.cell? ⟨g, off, none⟩ = some (.int .i64 hd) := hrow.cell (j := 0) (by simp)
    have hgb : b ≠ g := blk_ne_row hblk hrow (by decide) rfl
    have hSb : S ≠ b := blk_ne h.blk hblk (by decide)
    have htb : t ≠ b := blk_ne hbt hblk (by decide)
    have hSt : S ≠ t := blk_ne h.blk hbt (by decide)
    have HSL := Lib.hid (fun w' => slice_tail g off r.length cap (by simpa using hcap) hmax w')
    obtain ⟨q', hq'⟩ : ∃ q', q' = Value.slice (some ⟨g, if cap = 1 then off else off + 1, none⟩) r.length (cap - 1) := ⟨_, rfl⟩
    obtain ⟨w2, hw2⟩ : ∃ w2, w2 = (w.drew.setCell ⟨b, 0, none⟩ (.int .i64 hd)).setCell ⟨b, 1, none⟩ q' := ⟨_, rfl⟩
    have hbd : Blk w.drew b 70 #[.int .i64 K.holder, .slice (some ⟨g, off, none⟩) (r.length + 1) cap] := by rw [← hv]; exact hblk
    have hb1 : Blk (w.drew.setCell ⟨b, 0, none⟩ (.int .i64 hd)) b 70 #[.int .i64 hd, .slice (some ⟨g, off, none⟩) (r.length + 1) cap] := Blk.set hbd 0 _
    have hb2 : Blk w2 b 70 #[.int .i64 hd, q'] := by rw [hw2]; exact Blk.set hb1 1 _
    have hT2 : Turn (fun k => k = L.lb n ∨ (L.qv n).ownBlock = some k) w w2 := by rw [hw2]; exact (((Turn.refl _ w).drew).setCell (p := ⟨b, 0, none⟩) (.inl hb) _).setCell (p := ⟨b, 1, none⟩) (.inl hb) _
    have hTS : Turn (fun k => k = b) w w2 := by rw [hw2]; exact (((Turn.refl (fun k => k = b) w).drew).setCell (p := ⟨b, 0, none⟩) rfl _).setCell (p := ⟨b, 1, none⟩) rfl _
    have hrow2 : ownsIn w2 0 3 q' r.length (r.map (Value.int .i64)) := by
      rw [hq']
      refine (ownsIn.tail hrow).block (fun g' hg' => ?_)
      cases hg'
      exact hTS.block g (hrow.lt rfl) (fun e => hgb e.symm)
    have huniq : ∀ a, (n, a) ∈ s.locks → a = K := fun a ha => by
      have h1 := getP_of_mem wf.lks ha
      simp only at h1
      rw [hK] at h1; exact (Option.some.inj h1).symm
    have h2 := h.setL (w' := w2) (fun _ => ⟨hd, r⟩) q' hT2 (getP_mem hK) (fun a ha => ⟨by rw [← hb]; exact hb2, hrow2⟩) (fun g' hg' => .inl (by rw [hv]; rw [hq'] at hg'; exact hg'))
    have h2d : SchedQ (Fn F w w2) S w2.drew _ _ vt vl vo := h2.frame (w' := w2.drew) (Nat.le_refl _) (fun _ _ => rfl)
    have hlkT := h2d.lookT hwd
    have hlkT : (Instr.lookup 53 vt (.int .i64 hd) false).run Try.prog w2.drew = .ok (.pointer (some ⟨t, 0, none⟩)) w2.drew := by
      rw [hlkT]
      show _ = Result.ok (pv (some t)) _
      have : getP s.tasks hd = some T := hT
      rw [show getP ({ s with locks := modP s.locks n (fun _ => ⟨hd, r⟩) } : SchedP).tasks hd = some T from this, ht]
      rfl
    have hbt2 : Blk w2.drew t 66 (taskC ⟨T.picks, o, T.latch⟩) := Blk.drew (Blk.turn (F := fun k => k = b) hbt hTS htb)
    have hbt3 := Blk.set hbt2 1 (.pointer none)
    have htu : ∀ a, (hd, a) ∈ s.tasks → a = T := fun a ha => by
      have h1 := getP_of_mem (inc_ne wf.inc) ha
      simp only at h1
      rw [hT] at h1; exact (Option.some.inj h1).symm
    have h3 := h2d.setT (x := hd) (w' := w2.drew.setCell ⟨t, 1, none⟩ (.pointer none)) (fun T => ⟨T.picks, none, T.latch⟩) ((Turn.refl _ w2.drew).setCell (p := ⟨t, 1, none⟩) ht _) (getP_mem hT) (fun a ha => ⟨none, rfl, by
      rw [htu a ha]
      show Blk _ (L.tb hd) 66 (taskC ⟨T.picks, none, T.latch⟩)
      rw [← ht]; exact hbt3⟩)
    have hTF : Turn F w (w2.drew.setCell ⟨t, 1, none⟩ (.pointer none)) := ((hTS.mono (fun k hk e => by rw [e, hb]; exact hl.1)).drew).setCell (p := ⟨t, 1, none⟩) (by show F t; rw [ht]; exact hFt) _
    have hsz : (w2.drew.setCell ⟨t, 1, none⟩ (.pointer none)).heap.size = w2.heap.size := by simp [World.setCell]
    have HFIN := Lib.hid (And.intro wf1 (And.intro h3 (And.intro hTF hsz)))
    have HS0 : w.drew.cell? ⟨b, 1, none⟩ = some (.slice (some ⟨g, off, none⟩) (r.length + 1) cap) ∧ w.drew.cell? ⟨g, off, none⟩ = some (.int .i64 hd) := ⟨d1, hg0⟩
    have HFW0 := Lib.hid (Blk.free hblk 0)
    have HF0 := Lib.hid (Blk.free hbd 0)
    have HC0 := Lib.hid (show w.drew.cell? ⟨b, 0, none⟩ = some (.int .i64 K.holder) from d0)
    have HF1 := Lib.hid (Blk.free hb1 1)
    have HFW := Lib.hid (Blk.free hblk 1)
    have HCW := Lib.hid d1
    have HC1 := Lib.hid (show (w.drew.setCell ⟨b, 0, none⟩ (.int .i64 hd)).cell? ⟨b, 1, none⟩ = some (.slice (some ⟨g, off, none⟩) (r.length + 1) cap) from Blk.cell hb1 1)
    have hdd : (w.drew.setCell ⟨b, 0, none⟩ (.int .i64 hd)).cell? ⟨g, off, none⟩ = some (.int .i64 hd) := (World.cell?_of_block (Below.heap_setCell _ _ _ _ (by exact fun e => hgb e.symm))).trans hg0
    have HG1 := Lib.hid hdd
    have HE := Lib.hid (hw2.trans (by rw [hq']))
    have HS2 : w2.drew.cell? ⟨S, 1, none⟩ = some vt ∧ w2.drew.cell? ⟨b, 0, none⟩ = some (.int .i64 hd) ∧ (Instr.lookup 53 vt (.int .i64 hd) false).run Try.prog w2.drew = .ok (.pointer (some ⟨t, 0, none⟩)) w2.drew := ⟨(World.cell?_of_block (hTS.block S h.blk.lt (fun e => hSb e))).trans c1, Blk.cell hb2 0, hlkT⟩
    have HS2 := Lib.hid HS2
    have hS3 := h3.lookT hwd
    have hS3 : (Instr.lookup 53 vt (.int .i64 hd) false).run Try.prog (w2.drew.setCell ⟨t, 1, none⟩ (.pointer none)) = .ok (.pointer (some ⟨t, 0, none⟩)) (w2.drew.setCell ⟨t, 1, none⟩ (.pointer none)) := by
      rw [hS3]
      have e5 : getP (modP s.tasks hd (fun T => (⟨T.picks, none, T.latch⟩ : TaskP))) hd = some ⟨T.picks, none, T.latch⟩ := by rw [getP_modP, if_pos rfl, hT]; rfl
      show Result.ok (pv ((getP (modP s.tasks hd (fun T => (⟨T.picks, none, T.latch⟩ : TaskP))) hd).map (fun _ => L.tb hd))) _ = _
      rw [e5, ht]
      rfl
    have HS3 := Lib.hid (show (w2.drew.setCell ⟨t, 1, none⟩ (.pointer none)).cell? ⟨S, 1, none⟩ = some vt ∧ (w2.drew.setCell ⟨t, 1, none⟩ (.pointer none)).cell? ⟨b, 0, none⟩ = some (.int .i64 hd) ∧ (Instr.lookup 53 vt (.int .i64 hd) false).run Try.prog (w2.drew.setCell ⟨t, 1, none⟩ (.pointer none)) = .ok (.pointer (some ⟨t, 0, none⟩)) (w2.drew.setCell ⟨t, 1, none⟩ (.pointer none)) from ⟨(World.cell?_of_block (Below.heap_setCell _ _ _ _ (by exact hSt))).trans HS2.out.1, (World.cell?_of_block (Below.heap_setCell _ _ _ _ (by exact fun e => htb e.symm))).trans HS2.out.2.1, hS3⟩)
    clear hS3
    have HCT := Lib.hid (show w2.drew.cell? ⟨t, 1, none⟩ = some (pv o) from Blk.cell hbt2 1)
    have HFT := Lib.hid (Blk.free hbt2 1)
    clear wf1 hsz hrow2 hb2 hbd hb1 hT2 hTS h2 h2d hlkT hbt2 hbt3 h3 hTF hw2 hrow hblk hl hlA hdd hbt hv hq' huniq htu h wf hb ht d0 d1 hK hT hTl hrg

    have d1 := HS0.1
    have d1 : w.cell? ⟨b, 1, none⟩ = some (.slice (some ⟨g, off, none⟩) (r.length + 1) cap) := d1
    have hne : decide (((r.length + 1 : Nat) : Int) = 0) = false := decide_eq_false (by omega)
    have HH0 := Lib.hid HS0
    clear HS0
    go_enter Try.func32, Try.ntmps32
    go_wp2_with fail
    have HS0 : True := trivial
    refine hp_start (fun _ => True) 19 rfl (by kernel_rfl) (fun c a a' w hd h => ⟨hd ▸ h.1, h.2⟩) (fun hP => ?_)
    rw [show Array.replicate 19 false = #[false, false, false, false, false, false, false, false, false, false, false, false, false, false, false, false, false, false, false] from rfl]
    have hLB : True := trivial
    refine hp_take hP 0 (some 22) _ rfl rfl (by kernel_rfl) rfl (fun w' hS' => by go_simp; rfl) trivial ?_
    simp only [Act.put, List.setIfInBounds_toArray, List.set_cons_zero, List.set_cons_succ]
    refine hp_take hP 1 (some 23) _ rfl rfl (by kernel_rfl) rfl (fun w' hS' => by go_simp; rfl) trivial ?_
    simp only [Act.put, List.setIfInBounds_toArray, List.set_cons_zero, List.set_cons_succ]
    refine hp_take hP 2 (some 24) _ rfl rfl (by kernel_rfl) rfl (fun w' hS' => by go_simp; rfl) trivial ?_
    simp only [Act.put, List.setIfInBounds_toArray, List.set_cons_zero, List.set_cons_succ]
    refine hp_take hP 3 (some 25) _ rfl rfl (by kernel_rfl) rfl (fun w' hS' => by go_simp; rfl) trivial ?_
    simp only [Act.put, List.setIfInBounds_toArray, List.set_cons_zero, List.set_cons_succ]
    refine hp_take hP 4 (some 26) _ rfl rfl (by kernel_rfl) rfl (fun w' hS' => by go_simp; rfl) trivial ?_
    simp only [Act.put, List.setIfInBounds_toArray, List.set_cons_zero, List.set_cons_succ]
    refine hp_take hP 8 (some 30) _ rfl rfl (by kernel_rfl) rfl (fun w' hS' => by go_simp; rfl) trivial ?_
    simp only [Act.put, List.setIfInBounds_toArray, List.set_cons_zero, List.set_cons_succ]
    refine hp_take hP 9 (some 31) _ rfl rfl (by kernel_rfl) rfl (fun w' hS' => by go_simp; rfl) trivial ?_
    simp only [Act.put, List.setIfInBounds_toArray, List.set_cons_zero, List.set_cons_succ]
    refine hp_take hP 10 (some 32) _ rfl rfl (by kernel_rfl) rfl (fun w' hS' => by go_simp; rfl) trivial ?_
    simp only [Act.put, List.setIfInBounds_toArray, List.set_cons_zero, List.set_cons_succ]
    refine hp_two 5 11 (by kernel_rfl) ?_ ?_
    · refine wpOp_val 5 (some 27) rfl rfl rfl (.slice (some ⟨g, off, none⟩) (r.length + 1) cap) w.drew (by have cc := HH0.out.1; go_simp; try rfl) ⟨trivial, ?_⟩
      simp only [Act.put, List.setIfInBounds_toArray, List.set_cons_zero, List.set_cons_succ]
      refine hp_take hP 6 (some 28) _ rfl rfl (by kernel_rfl) rfl (fun w' hS' => by go_simp; rfl) trivial ?_
      simp only [Act.put, List.setIfInBounds_toArray, List.set_cons_zero, List.set_cons_succ]
      refine hp_two 7 11 (by kernel_rfl) ?_ ?_
      · refine wpOp_val 7 (some 29) rfl rfl rfl (.int .i64 hd) w.drew (by have cc := HH0.out.2; go_simp; try rfl) ⟨trivial, ?_⟩
        simp only [Act.put, List.setIfInBounds_toArray, List.set_cons_zero, List.set_cons_succ]
        refine hp_val 11 (some 33) rfl rfl (by kernel_rfl) rfl (.slice (some ⟨g, off, none⟩) (r.length + 1) cap) w.drew (by have cc := HH0.out.1; go_simp; try rfl) trivial ?_
        simp only [Act.put, List.setIfInBounds_toArray, List.set_cons_zero, List.set_cons_succ]
        refine hp_take hP 12 (some 34) (.slice (some ⟨g, if cap = 1 then off else off + 1, none⟩) r.length (cap - 1)) rfl rfl (by kernel_rfl) rfl (fun w' hS' => by have hh := HSL.out w'; go_simp; try (rw [hh]; try rfl)) trivial ?_
        simp only [Act.put, List.setIfInBounds_toArray, List.set_cons_zero, List.set_cons_succ]
        refine hp_take hP 13 (some 35) _ rfl rfl (by kernel_rfl) rfl (fun w' hS' => by go_simp; rfl) trivial ?_
        simp only [Act.put, List.setIfInBounds_toArray, List.set_cons_zero, List.set_cons_succ]
        refine hp_take hP 14 (some 36) _ rfl rfl (by kernel_rfl) rfl (fun w' hS' => by go_simp; rfl) trivial ?_
        simp only [Act.put, List.setIfInBounds_toArray, List.set_cons_zero, List.set_cons_succ]
        refine hp_none 15 rfl rfl (by kernel_rfl) rfl (w.drew.setCell ⟨b, 0, none⟩ (.int .i64 hd)) (by have ff := HFW0.out; have cc := HC0.out; go_simp; try rfl) trivial ?_
        simp only [Act.put, List.setIfInBounds_toArray, List.set_cons_zero, List.set_cons_succ]
        refine hp_take hP 16 (some 37) _ rfl rfl (by kernel_rfl) rfl (fun w' hS' => by go_simp; rfl) trivial ?_
        simp only [Act.put, List.setIfInBounds_toArray, List.set_cons_zero, List.set_cons_succ]
        refine hp_take hP 17 (some 38) _ rfl rfl (by kernel_rfl) rfl (fun w' hS' => by go_simp; rfl) trivial ?_
        simp only [Act.put, List.setIfInBounds_toArray, List.set_cons_zero, List.set_cons_succ]
        refine hp_none 18 rfl rfl (by kernel_rfl) rfl ((w.drew.setCell ⟨b, 0, none⟩ (.int .i64 hd)).setCell ⟨b, 1, none⟩ (.slice (some ⟨g, if cap = 1 then off else off + 1, none⟩) r.length (cap - 1))) (by have ff := HF1.out; have cc := HC1.out; have fw := HFW.out; have cw := HCW.out; go_simp; try rfl) trivial ?_
        simp only [Act.put, List.setIfInBounds_toArray, List.set_cons_zero, List.set_cons_succ]
        refine hk_done (by kernel_rfl) ?_
        rw [← HE.out]
        clear HS0
        have cS : w2.cell? ⟨S, 1, none⟩ = some vt := HS2.out.1
        go_wp2_with fail
        all_goals (
          have HS0 := HS2.out
          refine hp_start (fun w' => w'.cell? ⟨S, 1, none⟩ = some vt ∧ w'.cell? ⟨b, 0, none⟩ = some (.int .i64 hd) ∧ (Instr.lookup 53 vt (.int .i64 hd) false).run Try.prog w' = .ok (.pointer (some ⟨t, 0, none⟩)) w') 12 rfl (by kernel_rfl) (fun c a a' w hd h => ⟨hd ▸ h.1, h.2⟩) (fun hP => ?_)
          rw [show Array.replicate 12 false = #[false, false, false, false, false, false, false, false, false, false, false, false] from rfl]
          refine hp_take hP 0 (some 39) _ rfl rfl (by kernel_rfl) rfl (fun w' hS' => by go_simp; rfl) HS0 ?_
          simp only [Act.put, List.setIfInBounds_toArray, List.set_cons_zero, List.set_cons_succ]
          refine hp_take hP 1 (some 40) _ rfl rfl (by kernel_rfl) rfl (fun w' hS' => by go_simp; rfl) HS0 ?_
          simp only [Act.put, List.setIfInBounds_toArray, List.set_cons_zero, List.set_cons_succ]
          refine hp_take hP 2 (some 41) _ rfl rfl (by kernel_rfl) rfl (fun w' hS' => by go_simp; rfl) HS0 ?_
          simp only [Act.put, List.setIfInBounds_toArray, List.set_cons_zero, List.set_cons_succ]
          refine hp_take hP 3 (some 42) _ rfl rfl (by kernel_rfl) rfl (fun w' hS' => by obtain ⟨cc, cd, ce⟩ := hS'; go_simp; rfl) HS0 ?_
          simp only [Act.put, List.setIfInBounds_toArray, List.set_cons_zero, List.set_cons_succ]
          refine hp_take hP 4 (some 43) _ rfl rfl (by kernel_rfl) rfl (fun w' hS' => by go_simp; rfl) HS0 ?_
          simp only [Act.put, List.setIfInBounds_toArray, List.set_cons_zero, List.set_cons_succ]
          refine hp_take hP 5 (some 44) _ rfl rfl (by kernel_rfl) rfl (fun w' hS' => by go_simp; rfl) HS0 ?_
          simp only [Act.put, List.setIfInBounds_toArray, List.set_cons_zero, List.set_cons_succ]
          refine hp_take hP 6 (some 45) _ rfl rfl (by kernel_rfl) rfl (fun w' hS' => by go_simp; rfl) HS0 ?_
          simp only [Act.put, List.setIfInBounds_toArray, List.set_cons_zero, List.set_cons_succ]
          refine hp_take hP 7 (some 46) _ rfl rfl (by kernel_rfl) rfl (fun w' hS' => by obtain ⟨cc, cd, ce⟩ := hS'; go_simp; rfl) HS0 ?_
          simp only [Act.put, List.setIfInBounds_toArray, List.set_cons_zero, List.set_cons_succ]
          refine hp_take hP 8 (some 47) (.pointer (some ⟨t, 0, none⟩)) rfl rfl (by kernel_rfl) rfl (fun w' hS' => by obtain ⟨cc, cd, ce⟩ := hS'; go_simp; try (rw [ce]; try rfl)) HS0 ?_
          simp only [Act.put, List.setIfInBounds_toArray, List.set_cons_zero, List.set_cons_succ]
          refine hp_take hP 9 (some 48) _ rfl rfl (by kernel_rfl) rfl (fun w' hS' => by go_simp; rfl) HS0 ?_
          simp only [Act.put, List.setIfInBounds_toArray, List.set_cons_zero, List.set_cons_succ]
          refine hp_take hP 10 (some 49) _ rfl rfl (by kernel_rfl) rfl (fun w' hS' => by go_simp; rfl) HS0 ?_
          simp only [Act.put, List.setIfInBounds_toArray, List.set_cons_zero, List.set_cons_succ]
          refine hp_none 11 rfl rfl (by kernel_rfl) rfl (w2.drew.setCell ⟨t, 1, none⟩ (.pointer none)) (by have ff := HFT.out; have cc := HCT.out; have ff2 : w2.frozen? ⟨t, 1, none⟩ = false := ff; have cc2 : w2.cell? ⟨t, 1, none⟩ = some (pv o) := cc; go_simp; try rfl) HS3.out ?_
          simp only [Act.put, List.setIfInBounds_toArray, List.set_cons_zero, List.set_cons_succ]
          refine hk_done (by kernel_rfl) ?_
          first | go_end0 | refine bodyPost_ret (results_none rfl _ _ _) rfl ?_
          obtain ⟨wf1, h3, hTF, hsz⟩ := HFIN.out
          refine ⟨rfl, ⟨wf1, _, _, _, _, h3.mono (fun k hk => ?_) (fun k hk => ?_)⟩, hTF⟩
          · rcases hk with hk | hk
            · exact .inl hk
            · exact .inr ⟨hk.1, by rw [hsz]; exact hk.2⟩
          · rcases hk with hk | hk
            · exact h3.lt k (.inl hk)
            · exact hk.2)
      · refine wpOp_val 11 (some 33) rfl rfl rfl (.slice (some ⟨g, off, none⟩) (r.length + 1) cap) w.drew (by have cc := HH0.out.1; go_simp; try rfl) ⟨trivial, ?_⟩
        simp only [Act.put, List.setIfInBounds_toArray, List.set_cons_zero, List.set_cons_succ]
        refine hp_take hP 12 (some 34) (.slice (some ⟨g, if cap = 1 then off else off + 1, none⟩) r.length (cap - 1)) rfl rfl (by kernel_rfl) rfl (fun w' hS' => by have hh := HSL.out w'; go_simp; try (rw [hh]; try rfl)) trivial ?_
        simp only [Act.put, List.setIfInBounds_toArray, List.set_cons_zero, List.set_cons_succ]
        refine hp_val 7 (some 29) rfl rfl (by kernel_rfl) rfl (.int .i64 hd) w.drew (by have cc := HH0.out.2; go_simp; try rfl) trivial ?_
        simp only [Act.put, List.setIfInBounds_toArray, List.set_cons_zero, List.set_cons_succ]
        refine hp_take hP 13 (some 35) _ rfl rfl (by kernel_rfl) rfl (fun w' hS' => by go_simp; rfl) trivial ?_
        simp only [Act.put, List.setIfInBounds_toArray, List.set_cons_zero, List.set_cons_succ]
        refine hp_take hP 14 (some 36) _ rfl rfl (by kernel_rfl) rfl (fun w' hS' => by go_simp; rfl) trivial ?_
        simp only [Act.put, List.setIfInBounds_toArray, List.set_cons_zero, List.set_cons_succ]
        refine hp_none 15 rfl rfl (by kernel_rfl) rfl (w.drew.setCell ⟨b, 0, none⟩ (.int .i64 hd)) (by have ff := HFW0.out; have cc := HC0.out; go_simp; try rfl) trivial ?_
        simp only [Act.put, List.setIfInBounds_toArray, List.set_cons_zero, List.set_cons_succ]
        refine hp_take hP 16 (some 37) _ rfl rfl (by kernel_rfl) rfl (fun w' hS' => by go_simp; rfl) trivial ?_
        simp only [Act.put, List.setIfInBounds_toArray, List.set_cons_zero, List.set_cons_succ]
        refine hp_take hP 17 (some 38) _ rfl rfl (by kernel_rfl) rfl (fun w' hS' => by go_simp; rfl) trivial ?_
        simp only [Act.put, List.setIfInBounds_toArray, List.set_cons_zero, List.set_cons_succ]
        refine hp_none 18 rfl rfl (by kernel_rfl) rfl ((w.drew.setCell ⟨b, 0, none⟩ (.int .i64 hd)).setCell ⟨b, 1, none⟩ (.slice (some ⟨g, if cap = 1 then off else off + 1, none⟩) r.length (cap - 1))) (by have ff := HF1.out; have cc := HC1.out; have fw := HFW.out; have cw := HCW.out; go_simp; try rfl) trivial ?_
        simp only [Act.put, List.setIfInBounds_toArray, List.set_cons_zero, List.set_cons_succ]
        refine hk_done (by kernel_rfl) ?_
        rw [← HE.out]
        clear HS0
        have cS : w2.cell? ⟨S, 1, none⟩ = some vt := HS2.out.1
        go_wp2_with fail
        all_goals (
          have HS0 := HS2.out
          refine hp_start (fun w' => w'.cell? ⟨S, 1, none⟩ = some vt ∧ w'.cell? ⟨b, 0, none⟩ = some (.int .i64 hd) ∧ (Instr.lookup 53 vt (.int .i64 hd) false).run Try.prog w' = .ok (.pointer (some ⟨t, 0, none⟩)) w') 12 rfl (by kernel_rfl) (fun c a a' w hd h => ⟨hd ▸ h.1, h.2⟩) (fun hP => ?_)
          rw [show Array.replicate 12 false = #[false, false, false, false, false, false, false, false, false, false, false, false] from rfl]
          refine hp_take hP 0 (some 39) _ rfl rfl (by kernel_rfl) rfl (fun w' hS' => by go_simp; rfl) HS0 ?_
          simp only [Act.put, List.setIfInBounds_toArray, List.set_cons_zero, List.set_cons_succ]
          refine hp_take hP 1 (some 40) _ rfl rfl (by kernel_rfl) rfl (fun w' hS' => by go_simp; rfl) HS0 ?_
          simp only [Act.put, List.setIfInBounds_toArray, List.set_cons_zero, List.set_cons_succ]
          refine hp_take hP 2 (some 41) _ rfl rfl (by kernel_rfl) rfl (fun w' hS' => by go_simp; rfl) HS0 ?_
          simp only [Act.put, List.setIfInBounds_toArray, List.set_cons_zero, List.set_cons_succ]
          refine hp_take hP 3 (some 42) _ rfl rfl (by kernel_rfl) rfl (fun w' hS' => by obtain ⟨cc, cd, ce⟩ := hS'; go_simp; rfl) HS0 ?_
          simp only [Act.put, List.setIfInBounds_toArray, List.set_cons_zero, List.set_cons_succ]
          refine hp_take hP 4 (some 43) _ rfl rfl (by kernel_rfl) rfl (fun w' hS' => by go_simp; rfl) HS0 ?_
          simp only [Act.put, List.setIfInBounds_toArray, List.set_cons_zero, List.set_cons_succ]
          refine hp_take hP 5 (some 44) _ rfl rfl (by kernel_rfl) rfl (fun w' hS' => by go_simp; rfl) HS0 ?_
          simp only [Act.put, List.setIfInBounds_toArray, List.set_cons_zero, List.set_cons_succ]
          refine hp_take hP 6 (some 45) _ rfl rfl (by kernel_rfl) rfl (fun w' hS' => by go_simp; rfl) HS0 ?_
          simp only [Act.put, List.setIfInBounds_toArray, List.set_cons_zero, List.set_cons_succ]
          refine hp_take hP 7 (some 46) _ rfl rfl (by kernel_rfl) rfl (fun w' hS' => by obtain ⟨cc, cd, ce⟩ := hS'; go_simp; rfl) HS0 ?_
          simp only [Act.put, List.setIfInBounds_toArray, List.set_cons_zero, List.set_cons_succ]
          refine hp_take hP 8 (some 47) (.pointer (some ⟨t, 0, none⟩)) rfl rfl (by kernel_rfl) rfl (fun w' hS' => by obtain ⟨cc, cd, ce⟩ := hS'; go_simp; try (rw [ce]; try rfl)) HS0 ?_
          simp only [Act.put, List.setIfInBounds_toArray, List.set_cons_zero, List.set_cons_succ]
          refine hp_take hP 9 (some 48) _ rfl rfl (by kernel_rfl) rfl (fun w' hS' => by go_simp; rfl) HS0 ?_
          simp only [Act.put, List.setIfInBounds_toArray, List.set_cons_zero, List.set_cons_succ]
          refine hp_take hP 10 (some 49) _ rfl rfl (by kernel_rfl) rfl (fun w' hS' => by go_simp; rfl) HS0 ?_
          simp only [Act.put, List.setIfInBounds_toArray, List.set_cons_zero, List.set_cons_succ]
          refine hp_none 11 rfl rfl (by kernel_rfl) rfl (w2.drew.setCell ⟨t, 1, none⟩ (.pointer none)) (by have ff := HFT.out; have cc := HCT.out; have ff2 : w2.frozen? ⟨t, 1, none⟩ = false := ff; have cc2 : w2.cell? ⟨t, 1, none⟩ = some (pv o) := cc; go_simp; try rfl) HS3.out ?_
          simp only [Act.put, List.setIfInBounds_toArray, List.set_cons_zero, List.set_cons_succ]
          refine hk_done (by kernel_rfl) ?_
          first | go_end0 | refine bodyPost_ret (results_none rfl _ _ _) rfl ?_
          obtain ⟨wf1, h3, hTF, hsz⟩ := HFIN.out
          refine ⟨rfl, ⟨wf1, _, _, _, _, h3.mono (fun k hk => ?_) (fun k hk => ?_)⟩, hTF⟩
          · rcases hk with hk | hk
            · exact .inl hk
            · exact .inr ⟨hk.1, by rw [hsz]; exact hk.2⟩
          · rcases hk with hk | hk
            · exact h3.lt k (.inl hk)
            · exact hk.2)
    · refine wpOp_val 11 (some 33) rfl rfl rfl (.slice (some ⟨g, off, none⟩) (r.length + 1) cap) w.drew (by have cc := HH0.out.1; go_simp; try rfl) ⟨trivial, ?_⟩
      simp only [Act.put, List.setIfInBounds_toArray, List.set_cons_zero, List.set_cons_succ]
      refine hp_take hP 12 (some 34) (.slice (some ⟨g, if cap = 1 then off else off + 1, none⟩) r.length (cap - 1)) rfl rfl (by kernel_rfl) rfl (fun w' hS' => by have hh := HSL.out w'; go_simp; try (rw [hh]; try rfl)) trivial ?_
      simp only [Act.put, List.setIfInBounds_toArray, List.set_cons_zero, List.set_cons_succ]
      refine hp_val 5 (some 27) rfl rfl (by kernel_rfl) rfl (.slice (some ⟨g, off, none⟩) (r.length + 1) cap) w.drew (by have cc := HH0.out.1; go_simp; try rfl) trivial ?_
      simp only [Act.put, List.setIfInBounds_toArray, List.set_cons_zero, List.set_cons_succ]
      refine hp_take hP 6 (some 28) _ rfl rfl (by kernel_rfl) rfl (fun w' hS' => by go_simp; rfl) trivial ?_
      simp only [Act.put, List.setIfInBounds_toArray, List.set_cons_zero, List.set_cons_succ]
      refine hp_val 7 (some 29) rfl rfl (by kernel_rfl) rfl (.int .i64 hd) w.drew (by have cc := HH0.out.2; go_simp; try rfl) trivial ?_
      simp only [Act.put, List.setIfInBounds_toArray, List.set_cons_zero, List.set_cons_succ]
      refine hp_take hP 13 (some 35) _ rfl rfl (by kernel_rfl) rfl (fun w' hS' => by go_simp; rfl) trivial ?_
      simp only [Act.put, List.setIfInBounds_toArray, List.set_cons_zero, List.set_cons_succ]
      refine hp_take hP 14 (some 36) _ rfl rfl (by kernel_rfl) rfl (fun w' hS' => by go_simp; rfl) trivial ?_
      simp only [Act.put, List.setIfInBounds_toArray, List.set_cons_zero, List.set_cons_succ]
      refine hp_none 15 rfl rfl (by kernel_rfl) rfl (w.drew.setCell ⟨b, 0, none⟩ (.int .i64 hd)) (by have ff := HFW0.out; have cc := HC0.out; go_simp; try rfl) trivial ?_
      simp only [Act.put, List.setIfInBounds_toArray, List.set_cons_zero, List.set_cons_succ]
      refine hp_take hP 16 (some 37) _ rfl rfl (by kernel_rfl) rfl (fun w' hS' => by go_simp; rfl) trivial ?_
      simp only [Act.put, List.setIfInBounds_toArray, List.set_cons_zero, List.set_cons_succ]
      refine hp_take hP 17 (some 38) _ rfl rfl (by kernel_rfl) rfl (fun w' hS' => by go_simp; rfl) trivial ?_
      simp only [Act.put, List.setIfInBounds_toArray, List.set_cons_zero, List.set_cons_succ]
      refine hp_none 18 rfl rfl (by kernel_rfl) rfl ((w.drew.setCell ⟨b, 0, none⟩ (.int .i64 hd)).setCell ⟨b, 1, none⟩ (.slice (some ⟨g, if cap = 1 then off else off + 1, none⟩) r.length (cap - 1))) (by have ff := HF1.out; have cc := HC1.out; have fw := HFW.out; have cw := HCW.out; go_simp; try rfl) trivial ?_
      simp only [Act.put, List.setIfInBounds_toArray, List.set_cons_zero, List.set_cons_succ]
      refine hk_done (by kernel_rfl) ?_
      rw [← HE.out]
      clear HS0
      have cS : w2.cell? ⟨S, 1, none⟩ = some vt := HS2.out.1
      go_wp2_with fail
      all_goals (
        have HS0 := HS2.out
        refine hp_start (fun w' => w'.cell? ⟨S, 1, none⟩ = some vt ∧ w'.cell? ⟨b, 0, none⟩ = some (.int .i64 hd) ∧ (Instr.lookup 53 vt (.int .i64 hd) false).run Try.prog w' = .ok (.pointer (some ⟨t, 0, none⟩)) w') 12 rfl (by kernel_rfl) (fun c a a' w hd h => ⟨hd ▸ h.1, h.2⟩) (fun hP => ?_)
        rw [show Array.replicate 12 false = #[false, false, false, false, false, false, false, false, false, false, false, false] from rfl]
        refine hp_take hP 0 (some 39) _ rfl rfl (by kernel_rfl) rfl (fun w' hS' => by go_simp; rfl) HS0 ?_
        simp only [Act.put, List.setIfInBounds_toArray, List.set_cons_zero, List.set_cons_succ]
        refine hp_take hP 1 (some 40) _ rfl rfl (by kernel_rfl) rfl (fun w' hS' => by go_simp; rfl) HS0 ?_
        simp only [Act.put, List.setIfInBounds_toArray, List.set_cons_zero, List.set_cons_succ]
        refine hp_take hP 2 (some 41) _ rfl rfl (by kernel_rfl) rfl (fun w' hS' => by go_simp; rfl) HS0 ?_
        simp only [Act.put, List.setIfInBounds_toArray, List.set_cons_zero, List.set_cons_succ]
        refine hp_take hP 3 (some 42) _ rfl rfl (by kernel_rfl) rfl (fun w' hS' => by obtain ⟨cc, cd, ce⟩ := hS'; go_simp; rfl) HS0 ?_
        simp only [Act.put, List.setIfInBounds_toArray, List.set_cons_zero, List.set_cons_succ]
        refine hp_take hP 4 (some 43) _ rfl rfl (by kernel_rfl) rfl (fun w' hS' => by go_simp; rfl) HS0 ?_
        simp only [Act.put, List.setIfInBounds_toArray, List.set_cons_zero, List.set_cons_succ]
        refine hp_take hP 5 (some 44) _ rfl rfl (by kernel_rfl) rfl (fun w' hS' => by go_simp; rfl) HS0 ?_
        simp only [Act.put, List.setIfInBounds_toArray, List.set_cons_zero, List.set_cons_succ]
        refine hp_take hP 6 (some 45) _ rfl rfl (by kernel_rfl) rfl (fun w' hS' => by go_simp; rfl) HS0 ?_
        simp only [Act.put, List.setIfInBounds_toArray, List.set_cons_zero, List.set_cons_succ]
        refine hp_take hP 7 (some 46) _ rfl rfl (by kernel_rfl) rfl (fun w' hS' => by obtain ⟨cc, cd, ce⟩ := hS'; go_simp; rfl) HS0 ?_
        simp only [Act.put, List.setIfInBounds_toArray, List.set_cons_zero, List.set_cons_succ]
        refine hp_take hP 8 (some 47) (.pointer (some ⟨t, 0, none⟩)) rfl rfl (by kernel_rfl) rfl (fun w' hS' => by obtain ⟨cc, cd, ce⟩ := hS'; go_simp; try (rw [ce]; try rfl)) HS0 ?_
        simp only [Act.put, List.setIfInBounds_toArray, List.set_cons_zero, List.set_cons_succ]
        refine hp_take hP 9 (some 48) _ rfl rfl (by kernel_rfl) rfl (fun w' hS' => by go_simp; rfl) HS0 ?_
        simp only [Act.put, List.setIfInBounds_toArray, List.set_cons_zero, List.set_cons_succ]
        refine hp_take hP 10 (some 49) _ rfl rfl (by kernel_rfl) rfl (fun w' hS' => by go_simp; rfl) HS0 ?_
        simp only [Act.put, List.setIfInBounds_toArray, List.set_cons_zero, List.set_cons_succ]
        refine hp_none 11 rfl rfl (by kernel_rfl) rfl (w2.drew.setCell ⟨t, 1, none⟩ (.pointer none)) (by have ff := HFT.out; have cc := HCT.out; have ff2 : w2.frozen? ⟨t, 1, none⟩ = false := ff; have cc2 : w2.cell? ⟨t, 1, none⟩ = some (pv o) := cc; go_simp; try rfl) HS3.out ?_
        simp only [Act.put, List.setIfInBounds_toArray, List.set_cons_zero, List.set_cons_succ]
        refine hk_done (by kernel_rfl) ?_
        first | go_end0 | refine bodyPost_ret (results_none rfl _ _ _) rfl ?_
        obtain ⟨wf1, h3, hTF, hsz⟩ := HFIN.out
        refine ⟨rfl, ⟨wf1, _, _, _, _, h3.mono (fun k hk => ?_) (fun k hk => ?_)⟩, hTF⟩
        · rcases hk with hk | hk
          · exact .inl hk
          · exact .inr ⟨hk.1, by rw [hsz]; exact hk.2⟩
        · rcases hk with hk | hk
          · exact h3.lt k (.inl hk)
          · exact hk.2)
end Go.Proofs.Ytkndcofmhfeaoaa
