/- Start. -/
import Derived.Test.YtkndcofmhfeaoaaG
import Derived.Test.YtkndcofmhfeaoaaBase13
namespace Go.Proofs.Ytkndcofmhfeaoaa
open Go.RowKit Go.Maps
set_option linter.unusedVariables false
set_option linter.unusedSimpArgs false
theorem SchedQ.lenT {F : Nat → Prop} {S : Nat} {w : World} {s : SchedP} {L : Lay} {vt vl vo : Value} (h : SchedQ F S w s L vt vl vo) (ty : TypeId) : (Builtin.len_ #[53] ty #[vt]).run Try.prog w = .ok (.int .i64 (s.tasks.length : Nat)) w := by
  rcases h.maps with ⟨h1, -, -, h4⟩ | ⟨bt, bl, bo, h1, -, -, m⟩
  · rw [h1, h4]; kernel_rfl
  · rw [h1, ← nums_len s.tasks L.tb]; exact m.pt.len Try.underlying53 ty
theorem wpList_len_T {w : World} {ops : Array Oper} {rest : List Oper} {o : Oper} {a : Act} {Q : Exit → Act → World → Prop} (hg : Region.wanted o (yielded ops a.tmps) = true) (m : Operand)
    (hop : o.op = Op.call { callee := Callee.builtin Builtin.len, args := #[m], argTypes := #[53] }) {mv : Value} {n : Int} (h : ∀ ty, (Builtin.len_ #[53] ty #[mv]).run Try.prog w = .ok (.int .i64 n) w) (hm : a.eval m = mv)
    (hK : wpList Try.prog ops Q rest (a.put o.dst (.int .i64 n)) w) : wpList Try.prog ops Q (o :: rest) a w := by
  refine wpList_step fun K' hK' => ?_
  simp only [hg, if_true]
  have hl := h o.type
  unfold Oper.wp
  simp [execOp, hop, resolve, invoke, builtin, hm, hl, Result.andThen]
  exact hK' _ _ hK
/-- a task is put behind -/
theorem SchedQ.putT {F : Nat → Prop} {S : Nat} {w : World} {s : SchedP} {L : Lay} {bt bl bo : Nat} (h : SchedQ F S w s L (.map (some bt)) (.map (some bl)) (.map (some bo))) (wf : WF s) {x : Int} {w1 : World} (hx : (Lit.int .i64 x).wf = true) (hnew : getP s.tasks x = none) {b : Nat} (hb : w.heap.size ≤ b) (hlt : b < w1.heap.size) (hB : Below w.heap.size w w1) (T : TaskP) (hT : taskAt w1 b T) :
    ∃ w', (Instr.mapUpdate 53 (.map (some bt)) (.int .i64 x) (.pointer (some ⟨b, 0, none⟩))).run Try.prog w1 = .ok () w' ∧ SchedQ (Fn F w w') S w' { s with tasks := s.tasks ++ [(x, T)] } { L with tb := upd L.tb x b } (.map (some bt)) (.map (some bl)) (.map (some bo)) ∧ w1.mapTurned w' bt := by
  have h1 := h.below hB
  rcases h1.maps with ⟨h0, -⟩ | ⟨bt', bl', bo', e1, e2, e3, m⟩
  · cases h0
  cases e1; cases e2; cases e3
  obtain ⟨w', hr, hP, hT'⟩ := m.pt.store Try.underlying3 Try.underlying53 (by rw [nums_len]; have := wf.few; unfold maxLen; omega) hx (by rw [at_nums, hnew]; rfl) b
  have hsz := hT'.grown.size
  have hsame : ∀ k, k < w1.heap.size → k ≠ bt → w'.heap[k]? = w1.heap[k]? := fun k hk hne => hT'.grown.block k hk (fun e => hne (by cases e; rfl))
  obtain ⟨i1, i2, i3⟩ := m.isMaps
  have up : ∀ k, F k → Fn F w w' k := fun k hk => .inl hk
  have hFt := fun k (hk : F k) => h1.lt k hk
  obtain ⟨o, ho, hTb⟩ := hT
  refine ⟨w', hr, ⟨fun k hk => ?_, up _ h1.root, h1.blk.same (hsame _ h1.blk.lt (blk_ne_map h1.blk i1)), .inr ⟨bt, bl, bo, rfl, rfl, rfl, ?_, m.pl.block (hsame _ (hFt _ m.fl) m.ntl.symm), m.po.block (hsame _ (hFt _ m.fo) m.nto.symm), up _ m.ft, up _ m.fl, up _ m.fo, m.ntl, m.nto, m.nlo⟩, ?_, ?_, ?_, h1.linj, h1.qinj⟩, hT'⟩
  · rcases hk with hk | hk
    · exact Nat.lt_of_lt_of_le (h1.lt k hk) hsz
    · exact hk.2
  · show PMap Try.prog 3 w' bt (nums_ (s.tasks ++ [(x, T)]) (upd L.tb x b))
    rw [nums_app _ _ _ _ _ hnew]; exact hP
  · intro p hp
    show Fn F w w' (upd L.tb x b p.1) ∧ taskAt w' (upd L.tb x b p.1) p.2
    rcases List.mem_append.1 hp with hp | hp
    · rw [upd_ne _ _ (getP_none.1 hnew p hp)]
      obtain ⟨h2, o', ho', h3⟩ := h1.task p hp
      exact ⟨up _ h2, o', ho', h3.same (hsame _ h3.lt (blk_ne_map h3 i1))⟩
    · simp at hp; subst hp
      rw [upd_same]
      exact ⟨.inr ⟨hb, Nat.lt_of_lt_of_le hlt hsz⟩, o, ho, hTb.same (hsame _ hlt (blk_ne_map hTb i1))⟩
  · intro p hp
    obtain ⟨h2, h3, h4⟩ := h1.lock p hp
    exact ⟨up _ h2, h3.same (hsame _ h3.blk.lt (blk_ne_map h3.blk i1)) (fun g hg => hsame _ (h3.row.lt hg) (row_ne_map i1 h3.row hg)), fun g hg => up _ (h4 g hg)⟩
  · intro p hp q hq hne
    show upd L.tb x b p.1 ≠ upd L.tb x b q.1
    have old : ∀ p ∈ s.tasks, L.tb p.1 ≠ b := fun p hp => by have := h.lt _ (h.task p hp).1; omega
    rcases List.mem_append.1 hp with hp | hp <;> rcases List.mem_append.1 hq with hq | hq
    · rw [upd_ne _ _ (getP_none.1 hnew p hp), upd_ne _ _ (getP_none.1 hnew q hq)]; exact h1.tinj p hp q hq hne
    · simp at hq; subst hq
      rw [upd_ne _ _ (getP_none.1 hnew p hp), upd_same]; exact old p hp
    · simp at hp; subst hp
      rw [upd_ne _ _ (getP_none.1 hnew q hq), upd_same]; exact (old q hq).symm
    · simp at hp hq; subst hp hq; exact absurd rfl hne
/-- the number of made ones has turned -/
theorem SchedQ.bump {F : Nat → Prop} {S : Nat} {w : World} {s : SchedP} {L : Lay} {bt bl bo : Nat} (h : SchedQ F S w s L (.map (some bt)) (.map (some bl)) (.map (some bo))) (n : Nat) : SchedQ F S (w.setCell ⟨S, 0, none⟩ (.int .i64 (n : Int))) { s with made := n } L (.map (some bt)) (.map (some bl)) (.map (some bo)) := by
  have hsame : ∀ k, k ≠ S → (w.setCell ⟨S, 0, none⟩ (.int .i64 (n : Int))).heap[k]? = w.heap[k]? := fun k hk => Below.heap_setCell _ _ _ _ hk
  rcases h.maps with ⟨h0, -⟩ | ⟨bt', bl', bo', e1, e2, e3, m⟩
  · cases h0
  cases e1; cases e2; cases e3
  obtain ⟨i1, i2, i3⟩ := m.isMaps
  refine ⟨fun k hk => by simpa [World.setCell] using h.lt k hk, h.root, Blk.set h.blk 0 _, ?_, ?_, ?_, h.tinj, h.linj, h.qinj⟩
  · have m' := m.same (w' := w.setCell ⟨S, 0, none⟩ (.int .i64 (n : Int))) (hsame _ (blk_ne_map h.blk i1).symm) (hsame _ (blk_ne_map h.blk i2).symm) (hsame _ (blk_ne_map h.blk i3).symm)
    exact .inr ⟨bt, bl, bo, rfl, rfl, rfl, m'.pt, m'.pl, m'.po, m.ft, m.fl, m.fo, m.ntl, m.nto, m.nlo⟩
  · intro p hp
    obtain ⟨h2, o', ho', h3⟩ := h.task p hp
    exact ⟨h2, o', ho', h3.same (hsame _ (blk_ne h3 h.blk (by decide)))⟩
  · intro p hp
    obtain ⟨h2, h3, h4⟩ := h.lock p hp
    exact ⟨h2, h3.same (hsame _ (blk_ne h3.blk h.blk (by decide))) (fun g hg => hsame _ (blk_ne_row h.blk h3.row (by decide) hg).symm), h4⟩
set_option maxRecDepth 100000 in
theorem start11 {F : Nat → Prop} {S : Nat} {w : World} {s : SchedP} (h : SQ F S w s) (hm : s.made < 4611686018427387904) :
    Calls Try.prog 11 #[.pointer (some ⟨S, 0, none⟩)] w fun e w' => e = .returned (.tuple #[.int .i64 (startV s).1, .int .i64 (startV s).2]) ∧ SQ (Fn F w w') S w' (startP s) ∧ Turn F w w' := by
  obtain ⟨wf, L, vt, vl, vo, h⟩ := h
  have hlen := h.lenT
  have c1 : w.cell? ⟨S, 1, none⟩ = some vt := Blk.cell h.blk 1
  have HL := Lib.hid hlen
  clear hlen
  by_cases hfull : 64 ≤ s.tasks.length
  · have hd : decide (64 ≤ s.tasks.length) = true := decide_eq_true hfull
    have hd2 : decide ((64 : Int) ≤ (s.tasks.length : Nat)) = true := decide_eq_true (by omega)
    have e1 : startP s = s := by unfold startP; rw [if_pos hfull]
    have e2 : startV s = (0, 12) := by unfold startV; rw [if_pos hfull]
    rw [e1, e2]
    have H := Lib.hid (And.intro wf h)
    clear h wf e1 e2 hm
    go_enter Try.func11, Try.ntmps11
    go_wp2_with (at_len; refine wpList_len_T rfl _ rfl HL.out rfl ?_)
    all_goals (first | (exfalso; omega) | (go_ret2; exact ⟨rfl, ⟨H.out.1, _, _, _, _, H.out.2.grow w H.out.2.lt⟩, Turn.refl _ _⟩))
  have hd : decide (64 ≤ s.tasks.length) = false := decide_eq_false hfull
  have hd2 : decide ((64 : Int) ≤ (s.tasks.length : Nat)) = false := decide_eq_false (by omega)
  have e1 : startP s = { s with made := s.made + 1, tasks := s.tasks ++ [((s.made : Int) + 1, ⟨0, none, -1⟩)] } := by unfold startP; rw [if_neg hfull]
  have wf1 := wf.start
  have e2 : startV s = ((s.made : Int) + 1, 0) := by unfold startV; rw [if_neg hfull]
  have hnew : getP s.tasks ((s.made : Int) + 1) = none := getP_none.2 fun p hp => by have := wf.rng p hp; omega
  rw [e1] at wf1
  rw [e1, e2]
  have hmk := make27 h
  have HM := Lib.hid hmk
  have HH := Lib.hid (And.intro wf (And.intro h (And.intro hnew (And.intro wf1 hm))))
  clear h wf hmk e1 e2 hnew wf1
  go_enter Try.func11, Try.ntmps11
  go_wp2_with (at_len; refine wpList_len_T rfl _ rfl HL.out rfl ?_)
  refine HM.out.mono ?_
  rintro e w1 ⟨rfl, hT1, bt, bl, bo, h1⟩
  have k0 : w1.cell? ⟨S, 0, none⟩ = some (.int .i64 (s.made : Int)) := Blk.cell h1.blk 0
  have f0 : w1.frozen? ⟨S, 0, none⟩ = false := Blk.free h1.blk 0
  have hw64 : wrap64 ((s.made : Int) + 1) = (s.made : Int) + 1 := w64 (by omega)
  have h2 := h1.bump (s.made + 1)
  have HX := Lib.hid (And.intro hT1 h2)
  clear h1 h2 hT1
  go_wp2_with fail
  obtain ⟨hT1, h2⟩ := HX.out
  rw [show (((s.made + 1 : Nat) : Nat) : Int) = (s.made : Int) + 1 by omega] at h2
  obtain ⟨w2, hw2⟩ : ∃ w2, w2 = w1.setCell ⟨S, 0, none⟩ (.int .i64 ((s.made : Int) + 1)) := ⟨_, rfl⟩
  have hT2 : Turn F w w2 := by rw [hw2]; exact (hT1.mono (fun k hk e => by rw [e]; exact HH.out.2.1.root)).setCell (p := ⟨S, 0, none⟩) HH.out.2.1.root _
  rw [← hw2] at h2 ⊢
  have hs12 : w1.heap.size = w2.heap.size := by rw [hw2]; simp [World.setCell]
  clear hw2 k0 f0 HX
  obtain ⟨w3, hw3⟩ : ∃ w3, w3 = w2.drew.alloc (.cells #[.int .i64 0, .pointer none, .int .i64 (-1)] 66) := ⟨_, rfl⟩
  have hB3 : Below w2.heap.size w2 w3 := by rw [hw3]; exact ((Below.refl w2.heap.size w2).drew).alloc (Nat.le_refl _) _
  have hS2 : Blk w2.drew S 57 #[.int .i64 ((s.made : Int) + 1), .map (some bt), .map (some bl), .map (some bo)] := by have := h2.blk; exact this
  have hS3 : Blk w3 S 57 #[.int .i64 ((s.made : Int) + 1), .map (some bt), .map (some bl), .map (some bo)] := by rw [hw3]; exact Blk.alloc hS2 _
  have hT3 : taskAt w3 w2.heap.size ⟨0, none, -1⟩ := ⟨none, rfl, by rw [hw3]; exact Blk.new w2.drew 66 _⟩
  have hput := h2.putT ⟨HH.out.1.inc, fun p hp => ⟨(HH.out.1.rng p hp).1, by have := (HH.out.1.rng p hp).2; show p.1 ≤ ((s.made + 1 : Nat) : Int); omega⟩, HH.out.1.few, HH.out.1.lks, HH.out.1.lrng, HH.out.1.que, HH.out.1.nod⟩ (x := (s.made : Int) + 1) (w1 := w3) (wfi (by omega) (by omega)) HH.out.2.2.1 (Nat.le_refl _) (by rw [hw3]; simp) hB3 _ hT3
  have hB4 : ∀ w4, w3.mapTurned w4 bt → Blk w4 S 57 #[.int .i64 ((s.made : Int) + 1), .map (some bt), .map (some bl), .map (some bo)] := by
    intro w4 ht
    have hne : S ≠ bt := by
      rcases (h2.below hB3).maps with ⟨h0, -⟩ | ⟨bt', bl', bo', e1, e2, e3, m⟩
      · cases h0
      · cases e1; exact blk_ne_map hS3 m.isMaps.1
    exact hS3.same (ht.grown.block S hS3.lt (fun e => hne (by cases e; rfl)))
  have hT3' : Turn F w w3 := by rw [hw3]; exact (hT2.drew).alloc _
  have hFb : Fn F w w1 bt := by
    rcases h2.maps with ⟨h0, -⟩ | ⟨bt', bl', bo', e1, e2, e3, m⟩
    · cases h0
    · cases e1; exact m.ft
  have HPUT := Lib.hid hput
  have HW3 := Lib.hid hw3
  have HS0 : w2.drew.cell? ⟨S, 0, none⟩ = some (.int .i64 ((s.made : Int) + 1)) ∧ w2.drew.cell? ⟨S, 1, none⟩ = some (.map (some bt)) := ⟨Blk.cell hS2 0, Blk.cell hS2 1⟩
  have HR := Lib.hid (And.intro hT3' (And.intro hFb (And.intro hT1.size (And.intro hB3.size hs12))))
  clear hput hFb hT1 hs12 hw3 hT3' h2
  refine hp_start (fun w' => w'.cell? ⟨S, 0, none⟩ = some (.int .i64 ((s.made : Int) + 1)) ∧ w'.cell? ⟨S, 1, none⟩ = some (.map (some bt))) 11 rfl (by kernel_rfl) (fun c a a' w hd h => ⟨hd ▸ h.1, h.2⟩) (fun hP => ?_)
  rw [show Array.replicate 11 false = #[false, false, false, false, false, false, false, false, false, false, false] from rfl]
  refine hp_take hP 0 (some 23) _ rfl rfl (by kernel_rfl) rfl (fun w' hS' => by go_simp; rfl) HS0 ?_
  simp only [Act.put, List.setIfInBounds_toArray, List.set_cons_zero, List.set_cons_succ]
  refine hp_take hP 1 (some 24) _ rfl rfl (by kernel_rfl) rfl (fun w' hS' => by go_simp; rfl) HS0 ?_
  simp only [Act.put, List.setIfInBounds_toArray, List.set_cons_zero, List.set_cons_succ]
  refine hp_take hP 2 (some 25) _ rfl rfl (by kernel_rfl) rfl (fun w' hS' => by go_simp; rfl) HS0 ?_
  simp only [Act.put, List.setIfInBounds_toArray, List.set_cons_zero, List.set_cons_succ]
  refine hp_take hP 3 (some 26) _ rfl rfl (by kernel_rfl) rfl (fun w' hS' => by have cc := hS'.2; go_simp; rfl) HS0 ?_
  simp only [Act.put, List.setIfInBounds_toArray, List.set_cons_zero, List.set_cons_succ]
  refine hp_take hP 4 (some 27) _ rfl rfl (by kernel_rfl) rfl (fun w' hS' => by go_simp; rfl) HS0 ?_
  simp only [Act.put, List.setIfInBounds_toArray, List.set_cons_zero, List.set_cons_succ]
  refine hp_take hP 5 (some 28) _ rfl rfl (by kernel_rfl) rfl (fun w' hS' => by go_simp; rfl) HS0 ?_
  simp only [Act.put, List.setIfInBounds_toArray, List.set_cons_zero, List.set_cons_succ]
  refine hp_take hP 6 (some 29) _ rfl rfl (by kernel_rfl) rfl (fun w' hS' => by go_simp; rfl) HS0 ?_
  simp only [Act.put, List.setIfInBounds_toArray, List.set_cons_zero, List.set_cons_succ]
  refine hp_take hP 7 (some 30) _ rfl rfl (by kernel_rfl) rfl (fun w' hS' => by have cc := hS'.1; go_simp; rfl) HS0 ?_
  simp only [Act.put, List.setIfInBounds_toArray, List.set_cons_zero, List.set_cons_succ]
  refine hp_take hP 8 (some 31) _ rfl rfl (by kernel_rfl) rfl (fun w' hS' => by go_simp; rfl) HS0 ?_
  simp only [Act.put, List.setIfInBounds_toArray, List.set_cons_zero, List.set_cons_succ]
  refine hp_val 9 (some 32) rfl rfl (by kernel_rfl) rfl (.pointer (some ⟨w2.heap.size, 0, none⟩)) w3 (by rw [HW3.out]; go_simp; try rfl) (by exact ⟨Blk.cell hS3 0, Blk.cell hS3 1⟩) ?_
  have HS1 := And.intro (Blk.cell hS3 0) (Blk.cell hS3 1)
  simp only [Act.put, List.setIfInBounds_toArray, List.set_cons_zero, List.set_cons_succ]
  obtain ⟨w4, hrun, hM4, hT4⟩ := HPUT.out
  have hS4 := hB4 w4 hT4
  refine hp_none 10 rfl rfl (by kernel_rfl) rfl w4 (by first | (go_simp; done) | (go_simp; rw [hrun]; rfl)) (by exact ⟨Blk.cell hS4 0, Blk.cell hS4 1⟩) ?_
  simp only [Act.put, List.setIfInBounds_toArray, List.set_cons_zero, List.set_cons_succ]
  refine hk_done (by kernel_rfl) ?_
  have n0 : w4.cell? ⟨S, 0, none⟩ = some (.int .i64 ((s.made : Int) + 1)) := Blk.cell hS4 0
  have HM4 := Lib.hid (And.intro hM4 hT4)
  clear hM4 hT4 hrun hS4 HS0 HS1
  go_wp2_with fail
  go_ret2
  obtain ⟨hT3', hFb, hs1, hs2, hs3⟩ := HR.out
  obtain ⟨hM4, hT4⟩ := HM4.out
  have hsz := hT4.grown.size
  have hT5 : Turn F w w4 := ⟨hT4.grown.os.trans hT3'.os, hT4.grown.tape.trans hT3'.tape, hT4.grown.output.trans hT3'.output, Nat.le_trans hT3'.size hsz, fun k hk hF => (hT4.grown.block k (Nat.lt_of_lt_of_le hk hT3'.size) (fun e => by
    cases e
    rcases hFb with h | h
    · exact hF h
    · omega)).trans (hT3'.block k hk hF)⟩
  refine ⟨rfl, ⟨HH.out.2.2.2.1, _, _, _, _, hM4.mono ?_ ?_⟩, hT5⟩
  · intro k hk
    rcases hk with (hk | hk) | hk
    · exact .inl hk
    · exact .inr ⟨hk.1, by omega⟩
    · exact .inr ⟨by omega, hk.2⟩
  · intro k hk
    rcases hk with hk | hk
    · exact hM4.lt k (.inl (.inl hk))
    · exact hk.2
end Go.Proofs.Ytkndcofmhfeaoaa
