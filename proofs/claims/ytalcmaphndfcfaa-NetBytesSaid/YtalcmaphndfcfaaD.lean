/- A connection that is at its end goes. -/
import Derived.Test.YtalcmaphndfcfaaC
namespace Go.Proofs.Ytalcmaphndfcfaa
open Go.RowKit Go.Maps
set_option linter.unusedVariables false
set_option linter.unusedSimpArgs false

def leaveC (L : List Cn) (c : Cn) : List Cn := if c.gone then dropC L c.num else L

theorem leave_no {L : List Cn} {c : Cn} (h : c.gone = false) : leaveC L c = L := by unfold leaveC; rw [h]; rfl
theorem Turn.quiet (w : World) (n : Nat) : Turn (fun _ => False) w (w.drewN n) := ⟨rfl, rfl, rfl, Nat.le_refl _, fun _ _ _ => rfl⟩
theorem Conns.drewN {F : Nat → Prop} {w : World} {mv : Value} {L : List Cn} (h : Conns F w mv L) (n : Nat) : Conns F (w.drewN n) mv L := h.turn (Turn.quiet w n) (fun _ _ h => h)
theorem NetAt.drewN {F : Nat → Prop} {w : World} {bn : Nat} {made : Int} {L : List Cn} (h : NetAt F w bn made L) (n : Nat) : NetAt F (w.drewN n) bn made L := h.turn (Turn.quiet w n) (fun _ _ h => h)
theorem Turn.drewN {F : Nat → Prop} {w w' : World} (h : Turn F w w') (n : Nat) : Turn F w (w'.drewN n) := ⟨h.os, h.tape, h.output, h.size, h.block⟩

theorem wpList_delete_C {w : World} {ops : Array Oper} {rest : List Oper} {o : Oper} {a : Act} {Q : Exit → Act → World → Prop} (hg : o.guard = none) (m x : Operand)
    (hop : o.op = Op.call { callee := Callee.builtin Builtin.delete, args := #[m, x], argTypes := #[53, 3] }) {F : Nat → Prop} {mv : Value} {L : List Cn} (h : Conns F w mv L) (key : Int) (hk : (Lit.int .i64 key).wf = true) (hc : ∃ c, findC L key = some c)
    (hm : a.eval m = mv) (hx : a.eval x = .int .i64 key)
    (hK : ∀ w', Conns F w' mv (dropC L key) → Turn F w w' → (∀ b T cs, Blk w b T cs → Blk w' b T cs) → wpList Try.prog ops Q rest (a.put o.dst (.tuple #[])) w') :
    wpList Try.prog ops Q (o :: rest) a w := by
  refine wpList_plain hg fun K' hK' => ?_
  obtain ⟨bm, -, hF, hdel⟩ := h.del hk hc
  obtain ⟨w', hrun, r1, r2⟩ := hdel o.type
  unfold Oper.wp
  simp [execOp, hop, resolve, invoke, builtin, hm, hx, hrun, Result.andThen]
  refine hK' _ _ (hK w' r1 ((Turn.refl F w).map hF r2) (fun b T cs hb => Blk.grown hb r2.grown ?_))
  intro e
  cases e
  obtain ⟨es, clock, es', clock', hmm, -⟩ := r2
  unfold Blk at hb
  rw [hmm] at hb
  simp at hb

set_option maxHeartbeats 4000000 in
theorem leave22 {F : Nat → Prop} {w : World} {bn : Nat} {made : Int} {L : List Cn} {c : Cn} (h : NetAt F w bn made L) (x : Int) (hc : findC L x = some c) :
    Calls Try.prog 22 #[.pointer (some ⟨bn, 0, none⟩), .int .i64 x] w fun e w' => e = .returned (.tuple #[]) ∧ NetAt F w' bn made (leaveC L c) ∧ Turn F w w' := by
  obtain ⟨hF, mv, hb, hC⟩ := h
  obtain ⟨hm, hx⟩ := findC_mem hc
  have hwf := hC.wf c hm
  rw [hx] at hwf
  have hl0 := hC.look hwf
  rw [hc] at hl0
  have hl : (Instr.lookup 53 mv (.int .i64 x) false).run Try.prog w = .ok (.pointer (some ⟨c.blk, 0, none⟩)) w := hl0
  clear hl0
  obtain ⟨bm, hmv, hbm, -⟩ := hC.del hwf ⟨c, hc⟩
  have hcb := (hC.blk c hm).2
  have hfit := hC.fits c hm
  have n1 : w.cell? ⟨bn, 1, none⟩ = some mv := Blk.cell hb 1
  have c0 : w.cell? ⟨c.blk, 0, none⟩ = some (.string c.th0) := Blk.cell hcb 0
  have c1 : w.cell? ⟨c.blk, 1, none⟩ = some (.string c.un0) := Blk.cell hcb 1
  have c2 : w.cell? ⟨c.blk, 2, none⟩ = some (.bool c.sh0) := Blk.cell hcb 2
  have c3 : w.cell? ⟨c.blk, 3, none⟩ = some (.bool c.to0) := Blk.cell hcb 3
  have c4 : w.cell? ⟨c.blk, 4, none⟩ = some (.string c.th1) := Blk.cell hcb 4
  have c5 : w.cell? ⟨c.blk, 5, none⟩ = some (.string c.un1) := Blk.cell hcb 5
  have c6 : w.cell? ⟨c.blk, 6, none⟩ = some (.bool c.sh1) := Blk.cell hcb 6
  have c7 : w.cell? ⟨c.blk, 7, none⟩ = some (.bool c.to1) := Blk.cell hcb 7
  have c8 : w.cell? ⟨c.blk, 8, none⟩ = some (.bool c.cut) := Blk.cell hcb 8
  subst hmv
  obtain ⟨num, blk, th0, un0, sh0, to0, th1, un1, sh1, to1, cut⟩ := c
  simp only at *
  have HC := Lib.hid hC
  have Hc := Lib.hid hc
  have Hm := Lib.hid hm
  have Hf := Lib.hid hfit
  have Hb := Lib.hid hb
  have Hx := Lib.hid hx
  have Hw := Lib.hid hwf
  have HF := Lib.hid hF
  clear hC hb hcb hc hm hfit hF hbm hx hwf
  go_enter Try.func22, Try.ntmps22
  go_wp2_with fail
  go_quiet (fail)
  go_wp2_with fail
  go_quiet ((go_at_call 19; first | (refine quietA (size19 (x := th0) ?_); rw [World.cell?_drewN]; with_reducible exact c0) | (refine quietA (size19 (x := un0) ?_); rw [World.cell?_drewN]; with_reducible exact c1) | (refine quietA (size19 (x := th1) ?_); rw [World.cell?_drewN]; with_reducible exact c4) | (refine quietA (size19 (x := un1) ?_); rw [World.cell?_drewN]; with_reducible exact c5)))
  have hE2 : (wrap64 (wrap64 (wrap64 ((th0.size : Int) + (un0.size : Int)) + (th1.size : Int)) + (un1.size : Int)) == 0) = decide (th0.size + un0.size + th1.size + un1.size = 0) := by
    have hf := Hf.out
    rw [w64 (x := (th0.size : Int) + (un0.size : Int)) (by omega), w64 (x := (th0.size : Int) + (un0.size : Int) + (th1.size : Int)) (by omega), w64 (by omega), Bool.beq_eq_decide_eq, decide_eq_decide]
    omega
  rw [hE2]
  clear hE2
  generalize wrap64 (wrap64 (wrap64 ((th0.size : Int) + (un0.size : Int)) + (th1.size : Int)) + (un1.size : Int)) = q3
  generalize wrap64 (wrap64 ((th0.size : Int) + (un0.size : Int)) + (th1.size : Int)) = q2
  generalize wrap64 ((th0.size : Int) + (un0.size : Int)) = q1
  generalize hE : decide (th0.size + un0.size + th1.size + un1.size = 0) = E
  have HE := Lib.hid hE
  clear hE c0 c1 c4 c5
  cases cut
  · cases sh0 <;> cases sh1 <;> cases E
    all_goals go_wp2_with (at_delete; go_loud (refine wpList_delete_C (F := F) (L := L) (mv := .map (some bm)) rfl _ _ rfl (by first | exact Conns.drewN HC.out _ | exact Conns.drewN (Conns.drewN HC.out _) _) x Hw.out ⟨_, Hc.out⟩ rfl rfl ?_); intro w1 hC1 hT1 hB1)
    all_goals (first | go_end0 | refine bodyPost_ret (results_none rfl _ _ _) rfl ?_)
    iterate 7 (
      refine ⟨rfl, ?_, (Turn.refl F w).drewN _⟩
      have hE := HE.out
      rw [leave_no (by unfold Cn.gone; simp only [hE]; rfl)]
      exact NetAt.drewN ⟨HF.out, _, Hb.out, HC.out⟩ _)
    · have hE := HE.out
      have e : leaveC L ⟨num, blk, th0, un0, true, to0, th1, un1, true, to1, false⟩ = dropC L num := by unfold leaveC Cn.gone; simp only [hE]; rfl
      rw [e, Hx.out]
      exact ⟨rfl, ⟨HF.out, _, hB1 _ _ _ (Blk.drewN Hb.out _), hC1⟩, ((Turn.refl F w).drewN _).trans hT1⟩
  · cases to0 <;> cases to1
    all_goals go_wp2_with (at_delete; go_loud (refine wpList_delete_C (F := F) (L := L) (mv := .map (some bm)) rfl _ _ rfl (by first | exact Conns.drewN HC.out _ | exact Conns.drewN (Conns.drewN HC.out _) _) x Hw.out ⟨_, Hc.out⟩ rfl rfl ?_); intro w1 hC1 hT1 hB1)
    all_goals (first | go_end0 | refine bodyPost_ret (results_none rfl _ _ _) rfl ?_)
    iterate 3 (
      refine ⟨rfl, ?_, (Turn.refl F w).drewN _⟩
      exact NetAt.drewN ⟨HF.out, _, Hb.out, HC.out⟩ _)
    · have e : leaveC L ⟨num, blk, th0, un0, sh0, true, th1, un1, sh1, true, true⟩ = dropC L num := rfl
      rw [e, Hx.out]
      exact ⟨rfl, ⟨HF.out, _, hB1 _ _ _ (Blk.drewN Hb.out _), hC1⟩, ((Turn.refl F w).drewN _).trans hT1⟩
end Go.Proofs.Ytalcmaphndfcfaa
