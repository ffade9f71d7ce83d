/- Merge. -/
import Derived.Test.YtlhncphnhgbclaaW
import Derived.Test.YtlhncphnhgbclaaJ
import Derived.Laws.CopyRow
namespace Go.Proofs.Ytlhncphnhgbclaa
open Go.RowKit
set_option linter.unusedVariables false
set_option linter.unusedSimpArgs false

theorem exec_store_mid {P : Program} {o : Oper} {a : Act} {w : World} (ty : TypeId) (x y : Operand) (ho : o.op = .store ty x y) (g off : Nat) (cells : Array Value) (hx : a.eval x = .pointer (some ⟨g, off, none⟩)) (hy : a.eval y = .agg cells)
    (t : TypeId) (old : Array Value) (hg : w.heap[g]? = some (.cells old t (0, 0))) (hi : (P.info? ty).map (·.size) = some cells.size) (hfit : off + cells.size ≤ old.size) (h1 : cells.all (·.oneCell') = true) :
    (execOp a.eval o).run P w = .ok .skip (w.setRow g (old.toList.take off ++ cells.toList ++ old.toList.drop (off + cells.size)).toArray) := by
  have := run_storeCells_at P g off t cells.toList 0 old w hg (by simpa using hfit) (fun v hv => (Array.all_eq_true_iff_forall_mem.1 h1) v (by simpa using hv))
  simp only [Nat.add_zero, Array.length_toList] at this
  cases hq : P.info? ty with
  | none => simp [hq] at hi
  | some i =>
    have hs : cells.size = i.size := by simp [hq] at hi; omega
    have h2 : (storeVar ty ⟨g, off, none⟩ (.agg cells)).run P w = .ok () (w.setRow g (old.toList.take off ++ cells.toList ++ old.toList.drop (off + cells.size)).toArray) := by
      simp [storeVar, sizeOf, typeInfo, hq, Value.cells, hs, this]
    unfold execOp
    simp only [ho, hx, hy, Instr.storeAt, Instr.sureAddr, Sem.run_bind, Sem.run_pure, Result.andThen_ok, h2]

theorem hp_none {P : Program} {ops : Array Oper} {Q : Exit → Act → World → Prop} {S : World → Prop} {fuel : Nat} {listed : Array Bool} {a : Act} {w : World} (i : Nat) {o : Oper} (hi : ops[i]? = some o) (hd : o.dst = none) (hr : Region.ready .any ops listed = [i]) (hw : Region.wanted o (yielded ops a.tmps) = true)
    (w' : World) (hx : (execOp a.eval o).run P w = .ok .skip w') (hS : S w')
    (h : wpAnyH P .any ops Q S fuel (listed.setIfInBounds i true) a w') : wpAnyH P .any ops Q S (fuel + 1) listed a w := by
  refine wpAnyH_all hr (by simp) fun j hj => ?_
  obtain rfl : j = i := by simpa using hj
  unfold wpOp
  simp only [hi, hw, if_true]
  refine .inl ?_
  unfold Oper.wp
  rw [hx, Oper.upon_skip, hd]
  exact ⟨hS, h⟩

/-- what two have, measure by measure; of the longer one the rest -/
def longL (ps qs : List Prt) : List Prt := if ps.length < qs.length then qs else ps
def mergeF (ps qs : List Prt) (k i : Nat) : Prt := if i < k then bothP (ps.getD i zeroP) (qs.getD i zeroP) else (longL ps qs).getD i zeroP
def mergeL (ps qs : List Prt) : List Prt := (List.range (longL ps qs).length).map (mergeF ps qs (min ps.length qs.length))
theorem mergeL_len (ps qs : List Prt) : (mergeL ps qs).length = (longL ps qs).length := by simp [mergeL]
theorem mergeF_step (ps qs : List Prt) (k : Nat) : mergeF ps qs (k + 1) = fun i => if i = k then bothP (ps.getD k zeroP) (qs.getD k zeroP) else mergeF ps qs k i := by
  funext i
  unfold mergeF
  by_cases e : i = k
  · subst e; rw [if_pos (by omega), if_pos rfl]
  · rw [if_neg e]
    by_cases h : i < k
    · rw [if_pos h, if_pos (by omega)]
    · rw [if_neg h, if_neg (by omega)]
theorem mergeF_zero (ps qs : List Prt) : mergeF ps qs 0 = fun i => (longL ps qs).getD i zeroP := by
  funext i; unfold mergeF; rw [if_neg (by omega)]

set_option maxRecDepth 100000 in
set_option maxHeartbeats 8000000 in
theorem merge29 (ps qs : List Prt) (m1 m2 : Int) (v1 v2 : Value) (w : World) (h1 : RowP w.heap.size w v1 ps) (hv1 : Som v1 ps.length) (h2 : RowP w.heap.size w v2 qs) (hv2 : Som v2 qs.length)
    (hb1 : ps.length * 40 ≤ 140737488355328) (hb2 : qs.length * 40 ≤ 140737488355328) :
    Calls Try.prog 29 #[.agg #[.int .i64 m1, v1], .agg #[.int .i64 m2, v2]] w fun e w' => ∃ v', e = .returned (.agg #[.int .i64 (wrap64 (m1 + m2)), v']) ∧ w'.ownsRow w.heap.size 46 5 v' (longL ps qs).length (partsC (mergeL ps qs)) ∧ Below w.heap.size w w' := by
  obtain ⟨cn, hcn⟩ : ∃ cn, IntKind.i64.wrap (m1 + m2) = cn := ⟨_, rfl⟩
  have HCN := Lib.hid hcn
  obtain ⟨a1, k1, ev1, hk1, hm1, hc1⟩ := RowP.open h1
  obtain ⟨a2, k2, ev2, hk2, hm2, hc2⟩ := RowP.open h2
  have H1 := Lib.hid h1
  have H2 := Lib.hid h2
  have HC1 := Lib.hid hc1
  have HC2 := Lib.hid hc2
  have HV1 := Lib.hid hv1
  have HV2 := Lib.hid hv2
  subst ev1 ev2
  clear h1 h2 hc1 hc2 hv1 hv2 hcn
  rcases Nat.lt_or_ge ps.length qs.length with hlt0 | hge0
  · have hlen : longL ps qs = qs := by unfold longL; rw [if_pos (by omega)]
    rw [hlen]
    have HLEN := Lib.hid hlen
    clear hlen
    go_enter Try.func29, Try.ntmps29
    go_upto_region 1 with (fail)
    obtain ⟨w1, hw1⟩ : ∃ w1, w1 = ((w.alloc (Obj.cells #[.int .i64 m1, .slice a1 ps.length k1] 39)).alloc (Obj.cells #[.int .i64 m2, .slice a2 qs.length k2] 39)).alloc (Obj.cells #[.int .i64 0, .slice none 0 0] 39) := ⟨_, rfl⟩
    have hbA : Blk w1 w.heap.size 39 #[.int .i64 m1, .slice a1 ps.length k1] := by rw [hw1]; exact ((Blk.newAt _ _ _ rfl).alloc _).alloc _
    have hbB : Blk w1 (w.heap.size + 1) 39 #[.int .i64 m2, .slice a2 qs.length k2] := by rw [hw1]; exact (Blk.newAt _ _ _ (by simp)).alloc _
    have hbZ : Blk w1 (w.heap.size + 1 + 1) 39 #[.int .i64 0, .slice none 0 0] := by rw [hw1]; exact Blk.newAt _ _ _ (by simp)
    have hB : Below w.heap.size w w1 := by rw [hw1]; exact Below.al (Below.al (Below.al (Below.refl _ _) _) _) _
    rw [← hw1]
    clear hw1
    have j1 : w1.cell? ⟨w.heap.size, 1, none⟩ = some (.slice a1 ps.length k1) := Blk.cell hbA 1
    have j2 : w1.cell? ⟨w.heap.size + 1, 1, none⟩ = some (.slice a2 qs.length k2) := Blk.cell hbB 1
    have dd : decide ((ps.length : Int) < (qs.length : Int)) = true := by simp; omega
    have de : decide (ps.length < qs.length) = true := by simp; omega
    go_quiet (fail)
    have hbA : Blk (w1.drewN nq) w.heap.size 39 #[.int .i64 m1, .slice a1 ps.length k1] := hbA
    have hbB : Blk (w1.drewN nq) (w.heap.size + 1) 39 #[.int .i64 m2, .slice a2 qs.length k2] := hbB
    have hbZ : Blk (w1.drewN nq) (w.heap.size + 1 + 1) 39 #[.int .i64 0, .slice none 0 0] := hbZ
    have hB : Below w.heap.size w (w1.drewN nq) := Below.drewN hB nq
    obtain ⟨w2, hw2⟩ : ∃ w2, w2 = w1.drewN nq := ⟨_, rfl⟩
    rw [← hw2] at hbA hbB hbZ hB ⊢
    clear hw2 j1 j2
    have hsA := Blk.lt hbZ
    have k0 : w2.cell? ⟨w.heap.size, 0, none⟩ = some (.int .i64 m1) := Blk.cell hbA 0
    have k9 : w2.cell? ⟨w.heap.size + 1, 0, none⟩ = some (.int .i64 m2) := Blk.cell hbB 0
    go_wp2_with fail
    refine hp_start (fun w' => Below (w.heap.size + 2) w2 w') 10 rfl (by kernel_rfl) (fun c a a' w hd h => ⟨hd ▸ h.1, h.2⟩) (fun hP => ?_)
    rw [show Array.replicate 10 false = #[false, false, false, false, false, false, false, false, false, false] from rfl]
    have HS0 : Below (w.heap.size + 2) w2 w2.drew := (Below.refl _ _).drew
    refine hp_take hP 0 (some 20) _ rfl rfl (by kernel_rfl) rfl (fun w' hS' => by go_simp; rfl) HS0 ?_
    simp only [Act.put, List.setIfInBounds_toArray, List.set_cons_zero, List.set_cons_succ]
    refine hp_take hP 1 (some 21) _ rfl rfl (by kernel_rfl) rfl (fun w' hS' => by have cc := (hS'.cell (show w.heap.size < w.heap.size + 2 by omega)).trans k0; go_simp; rfl) HS0 ?_
    simp only [Act.put, List.setIfInBounds_toArray, List.set_cons_zero, List.set_cons_succ]
    refine hp_take hP 2 (some 22) _ rfl rfl (by kernel_rfl) rfl (fun w' hS' => by go_simp; rfl) HS0 ?_
    simp only [Act.put, List.setIfInBounds_toArray, List.set_cons_zero, List.set_cons_succ]
    refine hp_take hP 3 (some 23) _ rfl rfl (by kernel_rfl) rfl (fun w' hS' => by have cc := (hS'.cell (show w.heap.size + 1 < w.heap.size + 2 by omega)).trans k9; go_simp; rfl) HS0 ?_
    simp only [Act.put, List.setIfInBounds_toArray, List.set_cons_zero, List.set_cons_succ]
    refine hp_take hP 4 (some 24) (.int .i64 cn) rfl rfl (by kernel_rfl) rfl (fun w' hS' => by have h2 := HCN.out; go_simp) HS0 ?_
    simp only [Act.put, List.setIfInBounds_toArray, List.set_cons_zero, List.set_cons_succ]
    refine hp_take hP 5 (some 25) _ rfl rfl (by kernel_rfl) rfl (fun w' hS' => by go_simp; rfl) HS0 ?_
    simp only [Act.put, List.setIfInBounds_toArray, List.set_cons_zero, List.set_cons_succ]
    have hrow1 : Row w2.drew.heap.size w2.drew (.slice a2 qs.length k2) qs.length 5 (partsC qs) := Row.mono H2.out (Below.drew hB) (by have e : w2.drew.heap.size = w2.heap.size := rfl; omega)
    refine hp_two 6 8 (by kernel_rfl) ?_ ?_
    · refine wpOp_call 6 (some 26) rfl rfl rfl 42 #[.slice a2 qs.length k2] (by go_simp) ((clone42 (.slice a2 qs.length k2) qs.length (partsC qs) _ hrow1 HV2.out (partsC_one qs) hb2).mono ?_)
      rintro e w3 ⟨v3, rfl, hown3, hB3⟩
      have HS1 : Below (w.heap.size + 2) w2 w3 := HS0.trans (hB3.mono (Nat.le_of_lt hsA))
      refine ⟨_, rfl, HS1, ?_⟩
      simp only [Act.put, List.setIfInBounds_toArray, List.set_cons_zero, List.set_cons_succ]
      obtain ⟨a3, c3, rfl⟩ := owns_form hown3
      refine hp_take hP 7 (some 27) _ rfl rfl (by kernel_rfl) rfl (fun w' hS' => by go_simp; rfl) HS1 ?_
      simp only [Act.put, List.setIfInBounds_toArray, List.set_cons_zero, List.set_cons_succ]
      have HS2 : Below (w.heap.size + 2) w2 (w3.alloc (Obj.cells #[.int .i64 0, .slice none 0 0] 39)) := HS1.alloc (by have := hB3.size; have e : w2.drew.heap.size = w2.heap.size := rfl; omega) _
      refine hp_val 8 (some 7) rfl rfl (by kernel_rfl) rfl (.pointer (some ⟨w3.heap.size, 0, none⟩)) (w3.alloc (Obj.cells #[.int .i64 0, .slice none 0 0] 39)) (by go_simp) HS2 ?_
      simp only [Act.put, List.setIfInBounds_toArray, List.set_cons_zero, List.set_cons_succ]
      have hg : Blk (w3.alloc (Obj.cells #[.int .i64 0, .slice none 0 0] 39)) w3.heap.size 39 #[.int .i64 0, .slice none 0 0] := Blk.newAt _ _ _ rfl
      have hs3 : w2.heap.size ≤ w3.heap.size := hB3.size
      refine hp_store_row 9 rfl rfl (by kernel_rfl) rfl 39 _ _ rfl w3.heap.size #[.int .i64 cn, .slice a3 qs.length c3] rfl rfl 39 _ hg info39 rfl (by simp [Value.oneCell']) (Below.setRow HS2 (by omega) _) ?_
      simp only [List.setIfInBounds_toArray, List.set_cons_zero, List.set_cons_succ]
      refine hk_done (by kernel_rfl) ?_
      have hown : ((w3.alloc (Obj.cells #[.int .i64 0, .slice none 0 0] 39)).setRow w3.heap.size #[.int .i64 cn, .slice a3 qs.length c3]).ownsRow w2.heap.size 46 5 (.slice a3 qs.length c3) qs.length (partsC qs) := owns_below hown3 (Below.setRow (Below.al (Below.refl _ _) _) (Nat.le_refl _) _) (Nat.le_refl _)
      have hne : ∀ g, (Value.slice a3 qs.length c3).ownBlock = some g → g ≠ w3.heap.size := fun g hg => by have := (hown3.lt g hg).2; omega
      have hg5 := Blk.setRow (cs' := #[.int .i64 cn, .slice a3 qs.length c3]) hg
      have hBz := hB.trans ((Below.setRow HS2 (show w.heap.size + 2 ≤ w3.heap.size by omega) #[.int .i64 cn, .slice a3 qs.length c3]).mono (by omega))
      have hk3 : ∀ b T cs, b < w2.heap.size → Blk w2 b T cs → Blk ((w3.alloc (Obj.cells #[.int .i64 0, .slice none 0 0] 39)).setRow w3.heap.size #[.int .i64 cn, .slice a3 qs.length c3]) b T cs := fun b T cs hlt hb =>
        Blk.otherRow ((Blk.below (Blk.drew hb) hB3 hlt).alloc _) (by omega)
      obtain ⟨g5, hg5e⟩ : ∃ g, g = w3.heap.size := ⟨_, rfl⟩
      have hbA3 := hk3 _ _ _ (by omega) hbA
      have hbB3 := hk3 _ _ _ (by omega) hbB
      have hbZ3 := hk3 _ _ _ (by omega) hbZ
      have hown := owns_base hown (show w.heap.size + 3 ≤ w2.heap.size by omega)
      have hg5l : w.heap.size + 2 < g5 := by omega
      rw [← hg5e] at hown hne hg5 hBz hbA3 hbB3 hbZ3 ⊢
      generalize (w3.alloc (Obj.cells #[.int .i64 0, .slice none 0 0] 39)).setRow g5 #[.int .i64 cn, .slice a3 qs.length c3] = wz at *
      clear hg HS2 HS1 hg5e hown3 hB3 hs3 hrow1 HS0 hB hbA hbB hbZ k0 k9 hP hk3
      have hcapn : qs.length ≤ c3 ∧ c3 ≤ maxLen := by
        rcases hown.2 with ⟨h, h2⟩ | ⟨g, cap, cur, hv, _, _, hc1, hc2, _⟩
        · injection h with _ h3 h4; rw [h3, h4]; exact ⟨Nat.le_refl _, by unfold maxLen; omega⟩
        · injection hv with _ _ h4; rw [h4]; exact ⟨hc1, hc2⟩
      have HIN := Lib.hid (And.intro hbA3 (And.intro hbB3 (And.intro hbZ3 (And.intro hg5 (And.intro hBz hown)))))
      clear hbA3 hbB3 hbZ3 hg5 hBz hown
      go_wp2_with fail
      go_loopw [8, 30] (fun _ j wr => ∃ k : Nat, k ≤ ps.length ∧ j = .int .i64 k ∧ Blk wr w.heap.size 39 #[.int .i64 m1, .slice a1 ps.length k1] ∧ Blk wr (w.heap.size + 1) 39 #[.int .i64 m2, .slice a2 qs.length k2] ∧ Blk wr (w.heap.size + 1 + 1) 39 #[.int .i64 0, .slice none 0 0] ∧ Blk wr g5 39 #[.int .i64 cn, .slice a3 qs.length c3] ∧ Below w.heap.size w wr ∧
        wr.ownsRow (w.heap.size + 3) 46 5 (.slice a3 qs.length c3) qs.length (partsC ((List.range qs.length).map (mergeF ps qs k)))) (fun _ j _ => ps.length - (intOf j).toNat)
      case atStart =>
        obtain ⟨x1, x2, x3, x4, x5, x6⟩ := HIN.out
        exact ⟨0, by omega, rfl, x1, x2, x3, x4, x5, by rw [mergeF_zero, HLEN.out, range_getD]; exact x6⟩
      case round =>
        obtain ⟨k, hk, rfl, hA, hBb, hZ, hG, hB, hO⟩ := hrel
        by_cases hlt : k < ps.length
        · have d1 : decide ((k : Int) < ps.length) = true := by simp; omega
          have d2 : decide (k < ps.length) = true := by simp; omega
          rcases hO.2 with ⟨h, h2⟩ | ⟨g, cap, cur, hv2, hgb, hgh, hgc1, hgc2, hgs, hgt⟩
          · omega
          injection hv2 with e1 e2 e3
          subst e1 e3
          have hgne : g ≠ g5 := hne g rfl
          have hPA : PartAt cur qs.length (mergeF ps qs k) := by
            have h1 := PartAt.of ((List.range qs.length).map (mergeF ps qs k)) cur (by simpa using hgt)
            intro i r hi hr
            have := h1 i r (by simpa using hi) hr
            simpa [List.getD_eq_getElem?_getD, hi] using this
          have hC : Blk wr g 46 cur := hgh
          have hkp : k < ps.length := by omega
          have hkq : k < qs.length := by omega
          have hkl : k < qs.length := by omega
          obtain ⟨b1, o1, rfl, hbl1, hcl1⟩ := HC1.out (by omega)
          obtain ⟨b2, o2, rfl, hbl2, hcl2⟩ := HC2.out (by omega)
          obtain ⟨p, hp⟩ : ∃ p, ps.getD k zeroP = p := ⟨_, rfl⟩
          obtain ⟨q, hq⟩ : ∃ q, qs.getD k zeroP = q := ⟨_, rfl⟩
          have l1 : ∀ w', Below w.heap.size w w' → ∀ j, j < 5 → w'.cell? ⟨b1, o1 + k * 5 + j, none⟩ = (#[Value.bool p.any, .int .i64 (hiW p.sum), .int .u64 (loW p.sum), .int .i64 p.mn, .int .i64 p.mx])[j]? := fun w' hB' j hj => by
            rw [hB'.cell (by exact hbl1), hcl1 k j hkp hj, hp]; rfl
          have l2 : ∀ w', Below w.heap.size w w' → ∀ j, j < 5 → w'.cell? ⟨b2, o2 + k * 5 + j, none⟩ = (#[Value.bool q.any, .int .i64 (hiW q.sum), .int .u64 (loW q.sum), .int .i64 q.mn, .int .i64 q.mx])[j]? := fun w' hB' j hj => by
            rw [hB'.cell (by exact hbl2), hcl2 k j hkq hj, hq]; rfl
          have hlw : w.heap.size + 1 + 1 < wr.heap.size := Blk.lt hZ
          have hlG := Blk.lt hG
          have hlC := Blk.lt hC
          have ca : wr.cell? ⟨w.heap.size, 1, none⟩ = some (.slice (some ⟨b1, o1, none⟩) ps.length k1) := Blk.cell hA 1
          have cb : wr.cell? ⟨w.heap.size + 1, 1, none⟩ = some (.slice (some ⟨b2, o2, none⟩) qs.length k2) := Blk.cell hBb 1
          have cg : wr.cell? ⟨g5, 1, none⟩ = some (.slice (some ⟨g, 0, none⟩) qs.length c3) := Blk.cell hG 1
          have HPQ := Lib.hid (And.intro hp hq)
          have HL1 := Lib.hid l1
          have HL2 := Lib.hid l2
          have HPA := Lib.hid hPA
          have hkP : (k : Int) < ps.length := by omega
          have hkQ : (k : Int) < qs.length := by omega
          have hkL : (k : Int) < qs.length := by omega
          clear hcl1 hcl2 l1 l2 hPA hp hq hO hgh hgt
          go_wp2_with fail
          refine hp_start (fun w' => Below (w.heap.size + 3) wr w' ∧ w'.cell? ⟨g5, 1, none⟩ = some (.slice (some ⟨g, 0, none⟩) qs.length c3)) 16 rfl (by kernel_rfl) (fun c a a' w hd h => ⟨hd ▸ h.1, h.2⟩) (fun hP => ?_)
          rw [show Array.replicate 16 false = #[false, false, false, false, false, false, false, false, false, false, false, false, false, false, false, false] from rfl]
          have HS0 : Below (w.heap.size + 3) wr wr.drew ∧ wr.drew.cell? ⟨g5, 1, none⟩ = some (.slice (some ⟨g, 0, none⟩) qs.length c3) := ⟨(Below.refl _ _).drew, cg⟩
          refine hp_take hP 0 (some 33) _ rfl rfl (by kernel_rfl) rfl (fun w' hS' => by go_simp; rfl) HS0 ?_
          simp only [Act.put, List.setIfInBounds_toArray, List.set_cons_zero, List.set_cons_succ]
          refine hp_take hP 1 (some 34) _ rfl rfl (by kernel_rfl) rfl (fun w' hS' => by have cc := hS'.2; go_simp; rfl) HS0 ?_
          simp only [Act.put, List.setIfInBounds_toArray, List.set_cons_zero, List.set_cons_succ]
          refine hp_take hP 2 (some 35) _ rfl rfl (by kernel_rfl) rfl (fun w' hS' => by go_simp; rfl) HS0 ?_
          simp only [Act.put, List.setIfInBounds_toArray, List.set_cons_zero, List.set_cons_succ]
          refine hp_take hP 3 (some 36) _ rfl rfl (by kernel_rfl) rfl (fun w' hS' => by go_simp; rfl) HS0 ?_
          simp only [Act.put, List.setIfInBounds_toArray, List.set_cons_zero, List.set_cons_succ]
          refine hp_take hP 4 (some 37) _ rfl rfl (by kernel_rfl) rfl (fun w' hS' => by have cc := (hS'.1.cell (show w.heap.size < w.heap.size + 3 by omega)).trans ca; go_simp; rfl) HS0 ?_
          simp only [Act.put, List.setIfInBounds_toArray, List.set_cons_zero, List.set_cons_succ]
          refine hp_take hP 5 (some 38) _ rfl rfl (by kernel_rfl) rfl (fun w' hS' => by go_simp; rfl) HS0 ?_
          simp only [Act.put, List.setIfInBounds_toArray, List.set_cons_zero, List.set_cons_succ]
          refine hp_take hP 6 (some 39) _ rfl rfl (by kernel_rfl) rfl (fun w' hS' => by go_simp; rfl) HS0 ?_
          simp only [Act.put, List.setIfInBounds_toArray, List.set_cons_zero, List.set_cons_succ]
          refine hp_load_at hP 7 (some 40) rfl rfl (by kernel_rfl) rfl 46 _ rfl b1 (o1 + k * 5) rfl #[.bool p.any, .int .i64 (hiW p.sum), .int .u64 (loW p.sum), .int .i64 p.mn, .int .i64 p.mx] _ (fun w' hS' j hj => HL1.out w' (hB.trans (hS'.1.mono (by omega))) j hj) Try.underlying46 rfl info46s HS0 ?_
          simp only [Act.put, List.setIfInBounds_toArray, List.set_cons_zero, List.set_cons_succ]
          refine hp_take hP 8 (some 41) _ rfl rfl (by kernel_rfl) rfl (fun w' hS' => by go_simp; rfl) HS0 ?_
          simp only [Act.put, List.setIfInBounds_toArray, List.set_cons_zero, List.set_cons_succ]
          refine hp_take hP 9 (some 42) _ rfl rfl (by kernel_rfl) rfl (fun w' hS' => by have cc := (hS'.1.cell (show w.heap.size + 1 < w.heap.size + 3 by omega)).trans cb; go_simp; rfl) HS0 ?_
          simp only [Act.put, List.setIfInBounds_toArray, List.set_cons_zero, List.set_cons_succ]
          refine hp_take hP 10 (some 43) _ rfl rfl (by kernel_rfl) rfl (fun w' hS' => by go_simp; rfl) HS0 ?_
          simp only [Act.put, List.setIfInBounds_toArray, List.set_cons_zero, List.set_cons_succ]
          refine hp_take hP 11 (some 44) _ rfl rfl (by kernel_rfl) rfl (fun w' hS' => by go_simp; rfl) HS0 ?_
          simp only [Act.put, List.setIfInBounds_toArray, List.set_cons_zero, List.set_cons_succ]
          refine hp_load_at hP 12 (some 45) rfl rfl (by kernel_rfl) rfl 46 _ rfl b2 (o2 + k * 5) rfl #[.bool q.any, .int .i64 (hiW q.sum), .int .u64 (loW q.sum), .int .i64 q.mn, .int .i64 q.mx] _ (fun w' hS' j hj => HL2.out w' (hB.trans (hS'.1.mono (by omega))) j hj) Try.underlying46 rfl info46s HS0 ?_
          simp only [Act.put, List.setIfInBounds_toArray, List.set_cons_zero, List.set_cons_succ]
          refine hp_call 13 (some 46) rfl rfl (by kernel_rfl) rfl 43 #[.agg #[.bool p.any, .int .i64 (hiW p.sum), .int .u64 (loW p.sum), .int .i64 p.mn, .int .i64 p.mx], .agg #[.bool q.any, .int .i64 (hiW q.sum), .int .u64 (loW q.sum), .int .i64 q.mn, .int .i64 q.mx]] (by go_simp) ((part43 p q _).mono ?_)
          rintro e w6 ⟨rfl, hB6⟩
          have hG6 := Blk.below (Blk.drew hG) hB6 (by have e : wr.drew.heap.size = wr.heap.size := rfl; omega)
          have HS1 : Below (w.heap.size + 3) wr w6 ∧ w6.cell? ⟨g5, 1, none⟩ = some (.slice (some ⟨g, 0, none⟩) qs.length c3) := ⟨HS0.1.trans (hB6.mono (by have e : wr.drew.heap.size = wr.heap.size := rfl; omega)), Blk.cell hG6 1⟩
          refine ⟨_, rfl, HS1, ?_⟩
          unfold partV
          simp only [Act.put, List.setIfInBounds_toArray, List.set_cons_zero, List.set_cons_succ]
          refine hp_take hP 14 (some 47) _ rfl rfl (by kernel_rfl) rfl (fun w' hS' => by go_simp; rfl) HS1 ?_
          simp only [Act.put, List.setIfInBounds_toArray, List.set_cons_zero, List.set_cons_succ]
          obtain ⟨x, hx⟩ : ∃ x, bothP p q = x := ⟨_, rfl⟩
          rw [hx]
          have hC6 := Blk.below (Blk.drew hC) hB6 (by have e : wr.drew.heap.size = wr.heap.size := rfl; omega)
          refine hp_none 15 rfl rfl (by kernel_rfl) rfl _ (exec_store_mid 46 _ _ rfl g (k * 5) #[.bool x.any, .int .i64 (hiW x.sum), .int .u64 (loW x.sum), .int .i64 x.mn, .int .i64 x.mx] (by rfl) (by rfl) 46 cur hC6 info46s (by show k * 5 + 5 ≤ cur.size; rw [hgs]; omega) (by simp [Value.oneCell'])) (by exact ⟨Below.setRow HS1.1 hgb _, Blk.cell (Blk.otherRow hG6 (fun e => hgne e.symm)) 1⟩) ?_
          simp only [Act.put, List.setIfInBounds_toArray, List.set_cons_zero, List.set_cons_succ]
          refine hk_done (by kernel_rfl) ?_
          have hA7 := fun cs => Blk.otherRow (cs' := cs) (Blk.below (Blk.drew hA) hB6 (by have e : wr.drew.heap.size = wr.heap.size := rfl; omega)) (show w.heap.size ≠ g by omega)
          have hBb7 := fun cs => Blk.otherRow (cs' := cs) (Blk.below (Blk.drew hBb) hB6 (by have e : wr.drew.heap.size = wr.heap.size := rfl; omega)) (show w.heap.size + 1 ≠ g by omega)
          have hZ7 := fun cs => Blk.otherRow (cs' := cs) (Blk.below (Blk.drew hZ) hB6 (by have e : wr.drew.heap.size = wr.heap.size := rfl; omega)) (show w.heap.size + 1 + 1 ≠ g by omega)
          have hG7 := fun cs => Blk.otherRow (cs' := cs) hG6 (fun e => hgne e.symm)
          have hB7 := fun cs => hB.trans ((Below.setRow HS1.1 hgb cs).mono (by omega))
          have hC7 := fun cs => Blk.setRow (cs' := cs) hC6
          obtain ⟨nw, hnw⟩ : ∃ nw, nw = (cur.toList.take (k * 5) ++ (#[Value.bool x.any, .int .i64 (hiW x.sum), .int .u64 (loW x.sum), .int .i64 x.mn, .int .i64 x.mx]).toList ++ cur.toList.drop (k * 5 + (#[Value.bool x.any, .int .i64 (hiW x.sum), .int .u64 (loW x.sum), .int .i64 x.mn, .int .i64 x.mx]).size)).toArray := ⟨_, rfl⟩
          rw [← hnw]
          have hszc : k * 5 + 5 ≤ cur.size := by rw [hgs]; omega
          have hns : nw.size = c3 * 5 := by rw [hnw]; simp; omega
          have hnk : ∀ r, r < 5 → nw[k * 5 + r]? = (partC x)[r]? := by
            intro r hr
            rw [hnw, List.getElem?_toArray, List.append_assoc, List.getElem?_append_right (by simp; omega), List.getElem?_append_left (by simp; omega)]
            rw [show k * 5 + r - (cur.toList.take (k * 5)).length = r by simp; omega]
            rfl
          have hno : ∀ j, (j < k * 5 ∨ k * 5 + 5 ≤ j) → nw[j]? = cur[j]? := by
            intro j hj
            rw [hnw, List.getElem?_toArray]
            rcases hj with hj | hj
            · rw [List.append_assoc, List.getElem?_append_left (by simp; omega), List.getElem?_take, if_pos hj]; simp
            · rw [List.getElem?_append_right (by simp; omega), List.getElem?_drop]
              rw [show k * 5 + (#[Value.bool x.any, .int .i64 (hiW x.sum), .int .u64 (loW x.sum), .int .i64 x.mn, .int .i64 x.mx]).size + (j - (cur.toList.take (k * 5) ++ (#[Value.bool x.any, .int .i64 (hiW x.sum), .int .u64 (loW x.sum), .int .i64 x.mn, .int .i64 x.mx]).toList).length) = j by simp; omega]
              simp
          have hP7 : PartAt nw qs.length (mergeF ps qs (k + 1)) := by
            rw [mergeF_step, HPQ.out.1, HPQ.out.2, hx]
            exact PartAt.set HPA.out k _ hno hnk
          have hA7 := hA7 nw
          have hBb7 := hBb7 nw
          have hZ7 := hZ7 nw
          have hG7 := hG7 nw
          have hB7 := hB7 nw
          have hC7 := hC7 nw
          have HP7 := Lib.hid hP7
          generalize w6.setRow g nw = w7 at *
          clear hnw hnk hno hP7 HS0 HS1 hA hBb hZ hG hB hC hC6 hG6 hB6 hP ca cb cg hx
          go_wp2_with fail
          go_roundw
          case rel =>
            refine ⟨k + 1, by omega, by go_num, hA7, hBb7, hZ7, hG7, hB7, ⟨by rw [partsC_len]; simp, .inr ⟨g, c3, nw, rfl, hgb, hC7, hgc1, hgc2, hns, ?_⟩⟩⟩
            exact PartAt.to _ nw qs.length _ (by simp) (by omega) HP7.out (fun i hi => by simp [List.getD_eq_getElem?_getD, hi])
          case measure => simp [intOf]; omega
        · have d1 : decide ((k : Int) < ps.length) = false := by simp; omega
          have d2 : decide (k < ps.length) = false := by simp; omega
          have hks : k = ps.length := by omega
          have hmin : min ps.length qs.length = k := by omega
          have HMIN := Lib.hid hmin
          have HO := Lib.hid hO
          have lg := Blk.cell hG
          clear hlt hks hmin hO
          go_wp2_with (first | (refine wpList_load_at rfl 39 _ rfl g5 0 rfl #[.int .i64 cn, .slice a3 qs.length c3] _ (fun j hj => by rw [Nat.zero_add]; exact Blk.cell hG j) Try.underlying39 rfl info39 ?_) | (refine wpList_store_row rfl 39 _ _ rfl (w.heap.size + 1 + 1) #[.int .i64 cn, .slice a3 qs.length c3] rfl rfl 39 _ hZ info39 rfl (by simp [Value.oneCell']) ?_))
          refine bodyPost_ret (results_cell_row rfl _ _ (w.heap.size + 1 + 1) 39 _ (0, 0) _ rfl (Blk.setRow hZ) Try.underlying39 rfl info39) rfl ?_
          have e : mergeL ps qs = (List.range qs.length).map (mergeF ps qs k) := by unfold mergeL; rw [HLEN.out, HMIN.out]
          refine ⟨.slice a3 qs.length c3, by rw [← HCN.out, IntWalk.i64_left], ?_, Below.setRow hB (by omega) _⟩
          rw [e]
          refine owns_base (base := w.heap.size + 3) ?_ (by omega)
          refine ⟨HO.out.1, ?_⟩
          rcases HO.out.2 with h | ⟨g, cap, cur, hv, hg, hh, r⟩
          · exact .inl h
          · exact .inr ⟨g, cap, cur, hv, hg, (setRow_other _ (w.heap.size + 1 + 1) g _ (by omega)).trans hh, r⟩
    · have HS1 : Below (w.heap.size + 2) w2 (w2.drew.alloc (Obj.cells #[.int .i64 0, .slice none 0 0] 39)) := HS0.alloc (by have e : w2.drew.heap.size = w2.heap.size := rfl; omega) _
      refine wpOp_val 8 (some 7) rfl rfl rfl (.pointer (some ⟨w2.heap.size, 0, none⟩)) (w2.drew.alloc (Obj.cells #[.int .i64 0, .slice none 0 0] 39)) (by go_simp) ⟨HS1, ?_⟩
      simp only [Act.put, List.setIfInBounds_toArray, List.set_cons_zero, List.set_cons_succ]
      refine hp_call 6 (some 26) rfl rfl (by kernel_rfl) rfl 42 #[.slice a2 qs.length k2] (by go_simp) ((clone42 (.slice a2 qs.length k2) qs.length (partsC qs) _ (Row.mono hrow1 (Below.al (Below.refl _ _) _) (by simp)) HV2.out (partsC_one qs) hb2).mono ?_)
      rintro e w3 ⟨v3, rfl, hown3, hB3⟩
      have HS2 : Below (w.heap.size + 2) w2 w3 := HS1.trans (hB3.mono (by simp; have e : w2.drew.heap.size = w2.heap.size := rfl; omega))
      refine ⟨_, rfl, HS2, ?_⟩
      simp only [Act.put, List.setIfInBounds_toArray, List.set_cons_zero, List.set_cons_succ]
      obtain ⟨a3, c3, rfl⟩ := owns_form hown3
      refine hp_take hP 7 (some 27) _ rfl rfl (by kernel_rfl) rfl (fun w' hS' => by go_simp; rfl) HS2 ?_
      simp only [Act.put, List.setIfInBounds_toArray, List.set_cons_zero, List.set_cons_succ]
      have hg : Blk w3 w2.heap.size 39 #[.int .i64 0, .slice none 0 0] := Blk.below (Blk.newAt w2.drew 39 _ rfl) hB3 (by simp)
      have hs3 : w2.heap.size + 1 ≤ w3.heap.size := by have := hB3.size; simpa using this
      refine hp_store_row 9 rfl rfl (by kernel_rfl) rfl 39 _ _ rfl w2.heap.size #[.int .i64 cn, .slice a3 qs.length c3] rfl rfl 39 _ hg info39 rfl (by simp [Value.oneCell']) (Below.setRow HS2 (by omega) _) ?_
      simp only [List.setIfInBounds_toArray, List.set_cons_zero, List.set_cons_succ]
      refine hk_done (by kernel_rfl) ?_
      have hne : ∀ g, (Value.slice a3 qs.length c3).ownBlock = some g → g ≠ w2.heap.size := fun g hg => by have := (hown3.lt g hg).1; simp at this; have e : w2.drew.heap.size = w2.heap.size := rfl; omega
      have hown : (w3.setRow w2.heap.size #[.int .i64 cn, .slice a3 qs.length c3]).ownsRow w2.heap.size 46 5 (.slice a3 qs.length c3) qs.length (partsC qs) := by
        refine ⟨hown3.1, ?_⟩
        rcases hown3.2 with h | ⟨g, cap, cur, hv, hg, hh, r⟩
        · exact .inl h
        · refine .inr ⟨g, cap, cur, hv, by simp at hg; have e : w2.drew.heap.size = w2.heap.size := rfl; omega, ?_, r⟩
          exact (setRow_other w3 w2.heap.size g _ (hne g (by rw [hv]; rfl))).trans hh
      have hg5 := Blk.setRow (cs' := #[.int .i64 cn, .slice a3 qs.length c3]) hg
      have hBz := hB.trans ((Below.setRow HS2 (show w.heap.size + 2 ≤ w2.heap.size by omega) #[.int .i64 cn, .slice a3 qs.length c3]).mono (by omega))
      have hk3 : ∀ b T cs, b < w2.heap.size → Blk w2 b T cs → Blk (w3.setRow w2.heap.size #[.int .i64 cn, .slice a3 qs.length c3]) b T cs := fun b T cs hlt hb =>
        Blk.otherRow (Blk.below ((Blk.drew hb).alloc _) hB3 (by simp; have e : w2.drew.heap.size = w2.heap.size := rfl; omega)) (by omega)
      obtain ⟨g5, hg5e⟩ : ∃ g, g = w2.heap.size := ⟨_, rfl⟩
      have hbA3 := hk3 _ _ _ (by omega) hbA
      have hbB3 := hk3 _ _ _ (by omega) hbB
      have hbZ3 := hk3 _ _ _ (by omega) hbZ
      have hown := owns_base hown (show w.heap.size + 3 ≤ w2.heap.size by omega)
      have hg5l : w.heap.size + 2 < g5 := by omega
      rw [← hg5e] at hown hne hg5 hBz hbA3 hbB3 hbZ3 ⊢
      generalize w3.setRow g5 #[.int .i64 cn, .slice a3 qs.length c3] = wz at *
      clear hg HS2 HS1 hg5e hown3 hB3 hs3 hrow1 HS0 hB hbA hbB hbZ k0 k9 hP hk3
      have hcapn : qs.length ≤ c3 ∧ c3 ≤ maxLen := by
        rcases hown.2 with ⟨h, h2⟩ | ⟨g, cap, cur, hv, _, _, hc1, hc2, _⟩
        · injection h with _ h3 h4; rw [h3, h4]; exact ⟨Nat.le_refl _, by unfold maxLen; omega⟩
        · injection hv with _ _ h4; rw [h4]; exact ⟨hc1, hc2⟩
      have HIN := Lib.hid (And.intro hbA3 (And.intro hbB3 (And.intro hbZ3 (And.intro hg5 (And.intro hBz hown)))))
      clear hbA3 hbB3 hbZ3 hg5 hBz hown
      go_wp2_with fail
      go_loopw [8, 30] (fun _ j wr => ∃ k : Nat, k ≤ ps.length ∧ j = .int .i64 k ∧ Blk wr w.heap.size 39 #[.int .i64 m1, .slice a1 ps.length k1] ∧ Blk wr (w.heap.size + 1) 39 #[.int .i64 m2, .slice a2 qs.length k2] ∧ Blk wr (w.heap.size + 1 + 1) 39 #[.int .i64 0, .slice none 0 0] ∧ Blk wr g5 39 #[.int .i64 cn, .slice a3 qs.length c3] ∧ Below w.heap.size w wr ∧
        wr.ownsRow (w.heap.size + 3) 46 5 (.slice a3 qs.length c3) qs.length (partsC ((List.range qs.length).map (mergeF ps qs k)))) (fun _ j _ => ps.length - (intOf j).toNat)
      case atStart =>
        obtain ⟨x1, x2, x3, x4, x5, x6⟩ := HIN.out
        exact ⟨0, by omega, rfl, x1, x2, x3, x4, x5, by rw [mergeF_zero, HLEN.out, range_getD]; exact x6⟩
      case round =>
        obtain ⟨k, hk, rfl, hA, hBb, hZ, hG, hB, hO⟩ := hrel
        by_cases hlt : k < ps.length
        · have d1 : decide ((k : Int) < ps.length) = true := by simp; omega
          have d2 : decide (k < ps.length) = true := by simp; omega
          rcases hO.2 with ⟨h, h2⟩ | ⟨g, cap, cur, hv2, hgb, hgh, hgc1, hgc2, hgs, hgt⟩
          · omega
          injection hv2 with e1 e2 e3
          subst e1 e3
          have hgne : g ≠ g5 := hne g rfl
          have hPA : PartAt cur qs.length (mergeF ps qs k) := by
            have h1 := PartAt.of ((List.range qs.length).map (mergeF ps qs k)) cur (by simpa using hgt)
            intro i r hi hr
            have := h1 i r (by simpa using hi) hr
            simpa [List.getD_eq_getElem?_getD, hi] using this
          have hC : Blk wr g 46 cur := hgh
          have hkp : k < ps.length := by omega
          have hkq : k < qs.length := by omega
          have hkl : k < qs.length := by omega
          obtain ⟨b1, o1, rfl, hbl1, hcl1⟩ := HC1.out (by omega)
          obtain ⟨b2, o2, rfl, hbl2, hcl2⟩ := HC2.out (by omega)
          obtain ⟨p, hp⟩ : ∃ p, ps.getD k zeroP = p := ⟨_, rfl⟩
          obtain ⟨q, hq⟩ : ∃ q, qs.getD k zeroP = q := ⟨_, rfl⟩
          have l1 : ∀ w', Below w.heap.size w w' → ∀ j, j < 5 → w'.cell? ⟨b1, o1 + k * 5 + j, none⟩ = (#[Value.bool p.any, .int .i64 (hiW p.sum), .int .u64 (loW p.sum), .int .i64 p.mn, .int .i64 p.mx])[j]? := fun w' hB' j hj => by
            rw [hB'.cell (by exact hbl1), hcl1 k j hkp hj, hp]; rfl
          have l2 : ∀ w', Below w.heap.size w w' → ∀ j, j < 5 → w'.cell? ⟨b2, o2 + k * 5 + j, none⟩ = (#[Value.bool q.any, .int .i64 (hiW q.sum), .int .u64 (loW q.sum), .int .i64 q.mn, .int .i64 q.mx])[j]? := fun w' hB' j hj => by
            rw [hB'.cell (by exact hbl2), hcl2 k j hkq hj, hq]; rfl
          have hlw : w.heap.size + 1 + 1 < wr.heap.size := Blk.lt hZ
          have hlG := Blk.lt hG
          have hlC := Blk.lt hC
          have ca : wr.cell? ⟨w.heap.size, 1, none⟩ = some (.slice (some ⟨b1, o1, none⟩) ps.length k1) := Blk.cell hA 1
          have cb : wr.cell? ⟨w.heap.size + 1, 1, none⟩ = some (.slice (some ⟨b2, o2, none⟩) qs.length k2) := Blk.cell hBb 1
          have cg : wr.cell? ⟨g5, 1, none⟩ = some (.slice (some ⟨g, 0, none⟩) qs.length c3) := Blk.cell hG 1
          have HPQ := Lib.hid (And.intro hp hq)
          have HL1 := Lib.hid l1
          have HL2 := Lib.hid l2
          have HPA := Lib.hid hPA
          have hkP : (k : Int) < ps.length := by omega
          have hkQ : (k : Int) < qs.length := by omega
          have hkL : (k : Int) < qs.length := by omega
          clear hcl1 hcl2 l1 l2 hPA hp hq hO hgh hgt
          go_wp2_with fail
          refine hp_start (fun w' => Below (w.heap.size + 3) wr w' ∧ w'.cell? ⟨g5, 1, none⟩ = some (.slice (some ⟨g, 0, none⟩) qs.length c3)) 16 rfl (by kernel_rfl) (fun c a a' w hd h => ⟨hd ▸ h.1, h.2⟩) (fun hP => ?_)
          rw [show Array.replicate 16 false = #[false, false, false, false, false, false, false, false, false, false, false, false, false, false, false, false] from rfl]
          have HS0 : Below (w.heap.size + 3) wr wr.drew ∧ wr.drew.cell? ⟨g5, 1, none⟩ = some (.slice (some ⟨g, 0, none⟩) qs.length c3) := ⟨(Below.refl _ _).drew, cg⟩
          refine hp_take hP 0 (some 33) _ rfl rfl (by kernel_rfl) rfl (fun w' hS' => by go_simp; rfl) HS0 ?_
          simp only [Act.put, List.setIfInBounds_toArray, List.set_cons_zero, List.set_cons_succ]
          refine hp_take hP 1 (some 34) _ rfl rfl (by kernel_rfl) rfl (fun w' hS' => by have cc := hS'.2; go_simp; rfl) HS0 ?_
          simp only [Act.put, List.setIfInBounds_toArray, List.set_cons_zero, List.set_cons_succ]
          refine hp_take hP 2 (some 35) _ rfl rfl (by kernel_rfl) rfl (fun w' hS' => by go_simp; rfl) HS0 ?_
          simp only [Act.put, List.setIfInBounds_toArray, List.set_cons_zero, List.set_cons_succ]
          refine hp_take hP 3 (some 36) _ rfl rfl (by kernel_rfl) rfl (fun w' hS' => by go_simp; rfl) HS0 ?_
          simp only [Act.put, List.setIfInBounds_toArray, List.set_cons_zero, List.set_cons_succ]
          refine hp_take hP 4 (some 37) _ rfl rfl (by kernel_rfl) rfl (fun w' hS' => by have cc := (hS'.1.cell (show w.heap.size < w.heap.size + 3 by omega)).trans ca; go_simp; rfl) HS0 ?_
          simp only [Act.put, List.setIfInBounds_toArray, List.set_cons_zero, List.set_cons_succ]
          refine hp_take hP 5 (some 38) _ rfl rfl (by kernel_rfl) rfl (fun w' hS' => by go_simp; rfl) HS0 ?_
          simp only [Act.put, List.setIfInBounds_toArray, List.set_cons_zero, List.set_cons_succ]
          refine hp_take hP 6 (some 39) _ rfl rfl (by kernel_rfl) rfl (fun w' hS' => by go_simp; rfl) HS0 ?_
          simp only [Act.put, List.setIfInBounds_toArray, List.set_cons_zero, List.set_cons_succ]
          refine hp_load_at hP 7 (some 40) rfl rfl (by kernel_rfl) rfl 46 _ rfl b1 (o1 + k * 5) rfl #[.bool p.any, .int .i64 (hiW p.sum), .int .u64 (loW p.sum), .int .i64 p.mn, .int .i64 p.mx] _ (fun w' hS' j hj => HL1.out w' (hB.trans (hS'.1.mono (by omega))) j hj) Try.underlying46 rfl info46s HS0 ?_
          simp only [Act.put, List.setIfInBounds_toArray, List.set_cons_zero, List.set_cons_succ]
          refine hp_take hP 8 (some 41) _ rfl rfl (by kernel_rfl) rfl (fun w' hS' => by go_simp; rfl) HS0 ?_
          simp only [Act.put, List.setIfInBounds_toArray, List.set_cons_zero, List.set_cons_succ]
          refine hp_take hP 9 (some 42) _ rfl rfl (by kernel_rfl) rfl (fun w' hS' => by have cc := (hS'.1.cell (show w.heap.size + 1 < w.heap.size + 3 by omega)).trans cb; go_simp; rfl) HS0 ?_
          simp only [Act.put, List.setIfInBounds_toArray, List.set_cons_zero, List.set_cons_succ]
          refine hp_take hP 10 (some 43) _ rfl rfl (by kernel_rfl) rfl (fun w' hS' => by go_simp; rfl) HS0 ?_
          simp only [Act.put, List.setIfInBounds_toArray, List.set_cons_zero, List.set_cons_succ]
          refine hp_take hP 11 (some 44) _ rfl rfl (by kernel_rfl) rfl (fun w' hS' => by go_simp; rfl) HS0 ?_
          simp only [Act.put, List.setIfInBounds_toArray, List.set_cons_zero, List.set_cons_succ]
          refine hp_load_at hP 12 (some 45) rfl rfl (by kernel_rfl) rfl 46 _ rfl b2 (o2 + k * 5) rfl #[.bool q.any, .int .i64 (hiW q.sum), .int .u64 (loW q.sum), .int .i64 q.mn, .int .i64 q.mx] _ (fun w' hS' j hj => HL2.out w' (hB.trans (hS'.1.mono (by omega))) j hj) Try.underlying46 rfl info46s HS0 ?_
          simp only [Act.put, List.setIfInBounds_toArray, List.set_cons_zero, List.set_cons_succ]
          refine hp_call 13 (some 46) rfl rfl (by kernel_rfl) rfl 43 #[.agg #[.bool p.any, .int .i64 (hiW p.sum), .int .u64 (loW p.sum), .int .i64 p.mn, .int .i64 p.mx], .agg #[.bool q.any, .int .i64 (hiW q.sum), .int .u64 (loW q.sum), .int .i64 q.mn, .int .i64 q.mx]] (by go_simp) ((part43 p q _).mono ?_)
          rintro e w6 ⟨rfl, hB6⟩
          have hG6 := Blk.below (Blk.drew hG) hB6 (by have e : wr.drew.heap.size = wr.heap.size := rfl; omega)
          have HS1 : Below (w.heap.size + 3) wr w6 ∧ w6.cell? ⟨g5, 1, none⟩ = some (.slice (some ⟨g, 0, none⟩) qs.length c3) := ⟨HS0.1.trans (hB6.mono (by have e : wr.drew.heap.size = wr.heap.size := rfl; omega)), Blk.cell hG6 1⟩
          refine ⟨_, rfl, HS1, ?_⟩
          unfold partV
          simp only [Act.put, List.setIfInBounds_toArray, List.set_cons_zero, List.set_cons_succ]
          refine hp_take hP 14 (some 47) _ rfl rfl (by kernel_rfl) rfl (fun w' hS' => by go_simp; rfl) HS1 ?_
          simp only [Act.put, List.setIfInBounds_toArray, List.set_cons_zero, List.set_cons_succ]
          obtain ⟨x, hx⟩ : ∃ x, bothP p q = x := ⟨_, rfl⟩
          rw [hx]
          have hC6 := Blk.below (Blk.drew hC) hB6 (by have e : wr.drew.heap.size = wr.heap.size := rfl; omega)
          refine hp_none 15 rfl rfl (by kernel_rfl) rfl _ (exec_store_mid 46 _ _ rfl g (k * 5) #[.bool x.any, .int .i64 (hiW x.sum), .int .u64 (loW x.sum), .int .i64 x.mn, .int .i64 x.mx] (by rfl) (by rfl) 46 cur hC6 info46s (by show k * 5 + 5 ≤ cur.size; rw [hgs]; omega) (by simp [Value.oneCell'])) (by exact ⟨Below.setRow HS1.1 hgb _, Blk.cell (Blk.otherRow hG6 (fun e => hgne e.symm)) 1⟩) ?_
          simp only [Act.put, List.setIfInBounds_toArray, List.set_cons_zero, List.set_cons_succ]
          refine hk_done (by kernel_rfl) ?_
          have hA7 := fun cs => Blk.otherRow (cs' := cs) (Blk.below (Blk.drew hA) hB6 (by have e : wr.drew.heap.size = wr.heap.size := rfl; omega)) (show w.heap.size ≠ g by omega)
          have hBb7 := fun cs => Blk.otherRow (cs' := cs) (Blk.below (Blk.drew hBb) hB6 (by have e : wr.drew.heap.size = wr.heap.size := rfl; omega)) (show w.heap.size + 1 ≠ g by omega)
          have hZ7 := fun cs => Blk.otherRow (cs' := cs) (Blk.below (Blk.drew hZ) hB6 (by have e : wr.drew.heap.size = wr.heap.size := rfl; omega)) (show w.heap.size + 1 + 1 ≠ g by omega)
          have hG7 := fun cs => Blk.otherRow (cs' := cs) hG6 (fun e => hgne e.symm)
          have hB7 := fun cs => hB.trans ((Below.setRow HS1.1 hgb cs).mono (by omega))
          have hC7 := fun cs => Blk.setRow (cs' := cs) hC6
          obtain ⟨nw, hnw⟩ : ∃ nw, nw = (cur.toList.take (k * 5) ++ (#[Value.bool x.any, .int .i64 (hiW x.sum), .int .u64 (loW x.sum), .int .i64 x.mn, .int .i64 x.mx]).toList ++ cur.toList.drop (k * 5 + (#[Value.bool x.any, .int .i64 (hiW x.sum), .int .u64 (loW x.sum), .int .i64 x.mn, .int .i64 x.mx]).size)).toArray := ⟨_, rfl⟩
          rw [← hnw]
          have hszc : k * 5 + 5 ≤ cur.size := by rw [hgs]; omega
          have hns : nw.size = c3 * 5 := by rw [hnw]; simp; omega
          have hnk : ∀ r, r < 5 → nw[k * 5 + r]? = (partC x)[r]? := by
            intro r hr
            rw [hnw, List.getElem?_toArray, List.append_assoc, List.getElem?_append_right (by simp; omega), List.getElem?_append_left (by simp; omega)]
            rw [show k * 5 + r - (cur.toList.take (k * 5)).length = r by simp; omega]
            rfl
          have hno : ∀ j, (j < k * 5 ∨ k * 5 + 5 ≤ j) → nw[j]? = cur[j]? := by
            intro j hj
            rw [hnw, List.getElem?_toArray]
            rcases hj with hj | hj
            · rw [List.append_assoc, List.getElem?_append_left (by simp; omega), List.getElem?_take, if_pos hj]; simp
            · rw [List.getElem?_append_right (by simp; omega), List.getElem?_drop]
              rw [show k * 5 + (#[Value.bool x.any, .int .i64 (hiW x.sum), .int .u64 (loW x.sum), .int .i64 x.mn, .int .i64 x.mx]).size + (j - (cur.toList.take (k * 5) ++ (#[Value.bool x.any, .int .i64 (hiW x.sum), .int .u64 (loW x.sum), .int .i64 x.mn, .int .i64 x.mx]).toList).length) = j by simp; omega]
              simp
          have hP7 : PartAt nw qs.length (mergeF ps qs (k + 1)) := by
            rw [mergeF_step, HPQ.out.1, HPQ.out.2, hx]
            exact PartAt.set HPA.out k _ hno hnk
          have hA7 := hA7 nw
          have hBb7 := hBb7 nw
          have hZ7 := hZ7 nw
          have hG7 := hG7 nw
          have hB7 := hB7 nw
          have hC7 := hC7 nw
          have HP7 := Lib.hid hP7
          generalize w6.setRow g nw = w7 at *
          clear hnw hnk hno hP7 HS0 HS1 hA hBb hZ hG hB hC hC6 hG6 hB6 hP ca cb cg hx
          go_wp2_with fail
          go_roundw
          case rel =>
            refine ⟨k + 1, by omega, by go_num, hA7, hBb7, hZ7, hG7, hB7, ⟨by rw [partsC_len]; simp, .inr ⟨g, c3, nw, rfl, hgb, hC7, hgc1, hgc2, hns, ?_⟩⟩⟩
            exact PartAt.to _ nw qs.length _ (by simp) (by omega) HP7.out (fun i hi => by simp [List.getD_eq_getElem?_getD, hi])
          case measure => simp [intOf]; omega
        · have d1 : decide ((k : Int) < ps.length) = false := by simp; omega
          have d2 : decide (k < ps.length) = false := by simp; omega
          have hks : k = ps.length := by omega
          have hmin : min ps.length qs.length = k := by omega
          have HMIN := Lib.hid hmin
          have HO := Lib.hid hO
          have lg := Blk.cell hG
          clear hlt hks hmin hO
          go_wp2_with (first | (refine wpList_load_at rfl 39 _ rfl g5 0 rfl #[.int .i64 cn, .slice a3 qs.length c3] _ (fun j hj => by rw [Nat.zero_add]; exact Blk.cell hG j) Try.underlying39 rfl info39 ?_) | (refine wpList_store_row rfl 39 _ _ rfl (w.heap.size + 1 + 1) #[.int .i64 cn, .slice a3 qs.length c3] rfl rfl 39 _ hZ info39 rfl (by simp [Value.oneCell']) ?_))
          refine bodyPost_ret (results_cell_row rfl _ _ (w.heap.size + 1 + 1) 39 _ (0, 0) _ rfl (Blk.setRow hZ) Try.underlying39 rfl info39) rfl ?_
          have e : mergeL ps qs = (List.range qs.length).map (mergeF ps qs k) := by unfold mergeL; rw [HLEN.out, HMIN.out]
          refine ⟨.slice a3 qs.length c3, by rw [← HCN.out, IntWalk.i64_left], ?_, Below.setRow hB (by omega) _⟩
          rw [e]
          refine owns_base (base := w.heap.size + 3) ?_ (by omega)
          refine ⟨HO.out.1, ?_⟩
          rcases HO.out.2 with h | ⟨g, cap, cur, hv, hg, hh, r⟩
          · exact .inl h
          · exact .inr ⟨g, cap, cur, hv, hg, (setRow_other _ (w.heap.size + 1 + 1) g _ (by omega)).trans hh, r⟩
  · have hlen : longL ps qs = ps := by unfold longL; rw [if_neg (by omega)]
    rw [hlen]
    have HLEN := Lib.hid hlen
    clear hlen
    go_enter Try.func29, Try.ntmps29
    go_upto_region 1 with (fail)
    obtain ⟨w1, hw1⟩ : ∃ w1, w1 = ((w.alloc (Obj.cells #[.int .i64 m1, .slice a1 ps.length k1] 39)).alloc (Obj.cells #[.int .i64 m2, .slice a2 qs.length k2] 39)).alloc (Obj.cells #[.int .i64 0, .slice none 0 0] 39) := ⟨_, rfl⟩
    have hbA : Blk w1 w.heap.size 39 #[.int .i64 m1, .slice a1 ps.length k1] := by rw [hw1]; exact ((Blk.newAt _ _ _ rfl).alloc _).alloc _
    have hbB : Blk w1 (w.heap.size + 1) 39 #[.int .i64 m2, .slice a2 qs.length k2] := by rw [hw1]; exact (Blk.newAt _ _ _ (by simp)).alloc _
    have hbZ : Blk w1 (w.heap.size + 1 + 1) 39 #[.int .i64 0, .slice none 0 0] := by rw [hw1]; exact Blk.newAt _ _ _ (by simp)
    have hB : Below w.heap.size w w1 := by rw [hw1]; exact Below.al (Below.al (Below.al (Below.refl _ _) _) _) _
    rw [← hw1]
    clear hw1
    have j1 : w1.cell? ⟨w.heap.size, 1, none⟩ = some (.slice a1 ps.length k1) := Blk.cell hbA 1
    have j2 : w1.cell? ⟨w.heap.size + 1, 1, none⟩ = some (.slice a2 qs.length k2) := Blk.cell hbB 1
    have dd : decide ((ps.length : Int) < (qs.length : Int)) = false := by simp; omega
    have de : decide (ps.length < qs.length) = false := by simp; omega
    go_quiet (fail)
    have hbA : Blk (w1.drewN nq) w.heap.size 39 #[.int .i64 m1, .slice a1 ps.length k1] := hbA
    have hbB : Blk (w1.drewN nq) (w.heap.size + 1) 39 #[.int .i64 m2, .slice a2 qs.length k2] := hbB
    have hbZ : Blk (w1.drewN nq) (w.heap.size + 1 + 1) 39 #[.int .i64 0, .slice none 0 0] := hbZ
    have hB : Below w.heap.size w (w1.drewN nq) := Below.drewN hB nq
    obtain ⟨w2, hw2⟩ : ∃ w2, w2 = w1.drewN nq := ⟨_, rfl⟩
    rw [← hw2] at hbA hbB hbZ hB ⊢
    clear hw2 j1 j2
    have hsA := Blk.lt hbZ
    have k0 : w2.cell? ⟨w.heap.size, 0, none⟩ = some (.int .i64 m1) := Blk.cell hbA 0
    have k9 : w2.cell? ⟨w.heap.size + 1, 0, none⟩ = some (.int .i64 m2) := Blk.cell hbB 0
    go_wp2_with fail
    refine hp_start (fun w' => Below (w.heap.size + 2) w2 w') 10 rfl (by kernel_rfl) (fun c a a' w hd h => ⟨hd ▸ h.1, h.2⟩) (fun hP => ?_)
    rw [show Array.replicate 10 false = #[false, false, false, false, false, false, false, false, false, false] from rfl]
    have HS0 : Below (w.heap.size + 2) w2 w2.drew := (Below.refl _ _).drew
    refine hp_take hP 0 (some 20) _ rfl rfl (by kernel_rfl) rfl (fun w' hS' => by go_simp; rfl) HS0 ?_
    simp only [Act.put, List.setIfInBounds_toArray, List.set_cons_zero, List.set_cons_succ]
    refine hp_take hP 1 (some 21) _ rfl rfl (by kernel_rfl) rfl (fun w' hS' => by have cc := (hS'.cell (show w.heap.size < w.heap.size + 2 by omega)).trans k0; go_simp; rfl) HS0 ?_
    simp only [Act.put, List.setIfInBounds_toArray, List.set_cons_zero, List.set_cons_succ]
    refine hp_take hP 2 (some 22) _ rfl rfl (by kernel_rfl) rfl (fun w' hS' => by go_simp; rfl) HS0 ?_
    simp only [Act.put, List.setIfInBounds_toArray, List.set_cons_zero, List.set_cons_succ]
    refine hp_take hP 3 (some 23) _ rfl rfl (by kernel_rfl) rfl (fun w' hS' => by have cc := (hS'.cell (show w.heap.size + 1 < w.heap.size + 2 by omega)).trans k9; go_simp; rfl) HS0 ?_
    simp only [Act.put, List.setIfInBounds_toArray, List.set_cons_zero, List.set_cons_succ]
    refine hp_take hP 4 (some 24) (.int .i64 cn) rfl rfl (by kernel_rfl) rfl (fun w' hS' => by have h2 := HCN.out; go_simp) HS0 ?_
    simp only [Act.put, List.setIfInBounds_toArray, List.set_cons_zero, List.set_cons_succ]
    refine hp_take hP 5 (some 25) _ rfl rfl (by kernel_rfl) rfl (fun w' hS' => by go_simp; rfl) HS0 ?_
    simp only [Act.put, List.setIfInBounds_toArray, List.set_cons_zero, List.set_cons_succ]
    have hrow1 : Row w2.drew.heap.size w2.drew (.slice a1 ps.length k1) ps.length 5 (partsC ps) := Row.mono H1.out (Below.drew hB) (by have e : w2.drew.heap.size = w2.heap.size := rfl; omega)
    refine hp_two 6 8 (by kernel_rfl) ?_ ?_
    · refine wpOp_call 6 (some 26) rfl rfl rfl 42 #[.slice a1 ps.length k1] (by go_simp) ((clone42 (.slice a1 ps.length k1) ps.length (partsC ps) _ hrow1 HV1.out (partsC_one ps) hb1).mono ?_)
      rintro e w3 ⟨v3, rfl, hown3, hB3⟩
      have HS1 : Below (w.heap.size + 2) w2 w3 := HS0.trans (hB3.mono (Nat.le_of_lt hsA))
      refine ⟨_, rfl, HS1, ?_⟩
      simp only [Act.put, List.setIfInBounds_toArray, List.set_cons_zero, List.set_cons_succ]
      obtain ⟨a3, c3, rfl⟩ := owns_form hown3
      refine hp_take hP 7 (some 27) _ rfl rfl (by kernel_rfl) rfl (fun w' hS' => by go_simp; rfl) HS1 ?_
      simp only [Act.put, List.setIfInBounds_toArray, List.set_cons_zero, List.set_cons_succ]
      have HS2 : Below (w.heap.size + 2) w2 (w3.alloc (Obj.cells #[.int .i64 0, .slice none 0 0] 39)) := HS1.alloc (by have := hB3.size; have e : w2.drew.heap.size = w2.heap.size := rfl; omega) _
      refine hp_val 8 (some 7) rfl rfl (by kernel_rfl) rfl (.pointer (some ⟨w3.heap.size, 0, none⟩)) (w3.alloc (Obj.cells #[.int .i64 0, .slice none 0 0] 39)) (by go_simp) HS2 ?_
      simp only [Act.put, List.setIfInBounds_toArray, List.set_cons_zero, List.set_cons_succ]
      have hg : Blk (w3.alloc (Obj.cells #[.int .i64 0, .slice none 0 0] 39)) w3.heap.size 39 #[.int .i64 0, .slice none 0 0] := Blk.newAt _ _ _ rfl
      have hs3 : w2.heap.size ≤ w3.heap.size := hB3.size
      refine hp_store_row 9 rfl rfl (by kernel_rfl) rfl 39 _ _ rfl w3.heap.size #[.int .i64 cn, .slice a3 ps.length c3] rfl rfl 39 _ hg info39 rfl (by simp [Value.oneCell']) (Below.setRow HS2 (by omega) _) ?_
      simp only [List.setIfInBounds_toArray, List.set_cons_zero, List.set_cons_succ]
      refine hk_done (by kernel_rfl) ?_
      have hown : ((w3.alloc (Obj.cells #[.int .i64 0, .slice none 0 0] 39)).setRow w3.heap.size #[.int .i64 cn, .slice a3 ps.length c3]).ownsRow w2.heap.size 46 5 (.slice a3 ps.length c3) ps.length (partsC ps) := owns_below hown3 (Below.setRow (Below.al (Below.refl _ _) _) (Nat.le_refl _) _) (Nat.le_refl _)
      have hne : ∀ g, (Value.slice a3 ps.length c3).ownBlock = some g → g ≠ w3.heap.size := fun g hg => by have := (hown3.lt g hg).2; omega
      have hg5 := Blk.setRow (cs' := #[.int .i64 cn, .slice a3 ps.length c3]) hg
      have hBz := hB.trans ((Below.setRow HS2 (show w.heap.size + 2 ≤ w3.heap.size by omega) #[.int .i64 cn, .slice a3 ps.length c3]).mono (by omega))
      have hk3 : ∀ b T cs, b < w2.heap.size → Blk w2 b T cs → Blk ((w3.alloc (Obj.cells #[.int .i64 0, .slice none 0 0] 39)).setRow w3.heap.size #[.int .i64 cn, .slice a3 ps.length c3]) b T cs := fun b T cs hlt hb =>
        Blk.otherRow ((Blk.below (Blk.drew hb) hB3 hlt).alloc _) (by omega)
      obtain ⟨g5, hg5e⟩ : ∃ g, g = w3.heap.size := ⟨_, rfl⟩
      have hbA3 := hk3 _ _ _ (by omega) hbA
      have hbB3 := hk3 _ _ _ (by omega) hbB
      have hbZ3 := hk3 _ _ _ (by omega) hbZ
      have hown := owns_base hown (show w.heap.size + 3 ≤ w2.heap.size by omega)
      have hg5l : w.heap.size + 2 < g5 := by omega
      rw [← hg5e] at hown hne hg5 hBz hbA3 hbB3 hbZ3 ⊢
      generalize (w3.alloc (Obj.cells #[.int .i64 0, .slice none 0 0] 39)).setRow g5 #[.int .i64 cn, .slice a3 ps.length c3] = wz at *
      clear hg HS2 HS1 hg5e hown3 hB3 hs3 hrow1 HS0 hB hbA hbB hbZ k0 k9 hP hk3
      have hcapn : ps.length ≤ c3 ∧ c3 ≤ maxLen := by
        rcases hown.2 with ⟨h, h2⟩ | ⟨g, cap, cur, hv, _, _, hc1, hc2, _⟩
        · injection h with _ h3 h4; rw [h3, h4]; exact ⟨Nat.le_refl _, by unfold maxLen; omega⟩
        · injection hv with _ _ h4; rw [h4]; exact ⟨hc1, hc2⟩
      have HIN := Lib.hid (And.intro hbA3 (And.intro hbB3 (And.intro hbZ3 (And.intro hg5 (And.intro hBz hown)))))
      clear hbA3 hbB3 hbZ3 hg5 hBz hown
      go_wp2_with fail
      go_loopw [8, 30] (fun _ j wr => ∃ k : Nat, k ≤ qs.length ∧ j = .int .i64 k ∧ Blk wr w.heap.size 39 #[.int .i64 m1, .slice a1 ps.length k1] ∧ Blk wr (w.heap.size + 1) 39 #[.int .i64 m2, .slice a2 qs.length k2] ∧ Blk wr (w.heap.size + 1 + 1) 39 #[.int .i64 0, .slice none 0 0] ∧ Blk wr g5 39 #[.int .i64 cn, .slice a3 ps.length c3] ∧ Below w.heap.size w wr ∧
        wr.ownsRow (w.heap.size + 3) 46 5 (.slice a3 ps.length c3) ps.length (partsC ((List.range ps.length).map (mergeF ps qs k)))) (fun _ j _ => qs.length - (intOf j).toNat)
      case atStart =>
        obtain ⟨x1, x2, x3, x4, x5, x6⟩ := HIN.out
        exact ⟨0, by omega, rfl, x1, x2, x3, x4, x5, by rw [mergeF_zero, HLEN.out, range_getD]; exact x6⟩
      case round =>
        obtain ⟨k, hk, rfl, hA, hBb, hZ, hG, hB, hO⟩ := hrel
        by_cases hlt : k < qs.length
        · have d1 : decide ((k : Int) < qs.length) = true := by simp; omega
          have d2 : decide (k < qs.length) = true := by simp; omega
          rcases hO.2 with ⟨h, h2⟩ | ⟨g, cap, cur, hv2, hgb, hgh, hgc1, hgc2, hgs, hgt⟩
          · omega
          injection hv2 with e1 e2 e3
          subst e1 e3
          have hgne : g ≠ g5 := hne g rfl
          have hPA : PartAt cur ps.length (mergeF ps qs k) := by
            have h1 := PartAt.of ((List.range ps.length).map (mergeF ps qs k)) cur (by simpa using hgt)
            intro i r hi hr
            have := h1 i r (by simpa using hi) hr
            simpa [List.getD_eq_getElem?_getD, hi] using this
          have hC : Blk wr g 46 cur := hgh
          have hkp : k < ps.length := by omega
          have hkq : k < qs.length := by omega
          have hkl : k < ps.length := by omega
          obtain ⟨b1, o1, rfl, hbl1, hcl1⟩ := HC1.out (by omega)
          obtain ⟨b2, o2, rfl, hbl2, hcl2⟩ := HC2.out (by omega)
          obtain ⟨p, hp⟩ : ∃ p, ps.getD k zeroP = p := ⟨_, rfl⟩
          obtain ⟨q, hq⟩ : ∃ q, qs.getD k zeroP = q := ⟨_, rfl⟩
          have l1 : ∀ w', Below w.heap.size w w' → ∀ j, j < 5 → w'.cell? ⟨b1, o1 + k * 5 + j, none⟩ = (#[Value.bool p.any, .int .i64 (hiW p.sum), .int .u64 (loW p.sum), .int .i64 p.mn, .int .i64 p.mx])[j]? := fun w' hB' j hj => by
            rw [hB'.cell (by exact hbl1), hcl1 k j hkp hj, hp]; rfl
          have l2 : ∀ w', Below w.heap.size w w' → ∀ j, j < 5 → w'.cell? ⟨b2, o2 + k * 5 + j, none⟩ = (#[Value.bool q.any, .int .i64 (hiW q.sum), .int .u64 (loW q.sum), .int .i64 q.mn, .int .i64 q.mx])[j]? := fun w' hB' j hj => by
            rw [hB'.cell (by exact hbl2), hcl2 k j hkq hj, hq]; rfl
          have hlw : w.heap.size + 1 + 1 < wr.heap.size := Blk.lt hZ
          have hlG := Blk.lt hG
          have hlC := Blk.lt hC
          have ca : wr.cell? ⟨w.heap.size, 1, none⟩ = some (.slice (some ⟨b1, o1, none⟩) ps.length k1) := Blk.cell hA 1
          have cb : wr.cell? ⟨w.heap.size + 1, 1, none⟩ = some (.slice (some ⟨b2, o2, none⟩) qs.length k2) := Blk.cell hBb 1
          have cg : wr.cell? ⟨g5, 1, none⟩ = some (.slice (some ⟨g, 0, none⟩) ps.length c3) := Blk.cell hG 1
          have HPQ := Lib.hid (And.intro hp hq)
          have HL1 := Lib.hid l1
          have HL2 := Lib.hid l2
          have HPA := Lib.hid hPA
          have hkP : (k : Int) < ps.length := by omega
          have hkQ : (k : Int) < qs.length := by omega
          have hkL : (k : Int) < ps.length := by omega
          clear hcl1 hcl2 l1 l2 hPA hp hq hO hgh hgt
          go_wp2_with fail
          refine hp_start (fun w' => Below (w.heap.size + 3) wr w' ∧ w'.cell? ⟨g5, 1, none⟩ = some (.slice (some ⟨g, 0, none⟩) ps.length c3)) 16 rfl (by kernel_rfl) (fun c a a' w hd h => ⟨hd ▸ h.1, h.2⟩) (fun hP => ?_)
          rw [show Array.replicate 16 false = #[false, false, false, false, false, false, false, false, false, false, false, false, false, false, false, false] from rfl]
          have HS0 : Below (w.heap.size + 3) wr wr.drew ∧ wr.drew.cell? ⟨g5, 1, none⟩ = some (.slice (some ⟨g, 0, none⟩) ps.length c3) := ⟨(Below.refl _ _).drew, cg⟩
          refine hp_take hP 0 (some 33) _ rfl rfl (by kernel_rfl) rfl (fun w' hS' => by go_simp; rfl) HS0 ?_
          simp only [Act.put, List.setIfInBounds_toArray, List.set_cons_zero, List.set_cons_succ]
          refine hp_take hP 1 (some 34) _ rfl rfl (by kernel_rfl) rfl (fun w' hS' => by have cc := hS'.2; go_simp; rfl) HS0 ?_
          simp only [Act.put, List.setIfInBounds_toArray, List.set_cons_zero, List.set_cons_succ]
          refine hp_take hP 2 (some 35) _ rfl rfl (by kernel_rfl) rfl (fun w' hS' => by go_simp; rfl) HS0 ?_
          simp only [Act.put, List.setIfInBounds_toArray, List.set_cons_zero, List.set_cons_succ]
          refine hp_take hP 3 (some 36) _ rfl rfl (by kernel_rfl) rfl (fun w' hS' => by go_simp; rfl) HS0 ?_
          simp only [Act.put, List.setIfInBounds_toArray, List.set_cons_zero, List.set_cons_succ]
          refine hp_take hP 4 (some 37) _ rfl rfl (by kernel_rfl) rfl (fun w' hS' => by have cc := (hS'.1.cell (show w.heap.size < w.heap.size + 3 by omega)).trans ca; go_simp; rfl) HS0 ?_
          simp only [Act.put, List.setIfInBounds_toArray, List.set_cons_zero, List.set_cons_succ]
          refine hp_take hP 5 (some 38) _ rfl rfl (by kernel_rfl) rfl (fun w' hS' => by go_simp; rfl) HS0 ?_
          simp only [Act.put, List.setIfInBounds_toArray, List.set_cons_zero, List.set_cons_succ]
          refine hp_take hP 6 (some 39) _ rfl rfl (by kernel_rfl) rfl (fun w' hS' => by go_simp; rfl) HS0 ?_
          simp only [Act.put, List.setIfInBounds_toArray, List.set_cons_zero, List.set_cons_succ]
          refine hp_load_at hP 7 (some 40) rfl rfl (by kernel_rfl) rfl 46 _ rfl b1 (o1 + k * 5) rfl #[.bool p.any, .int .i64 (hiW p.sum), .int .u64 (loW p.sum), .int .i64 p.mn, .int .i64 p.mx] _ (fun w' hS' j hj => HL1.out w' (hB.trans (hS'.1.mono (by omega))) j hj) Try.underlying46 rfl info46s HS0 ?_
          simp only [Act.put, List.setIfInBounds_toArray, List.set_cons_zero, List.set_cons_succ]
          refine hp_take hP 8 (some 41) _ rfl rfl (by kernel_rfl) rfl (fun w' hS' => by go_simp; rfl) HS0 ?_
          simp only [Act.put, List.setIfInBounds_toArray, List.set_cons_zero, List.set_cons_succ]
          refine hp_take hP 9 (some 42) _ rfl rfl (by kernel_rfl) rfl (fun w' hS' => by have cc := (hS'.1.cell (show w.heap.size + 1 < w.heap.size + 3 by omega)).trans cb; go_simp; rfl) HS0 ?_
          simp only [Act.put, List.setIfInBounds_toArray, List.set_cons_zero, List.set_cons_succ]
          refine hp_take hP 10 (some 43) _ rfl rfl (by kernel_rfl) rfl (fun w' hS' => by go_simp; rfl) HS0 ?_
          simp only [Act.put, List.setIfInBounds_toArray, List.set_cons_zero, List.set_cons_succ]
          refine hp_take hP 11 (some 44) _ rfl rfl (by kernel_rfl) rfl (fun w' hS' => by go_simp; rfl) HS0 ?_
          simp only [Act.put, List.setIfInBounds_toArray, List.set_cons_zero, List.set_cons_succ]
          refine hp_load_at hP 12 (some 45) rfl rfl (by kernel_rfl) rfl 46 _ rfl b2 (o2 + k * 5) rfl #[.bool q.any, .int .i64 (hiW q.sum), .int .u64 (loW q.sum), .int .i64 q.mn, .int .i64 q.mx] _ (fun w' hS' j hj => HL2.out w' (hB.trans (hS'.1.mono (by omega))) j hj) Try.underlying46 rfl info46s HS0 ?_
          simp only [Act.put, List.setIfInBounds_toArray, List.set_cons_zero, List.set_cons_succ]
          refine hp_call 13 (some 46) rfl rfl (by kernel_rfl) rfl 43 #[.agg #[.bool p.any, .int .i64 (hiW p.sum), .int .u64 (loW p.sum), .int .i64 p.mn, .int .i64 p.mx], .agg #[.bool q.any, .int .i64 (hiW q.sum), .int .u64 (loW q.sum), .int .i64 q.mn, .int .i64 q.mx]] (by go_simp) ((part43 p q _).mono ?_)
          rintro e w6 ⟨rfl, hB6⟩
          have hG6 := Blk.below (Blk.drew hG) hB6 (by have e : wr.drew.heap.size = wr.heap.size := rfl; omega)
          have HS1 : Below (w.heap.size + 3) wr w6 ∧ w6.cell? ⟨g5, 1, none⟩ = some (.slice (some ⟨g, 0, none⟩) ps.length c3) := ⟨HS0.1.trans (hB6.mono (by have e : wr.drew.heap.size = wr.heap.size := rfl; omega)), Blk.cell hG6 1⟩
          refine ⟨_, rfl, HS1, ?_⟩
          unfold partV
          simp only [Act.put, List.setIfInBounds_toArray, List.set_cons_zero, List.set_cons_succ]
          refine hp_take hP 14 (some 47) _ rfl rfl (by kernel_rfl) rfl (fun w' hS' => by go_simp; rfl) HS1 ?_
          simp only [Act.put, List.setIfInBounds_toArray, List.set_cons_zero, List.set_cons_succ]
          obtain ⟨x, hx⟩ : ∃ x, bothP p q = x := ⟨_, rfl⟩
          rw [hx]
          have hC6 := Blk.below (Blk.drew hC) hB6 (by have e : wr.drew.heap.size = wr.heap.size := rfl; omega)
          refine hp_none 15 rfl rfl (by kernel_rfl) rfl _ (exec_store_mid 46 _ _ rfl g (k * 5) #[.bool x.any, .int .i64 (hiW x.sum), .int .u64 (loW x.sum), .int .i64 x.mn, .int .i64 x.mx] (by rfl) (by rfl) 46 cur hC6 info46s (by show k * 5 + 5 ≤ cur.size; rw [hgs]; omega) (by simp [Value.oneCell'])) (by exact ⟨Below.setRow HS1.1 hgb _, Blk.cell (Blk.otherRow hG6 (fun e => hgne e.symm)) 1⟩) ?_
          simp only [Act.put, List.setIfInBounds_toArray, List.set_cons_zero, List.set_cons_succ]
          refine hk_done (by kernel_rfl) ?_
          have hA7 := fun cs => Blk.otherRow (cs' := cs) (Blk.below (Blk.drew hA) hB6 (by have e : wr.drew.heap.size = wr.heap.size := rfl; omega)) (show w.heap.size ≠ g by omega)
          have hBb7 := fun cs => Blk.otherRow (cs' := cs) (Blk.below (Blk.drew hBb) hB6 (by have e : wr.drew.heap.size = wr.heap.size := rfl; omega)) (show w.heap.size + 1 ≠ g by omega)
          have hZ7 := fun cs => Blk.otherRow (cs' := cs) (Blk.below (Blk.drew hZ) hB6 (by have e : wr.drew.heap.size = wr.heap.size := rfl; omega)) (show w.heap.size + 1 + 1 ≠ g by omega)
          have hG7 := fun cs => Blk.otherRow (cs' := cs) hG6 (fun e => hgne e.symm)
          have hB7 := fun cs => hB.trans ((Below.setRow HS1.1 hgb cs).mono (by omega))
          have hC7 := fun cs => Blk.setRow (cs' := cs) hC6
          obtain ⟨nw, hnw⟩ : ∃ nw, nw = (cur.toList.take (k * 5) ++ (#[Value.bool x.any, .int .i64 (hiW x.sum), .int .u64 (loW x.sum), .int .i64 x.mn, .int .i64 x.mx]).toList ++ cur.toList.drop (k * 5 + (#[Value.bool x.any, .int .i64 (hiW x.sum), .int .u64 (loW x.sum), .int .i64 x.mn, .int .i64 x.mx]).size)).toArray := ⟨_, rfl⟩
          rw [← hnw]
          have hszc : k * 5 + 5 ≤ cur.size := by rw [hgs]; omega
          have hns : nw.size = c3 * 5 := by rw [hnw]; simp; omega
          have hnk : ∀ r, r < 5 → nw[k * 5 + r]? = (partC x)[r]? := by
            intro r hr
            rw [hnw, List.getElem?_toArray, List.append_assoc, List.getElem?_append_right (by simp; omega), List.getElem?_append_left (by simp; omega)]
            rw [show k * 5 + r - (cur.toList.take (k * 5)).length = r by simp; omega]
            rfl
          have hno : ∀ j, (j < k * 5 ∨ k * 5 + 5 ≤ j) → nw[j]? = cur[j]? := by
            intro j hj
            rw [hnw, List.getElem?_toArray]
            rcases hj with hj | hj
            · rw [List.append_assoc, List.getElem?_append_left (by simp; omega), List.getElem?_take, if_pos hj]; simp
            · rw [List.getElem?_append_right (by simp; omega), List.getElem?_drop]
              rw [show k * 5 + (#[Value.bool x.any, .int .i64 (hiW x.sum), .int .u64 (loW x.sum), .int .i64 x.mn, .int .i64 x.mx]).size + (j - (cur.toList.take (k * 5) ++ (#[Value.bool x.any, .int .i64 (hiW x.sum), .int .u64 (loW x.sum), .int .i64 x.mn, .int .i64 x.mx]).toList).length) = j by simp; omega]
              simp
          have hP7 : PartAt nw ps.length (mergeF ps qs (k + 1)) := by
            rw [mergeF_step, HPQ.out.1, HPQ.out.2, hx]
            exact PartAt.set HPA.out k _ hno hnk
          have hA7 := hA7 nw
          have hBb7 := hBb7 nw
          have hZ7 := hZ7 nw
          have hG7 := hG7 nw
          have hB7 := hB7 nw
          have hC7 := hC7 nw
          have HP7 := Lib.hid hP7
          generalize w6.setRow g nw = w7 at *
          clear hnw hnk hno hP7 HS0 HS1 hA hBb hZ hG hB hC hC6 hG6 hB6 hP ca cb cg hx
          go_wp2_with fail
          go_roundw
          case rel =>
            refine ⟨k + 1, by omega, by go_num, hA7, hBb7, hZ7, hG7, hB7, ⟨by rw [partsC_len]; simp, .inr ⟨g, c3, nw, rfl, hgb, hC7, hgc1, hgc2, hns, ?_⟩⟩⟩
            exact PartAt.to _ nw ps.length _ (by simp) (by omega) HP7.out (fun i hi => by simp [List.getD_eq_getElem?_getD, hi])
          case measure => simp [intOf]; omega
        · have d1 : decide ((k : Int) < qs.length) = false := by simp; omega
          have d2 : decide (k < qs.length) = false := by simp; omega
          have hks : k = qs.length := by omega
          have hmin : min ps.length qs.length = k := by omega
          have HMIN := Lib.hid hmin
          have HO := Lib.hid hO
          have lg := Blk.cell hG
          clear hlt hks hmin hO
          go_wp2_with (first | (refine wpList_load_at rfl 39 _ rfl g5 0 rfl #[.int .i64 cn, .slice a3 ps.length c3] _ (fun j hj => by rw [Nat.zero_add]; exact Blk.cell hG j) Try.underlying39 rfl info39 ?_) | (refine wpList_store_row rfl 39 _ _ rfl (w.heap.size + 1 + 1) #[.int .i64 cn, .slice a3 ps.length c3] rfl rfl 39 _ hZ info39 rfl (by simp [Value.oneCell']) ?_))
          refine bodyPost_ret (results_cell_row rfl _ _ (w.heap.size + 1 + 1) 39 _ (0, 0) _ rfl (Blk.setRow hZ) Try.underlying39 rfl info39) rfl ?_
          have e : mergeL ps qs = (List.range ps.length).map (mergeF ps qs k) := by unfold mergeL; rw [HLEN.out, HMIN.out]
          refine ⟨.slice a3 ps.length c3, by rw [← HCN.out, IntWalk.i64_left], ?_, Below.setRow hB (by omega) _⟩
          rw [e]
          refine owns_base (base := w.heap.size + 3) ?_ (by omega)
          refine ⟨HO.out.1, ?_⟩
          rcases HO.out.2 with h | ⟨g, cap, cur, hv, hg, hh, r⟩
          · exact .inl h
          · exact .inr ⟨g, cap, cur, hv, hg, (setRow_other _ (w.heap.size + 1 + 1) g _ (by omega)).trans hh, r⟩
    · have HS1 : Below (w.heap.size + 2) w2 (w2.drew.alloc (Obj.cells #[.int .i64 0, .slice none 0 0] 39)) := HS0.alloc (by have e : w2.drew.heap.size = w2.heap.size := rfl; omega) _
      refine wpOp_val 8 (some 7) rfl rfl rfl (.pointer (some ⟨w2.heap.size, 0, none⟩)) (w2.drew.alloc (Obj.cells #[.int .i64 0, .slice none 0 0] 39)) (by go_simp) ⟨HS1, ?_⟩
      simp only [Act.put, List.setIfInBounds_toArray, List.set_cons_zero, List.set_cons_succ]
      refine hp_call 6 (some 26) rfl rfl (by kernel_rfl) rfl 42 #[.slice a1 ps.length k1] (by go_simp) ((clone42 (.slice a1 ps.length k1) ps.length (partsC ps) _ (Row.mono hrow1 (Below.al (Below.refl _ _) _) (by simp)) HV1.out (partsC_one ps) hb1).mono ?_)
      rintro e w3 ⟨v3, rfl, hown3, hB3⟩
      have HS2 : Below (w.heap.size + 2) w2 w3 := HS1.trans (hB3.mono (by simp; have e : w2.drew.heap.size = w2.heap.size := rfl; omega))
      refine ⟨_, rfl, HS2, ?_⟩
      simp only [Act.put, List.setIfInBounds_toArray, List.set_cons_zero, List.set_cons_succ]
      obtain ⟨a3, c3, rfl⟩ := owns_form hown3
      refine hp_take hP 7 (some 27) _ rfl rfl (by kernel_rfl) rfl (fun w' hS' => by go_simp; rfl) HS2 ?_
      simp only [Act.put, List.setIfInBounds_toArray, List.set_cons_zero, List.set_cons_succ]
      have hg : Blk w3 w2.heap.size 39 #[.int .i64 0, .slice none 0 0] := Blk.below (Blk.newAt w2.drew 39 _ rfl) hB3 (by simp)
      have hs3 : w2.heap.size + 1 ≤ w3.heap.size := by have := hB3.size; simpa using this
      refine hp_store_row 9 rfl rfl (by kernel_rfl) rfl 39 _ _ rfl w2.heap.size #[.int .i64 cn, .slice a3 ps.length c3] rfl rfl 39 _ hg info39 rfl (by simp [Value.oneCell']) (Below.setRow HS2 (by omega) _) ?_
      simp only [List.setIfInBounds_toArray, List.set_cons_zero, List.set_cons_succ]
      refine hk_done (by kernel_rfl) ?_
      have hne : ∀ g, (Value.slice a3 ps.length c3).ownBlock = some g → g ≠ w2.heap.size := fun g hg => by have := (hown3.lt g hg).1; simp at this; have e : w2.drew.heap.size = w2.heap.size := rfl; omega
      have hown : (w3.setRow w2.heap.size #[.int .i64 cn, .slice a3 ps.length c3]).ownsRow w2.heap.size 46 5 (.slice a3 ps.length c3) ps.length (partsC ps) := by
        refine ⟨hown3.1, ?_⟩
        rcases hown3.2 with h | ⟨g, cap, cur, hv, hg, hh, r⟩
        · exact .inl h
        · refine .inr ⟨g, cap, cur, hv, by simp at hg; have e : w2.drew.heap.size = w2.heap.size := rfl; omega, ?_, r⟩
          exact (setRow_other w3 w2.heap.size g _ (hne g (by rw [hv]; rfl))).trans hh
      have hg5 := Blk.setRow (cs' := #[.int .i64 cn, .slice a3 ps.length c3]) hg
      have hBz := hB.trans ((Below.setRow HS2 (show w.heap.size + 2 ≤ w2.heap.size by omega) #[.int .i64 cn, .slice a3 ps.length c3]).mono (by omega))
      have hk3 : ∀ b T cs, b < w2.heap.size → Blk w2 b T cs → Blk (w3.setRow w2.heap.size #[.int .i64 cn, .slice a3 ps.length c3]) b T cs := fun b T cs hlt hb =>
        Blk.otherRow (Blk.below ((Blk.drew hb).alloc _) hB3 (by simp; have e : w2.drew.heap.size = w2.heap.size := rfl; omega)) (by omega)
      obtain ⟨g5, hg5e⟩ : ∃ g, g = w2.heap.size := ⟨_, rfl⟩
      have hbA3 := hk3 _ _ _ (by omega) hbA
      have hbB3 := hk3 _ _ _ (by omega) hbB
      have hbZ3 := hk3 _ _ _ (by omega) hbZ
      have hown := owns_base hown (show w.heap.size + 3 ≤ w2.heap.size by omega)
      have hg5l : w.heap.size + 2 < g5 := by omega
      rw [← hg5e] at hown hne hg5 hBz hbA3 hbB3 hbZ3 ⊢
      generalize w3.setRow g5 #[.int .i64 cn, .slice a3 ps.length c3] = wz at *
      clear hg HS2 HS1 hg5e hown3 hB3 hs3 hrow1 HS0 hB hbA hbB hbZ k0 k9 hP hk3
      have hcapn : ps.length ≤ c3 ∧ c3 ≤ maxLen := by
        rcases hown.2 with ⟨h, h2⟩ | ⟨g, cap, cur, hv, _, _, hc1, hc2, _⟩
        · injection h with _ h3 h4; rw [h3, h4]; exact ⟨Nat.le_refl _, by unfold maxLen; omega⟩
        · injection hv with _ _ h4; rw [h4]; exact ⟨hc1, hc2⟩
      have HIN := Lib.hid (And.intro hbA3 (And.intro hbB3 (And.intro hbZ3 (And.intro hg5 (And.intro hBz hown)))))
      clear hbA3 hbB3 hbZ3 hg5 hBz hown
      go_wp2_with fail
      go_loopw [8, 30] (fun _ j wr => ∃ k : Nat, k ≤ qs.length ∧ j = .int .i64 k ∧ Blk wr w.heap.size 39 #[.int .i64 m1, .slice a1 ps.length k1] ∧ Blk wr (w.heap.size + 1) 39 #[.int .i64 m2, .slice a2 qs.length k2] ∧ Blk wr (w.heap.size + 1 + 1) 39 #[.int .i64 0, .slice none 0 0] ∧ Blk wr g5 39 #[.int .i64 cn, .slice a3 ps.length c3] ∧ Below w.heap.size w wr ∧
        wr.ownsRow (w.heap.size + 3) 46 5 (.slice a3 ps.length c3) ps.length (partsC ((List.range ps.length).map (mergeF ps qs k)))) (fun _ j _ => qs.length - (intOf j).toNat)
      case atStart =>
        obtain ⟨x1, x2, x3, x4, x5, x6⟩ := HIN.out
        exact ⟨0, by omega, rfl, x1, x2, x3, x4, x5, by rw [mergeF_zero, HLEN.out, range_getD]; exact x6⟩
      case round =>
        obtain ⟨k, hk, rfl, hA, hBb, hZ, hG, hB, hO⟩ := hrel
        by_cases hlt : k < qs.length
        · have d1 : decide ((k : Int) < qs.length) = true := by simp; omega
          have d2 : decide (k < qs.length) = true := by simp; omega
          rcases hO.2 with ⟨h, h2⟩ | ⟨g, cap, cur, hv2, hgb, hgh, hgc1, hgc2, hgs, hgt⟩
          · omega
          injection hv2 with e1 e2 e3
          subst e1 e3
          have hgne : g ≠ g5 := hne g rfl
          have hPA : PartAt cur ps.length (mergeF ps qs k) := by
            have h1 := PartAt.of ((List.range ps.length).map (mergeF ps qs k)) cur (by simpa using hgt)
            intro i r hi hr
            have := h1 i r (by simpa using hi) hr
            simpa [List.getD_eq_getElem?_getD, hi] using this
          have hC : Blk wr g 46 cur := hgh
          have hkp : k < ps.length := by omega
          have hkq : k < qs.length := by omega
          have hkl : k < ps.length := by omega
          obtain ⟨b1, o1, rfl, hbl1, hcl1⟩ := HC1.out (by omega)
          obtain ⟨b2, o2, rfl, hbl2, hcl2⟩ := HC2.out (by omega)
          obtain ⟨p, hp⟩ : ∃ p, ps.getD k zeroP = p := ⟨_, rfl⟩
          obtain ⟨q, hq⟩ : ∃ q, qs.getD k zeroP = q := ⟨_, rfl⟩
          have l1 : ∀ w', Below w.heap.size w w' → ∀ j, j < 5 → w'.cell? ⟨b1, o1 + k * 5 + j, none⟩ = (#[Value.bool p.any, .int .i64 (hiW p.sum), .int .u64 (loW p.sum), .int .i64 p.mn, .int .i64 p.mx])[j]? := fun w' hB' j hj => by
            rw [hB'.cell (by exact hbl1), hcl1 k j hkp hj, hp]; rfl
          have l2 : ∀ w', Below w.heap.size w w' → ∀ j, j < 5 → w'.cell? ⟨b2, o2 + k * 5 + j, none⟩ = (#[Value.bool q.any, .int .i64 (hiW q.sum), .int .u64 (loW q.sum), .int .i64 q.mn, .int .i64 q.mx])[j]? := fun w' hB' j hj => by
            rw [hB'.cell (by exact hbl2), hcl2 k j hkq hj, hq]; rfl
          have hlw : w.heap.size + 1 + 1 < wr.heap.size := Blk.lt hZ
          have hlG := Blk.lt hG
          have hlC := Blk.lt hC
          have ca : wr.cell? ⟨w.heap.size, 1, none⟩ = some (.slice (some ⟨b1, o1, none⟩) ps.length k1) := Blk.cell hA 1
          have cb : wr.cell? ⟨w.heap.size + 1, 1, none⟩ = some (.slice (some ⟨b2, o2, none⟩) qs.length k2) := Blk.cell hBb 1
          have cg : wr.cell? ⟨g5, 1, none⟩ = some (.slice (some ⟨g, 0, none⟩) ps.length c3) := Blk.cell hG 1
          have HPQ := Lib.hid (And.intro hp hq)
          have HL1 := Lib.hid l1
          have HL2 := Lib.hid l2
          have HPA := Lib.hid hPA
          have hkP : (k : Int) < ps.length := by omega
          have hkQ : (k : Int) < qs.length := by omega
          have hkL : (k : Int) < ps.length := by omega
          clear hcl1 hcl2 l1 l2 hPA hp hq hO hgh hgt
          go_wp2_with fail
          refine hp_start (fun w' => Below (w.heap.size + 3) wr w' ∧ w'.cell? ⟨g5, 1, none⟩ = some (.slice (some ⟨g, 0, none⟩) ps.length c3)) 16 rfl (by kernel_rfl) (fun c a a' w hd h => ⟨hd ▸ h.1, h.2⟩) (fun hP => ?_)
          rw [show Array.replicate 16 false = #[false, false, false, false, false, false, false, false, false, false, false, false, false, false, false, false] from rfl]
          have HS0 : Below (w.heap.size + 3) wr wr.drew ∧ wr.drew.cell? ⟨g5, 1, none⟩ = some (.slice (some ⟨g, 0, none⟩) ps.length c3) := ⟨(Below.refl _ _).drew, cg⟩
          refine hp_take hP 0 (some 33) _ rfl rfl (by kernel_rfl) rfl (fun w' hS' => by go_simp; rfl) HS0 ?_
          simp only [Act.put, List.setIfInBounds_toArray, List.set_cons_zero, List.set_cons_succ]
          refine hp_take hP 1 (some 34) _ rfl rfl (by kernel_rfl) rfl (fun w' hS' => by have cc := hS'.2; go_simp; rfl) HS0 ?_
          simp only [Act.put, List.setIfInBounds_toArray, List.set_cons_zero, List.set_cons_succ]
          refine hp_take hP 2 (some 35) _ rfl rfl (by kernel_rfl) rfl (fun w' hS' => by go_simp; rfl) HS0 ?_
          simp only [Act.put, List.setIfInBounds_toArray, List.set_cons_zero, List.set_cons_succ]
          refine hp_take hP 3 (some 36) _ rfl rfl (by kernel_rfl) rfl (fun w' hS' => by go_simp; rfl) HS0 ?_
          simp only [Act.put, List.setIfInBounds_toArray, List.set_cons_zero, List.set_cons_succ]
          refine hp_take hP 4 (some 37) _ rfl rfl (by kernel_rfl) rfl (fun w' hS' => by have cc := (hS'.1.cell (show w.heap.size < w.heap.size + 3 by omega)).trans ca; go_simp; rfl) HS0 ?_
          simp only [Act.put, List.setIfInBounds_toArray, List.set_cons_zero, List.set_cons_succ]
          refine hp_take hP 5 (some 38) _ rfl rfl (by kernel_rfl) rfl (fun w' hS' => by go_simp; rfl) HS0 ?_
          simp only [Act.put, List.setIfInBounds_toArray, List.set_cons_zero, List.set_cons_succ]
          refine hp_take hP 6 (some 39) _ rfl rfl (by kernel_rfl) rfl (fun w' hS' => by go_simp; rfl) HS0 ?_
          simp only [Act.put, List.setIfInBounds_toArray, List.set_cons_zero, List.set_cons_succ]
          refine hp_load_at hP 7 (some 40) rfl rfl (by kernel_rfl) rfl 46 _ rfl b1 (o1 + k * 5) rfl #[.bool p.any, .int .i64 (hiW p.sum), .int .u64 (loW p.sum), .int .i64 p.mn, .int .i64 p.mx] _ (fun w' hS' j hj => HL1.out w' (hB.trans (hS'.1.mono (by omega))) j hj) Try.underlying46 rfl info46s HS0 ?_
          simp only [Act.put, List.setIfInBounds_toArray, List.set_cons_zero, List.set_cons_succ]
          refine hp_take hP 8 (some 41) _ rfl rfl (by kernel_rfl) rfl (fun w' hS' => by go_simp; rfl) HS0 ?_
          simp only [Act.put, List.setIfInBounds_toArray, List.set_cons_zero, List.set_cons_succ]
          refine hp_take hP 9 (some 42) _ rfl rfl (by kernel_rfl) rfl (fun w' hS' => by have cc := (hS'.1.cell (show w.heap.size + 1 < w.heap.size + 3 by omega)).trans cb; go_simp; rfl) HS0 ?_
          simp only [Act.put, List.setIfInBounds_toArray, List.set_cons_zero, List.set_cons_succ]
          refine hp_take hP 10 (some 43) _ rfl rfl (by kernel_rfl) rfl (fun w' hS' => by go_simp; rfl) HS0 ?_
          simp only [Act.put, List.setIfInBounds_toArray, List.set_cons_zero, List.set_cons_succ]
          refine hp_take hP 11 (some 44) _ rfl rfl (by kernel_rfl) rfl (fun w' hS' => by go_simp; rfl) HS0 ?_
          simp only [Act.put, List.setIfInBounds_toArray, List.set_cons_zero, List.set_cons_succ]
          refine hp_load_at hP 12 (some 45) rfl rfl (by kernel_rfl) rfl 46 _ rfl b2 (o2 + k * 5) rfl #[.bool q.any, .int .i64 (hiW q.sum), .int .u64 (loW q.sum), .int .i64 q.mn, .int .i64 q.mx] _ (fun w' hS' j hj => HL2.out w' (hB.trans (hS'.1.mono (by omega))) j hj) Try.underlying46 rfl info46s HS0 ?_
          simp only [Act.put, List.setIfInBounds_toArray, List.set_cons_zero, List.set_cons_succ]
          refine hp_call 13 (some 46) rfl rfl (by kernel_rfl) rfl 43 #[.agg #[.bool p.any, .int .i64 (hiW p.sum), .int .u64 (loW p.sum), .int .i64 p.mn, .int .i64 p.mx], .agg #[.bool q.any, .int .i64 (hiW q.sum), .int .u64 (loW q.sum), .int .i64 q.mn, .int .i64 q.mx]] (by go_simp) ((part43 p q _).mono ?_)
          rintro e w6 ⟨rfl, hB6⟩
          have hG6 := Blk.below (Blk.drew hG) hB6 (by have e : wr.drew.heap.size = wr.heap.size := rfl; omega)
          have HS1 : Below (w.heap.size + 3) wr w6 ∧ w6.cell? ⟨g5, 1, none⟩ = some (.slice (some ⟨g, 0, none⟩) ps.length c3) := ⟨HS0.1.trans (hB6.mono (by have e : wr.drew.heap.size = wr.heap.size := rfl; omega)), Blk.cell hG6 1⟩
          refine ⟨_, rfl, HS1, ?_⟩
          unfold partV
          simp only [Act.put, List.setIfInBounds_toArray, List.set_cons_zero, List.set_cons_succ]
          refine hp_take hP 14 (some 47) _ rfl rfl (by kernel_rfl) rfl (fun w' hS' => by go_simp; rfl) HS1 ?_
          simp only [Act.put, List.setIfInBounds_toArray, List.set_cons_zero, List.set_cons_succ]
          obtain ⟨x, hx⟩ : ∃ x, bothP p q = x := ⟨_, rfl⟩
          rw [hx]
          have hC6 := Blk.below (Blk.drew hC) hB6 (by have e : wr.drew.heap.size = wr.heap.size := rfl; omega)
          refine hp_none 15 rfl rfl (by kernel_rfl) rfl _ (exec_store_mid 46 _ _ rfl g (k * 5) #[.bool x.any, .int .i64 (hiW x.sum), .int .u64 (loW x.sum), .int .i64 x.mn, .int .i64 x.mx] (by rfl) (by rfl) 46 cur hC6 info46s (by show k * 5 + 5 ≤ cur.size; rw [hgs]; omega) (by simp [Value.oneCell'])) (by exact ⟨Below.setRow HS1.1 hgb _, Blk.cell (Blk.otherRow hG6 (fun e => hgne e.symm)) 1⟩) ?_
          simp only [Act.put, List.setIfInBounds_toArray, List.set_cons_zero, List.set_cons_succ]
          refine hk_done (by kernel_rfl) ?_
          have hA7 := fun cs => Blk.otherRow (cs' := cs) (Blk.below (Blk.drew hA) hB6 (by have e : wr.drew.heap.size = wr.heap.size := rfl; omega)) (show w.heap.size ≠ g by omega)
          have hBb7 := fun cs => Blk.otherRow (cs' := cs) (Blk.below (Blk.drew hBb) hB6 (by have e : wr.drew.heap.size = wr.heap.size := rfl; omega)) (show w.heap.size + 1 ≠ g by omega)
          have hZ7 := fun cs => Blk.otherRow (cs' := cs) (Blk.below (Blk.drew hZ) hB6 (by have e : wr.drew.heap.size = wr.heap.size := rfl; omega)) (show w.heap.size + 1 + 1 ≠ g by omega)
          have hG7 := fun cs => Blk.otherRow (cs' := cs) hG6 (fun e => hgne e.symm)
          have hB7 := fun cs => hB.trans ((Below.setRow HS1.1 hgb cs).mono (by omega))
          have hC7 := fun cs => Blk.setRow (cs' := cs) hC6
          obtain ⟨nw, hnw⟩ : ∃ nw, nw = (cur.toList.take (k * 5) ++ (#[Value.bool x.any, .int .i64 (hiW x.sum), .int .u64 (loW x.sum), .int .i64 x.mn, .int .i64 x.mx]).toList ++ cur.toList.drop (k * 5 + (#[Value.bool x.any, .int .i64 (hiW x.sum), .int .u64 (loW x.sum), .int .i64 x.mn, .int .i64 x.mx]).size)).toArray := ⟨_, rfl⟩
          rw [← hnw]
          have hszc : k * 5 + 5 ≤ cur.size := by rw [hgs]; omega
          have hns : nw.size = c3 * 5 := by rw [hnw]; simp; omega
          have hnk : ∀ r, r < 5 → nw[k * 5 + r]? = (partC x)[r]? := by
            intro r hr
            rw [hnw, List.getElem?_toArray, List.append_assoc, List.getElem?_append_right (by simp; omega), List.getElem?_append_left (by simp; omega)]
            rw [show k * 5 + r - (cur.toList.take (k * 5)).length = r by simp; omega]
            rfl
          have hno : ∀ j, (j < k * 5 ∨ k * 5 + 5 ≤ j) → nw[j]? = cur[j]? := by
            intro j hj
            rw [hnw, List.getElem?_toArray]
            rcases hj with hj | hj
            · rw [List.append_assoc, List.getElem?_append_left (by simp; omega), List.getElem?_take, if_pos hj]; simp
            · rw [List.getElem?_append_right (by simp; omega), List.getElem?_drop]
              rw [show k * 5 + (#[Value.bool x.any, .int .i64 (hiW x.sum), .int .u64 (loW x.sum), .int .i64 x.mn, .int .i64 x.mx]).size + (j - (cur.toList.take (k * 5) ++ (#[Value.bool x.any, .int .i64 (hiW x.sum), .int .u64 (loW x.sum), .int .i64 x.mn, .int .i64 x.mx]).toList).length) = j by simp; omega]
              simp
          have hP7 : PartAt nw ps.length (mergeF ps qs (k + 1)) := by
            rw [mergeF_step, HPQ.out.1, HPQ.out.2, hx]
            exact PartAt.set HPA.out k _ hno hnk
          have hA7 := hA7 nw
          have hBb7 := hBb7 nw
          have hZ7 := hZ7 nw
          have hG7 := hG7 nw
          have hB7 := hB7 nw
          have hC7 := hC7 nw
          have HP7 := Lib.hid hP7
          generalize w6.setRow g nw = w7 at *
          clear hnw hnk hno hP7 HS0 HS1 hA hBb hZ hG hB hC hC6 hG6 hB6 hP ca cb cg hx
          go_wp2_with fail
          go_roundw
          case rel =>
            refine ⟨k + 1, by omega, by go_num, hA7, hBb7, hZ7, hG7, hB7, ⟨by rw [partsC_len]; simp, .inr ⟨g, c3, nw, rfl, hgb, hC7, hgc1, hgc2, hns, ?_⟩⟩⟩
            exact PartAt.to _ nw ps.length _ (by simp) (by omega) HP7.out (fun i hi => by simp [List.getD_eq_getElem?_getD, hi])
          case measure => simp [intOf]; omega
        · have d1 : decide ((k : Int) < qs.length) = false := by simp; omega
          have d2 : decide (k < qs.length) = false := by simp; omega
          have hks : k = qs.length := by omega
          have hmin : min ps.length qs.length = k := by omega
          have HMIN := Lib.hid hmin
          have HO := Lib.hid hO
          have lg := Blk.cell hG
          clear hlt hks hmin hO
          go_wp2_with (first | (refine wpList_load_at rfl 39 _ rfl g5 0 rfl #[.int .i64 cn, .slice a3 ps.length c3] _ (fun j hj => by rw [Nat.zero_add]; exact Blk.cell hG j) Try.underlying39 rfl info39 ?_) | (refine wpList_store_row rfl 39 _ _ rfl (w.heap.size + 1 + 1) #[.int .i64 cn, .slice a3 ps.length c3] rfl rfl 39 _ hZ info39 rfl (by simp [Value.oneCell']) ?_))
          refine bodyPost_ret (results_cell_row rfl _ _ (w.heap.size + 1 + 1) 39 _ (0, 0) _ rfl (Blk.setRow hZ) Try.underlying39 rfl info39) rfl ?_
          have e : mergeL ps qs = (List.range ps.length).map (mergeF ps qs k) := by unfold mergeL; rw [HLEN.out, HMIN.out]
          refine ⟨.slice a3 ps.length c3, by rw [← HCN.out, IntWalk.i64_left], ?_, Below.setRow hB (by omega) _⟩
          rw [e]
          refine owns_base (base := w.heap.size + 3) ?_ (by omega)
          refine ⟨HO.out.1, ?_⟩
          rcases HO.out.2 with h | ⟨g, cap, cur, hv, hg, hh, r⟩
          · exact .inl h
          · exact .inr ⟨g, cap, cur, hv, hg, (setRow_other _ (w.heap.size + 1 + 1) g _ (by omega)).trans hh, r⟩
end Go.Proofs.Ytlhncphnhgbclaa
