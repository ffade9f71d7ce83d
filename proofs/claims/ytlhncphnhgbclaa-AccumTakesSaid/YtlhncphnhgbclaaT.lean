/- Accumulators: the document's New and Valid. -/
import Derived.Test.YtlhncphnhgbclaaS
namespace Go.Proofs.Ytlhncphnhgbclaa
open Go.RowKit
set_option linter.unusedVariables false
set_option linter.unusedSimpArgs false

set_option maxHeartbeats 4000000 in
theorem new23 (meas : Int) (n : Nat) (w : World) (hn : min (max meas 0) 4 = (n : Int)) (h4 : n ≤ 4) :
    Calls Try.prog 23 #[.int .i64 meas] w fun e w' => ∃ v, e = .returned (.agg #[.int .i64 0, v]) ∧ w'.ownsRow w.heap.size 46 5 v n (partsC (List.replicate n zeroP)) ∧ Below w.heap.size w w' := by
  obtain ⟨i0, hi, hz0, hz1, hz2⟩ := info_parts Try.info46
  have hb2 : Blk (w.alloc (Obj.cells #[.int .i64 0, .slice none 0 0] 39)) w.heap.size 39 #[.int .i64 0, .slice none 0 0] := Blk.newAt _ _ _ rfl
  have hB2 : Below w.heap.size w (w.alloc (Obj.cells #[.int .i64 0, .slice none 0 0] 39)) := Below.al (Below.refl _ _) _
  have HB2 := Lib.hid hb2
  have HBB := Lib.hid hB2
  clear hb2 hB2
  go_enter Try.func23, Try.ntmps23
  go_wp2_with (first | (refine wpList_make_full _ rfl _ _ 37 rfl (w.heap.size + 1) 46 i0 (.agg #[.bool false, .int .i64 0, .int .u64 0, .int .i64 0, .int .i64 0]) 5 Try.underlying37 hi hz0 hz1 .i64 .i64 _ _ n rfl rfl (by omega) (by omega) (by rw [hz2]; omega) (by unfold maxLen; omega) (by simp) ?_; intro w1 hown hgrow) | (refine wpList_store_row rfl 39 _ _ rfl w.heap.size _ rfl rfl 39 _ (Blk.grown HB2.out hgrow (by simp)) info39 rfl (by simp [Value.oneCell']) ?_))
  all_goals
    have hb3 := Blk.setRow (cs' := #[Value.int IntKind.i64 0, Value.slice (some { block := w.heap.size + 1, off := 0 }) n n]) (Blk.grown HB2.out hgrow (by simp))
    have hown2 : (w1.setRow w.heap.size #[Value.int IntKind.i64 0, Value.slice (some { block := w.heap.size + 1, off := 0 }) n n]).ownsRow w.heap.size 46 5 (.slice (some ⟨w.heap.size + 1, 0, none⟩) n n) n (partsC (List.replicate n zeroP)) := by
      rw [← zeroRow n h4]
      refine ⟨hown.1, ?_⟩
      rcases hown.2 with ⟨h, -⟩ | ⟨g, cap, cur, hv, hg, hh, r⟩
      · simp at h
      · refine .inr ⟨g, cap, cur, by simpa using hv, by omega, ?_, r⟩
        exact (setRow_other w1 w.heap.size g _ (by omega)).trans hh
    have hBf := Below.setRow (Below.grown HBB.out hgrow (by simp) (fun k hk => by simp at hk)) (Nat.le_refl _) #[Value.int IntKind.i64 0, Value.slice (some { block := w.heap.size + 1, off := 0 }) n n]
    refine bodyPost_ret (results_cell_row rfl _ _ w.heap.size 39 #[Value.int IntKind.i64 0, Value.slice (some { block := w.heap.size + 1, off := 0 }) n n] (0, 0) _ rfl hb3 Try.underlying39 rfl info39) rfl ?_
    exact ⟨_, rfl, hown2, hBf⟩

set_option maxRecDepth 100000 in
set_option maxHeartbeats 8000000 in
theorem valid26g (c m : Int) (v : Value) (ps : List Prt) (w : World) (h1 : RowP w.heap.size w v ps) :
    Calls Try.prog 26 #[.agg #[.int .i64 c, v], .int .i64 m] w fun e w' => e = .returned (.bool (validB c ps m)) ∧ Below w.heap.size w w' := by
  obtain ⟨a1, cap1, rfl, hcap1, hmax1, hc1⟩ := h1.open
  have hB : Below w.heap.size w (w.alloc (Obj.cells #[.int .i64 c, .slice a1 ps.length cap1] 39)) := Below.al (Below.refl _ _) _
  have hb : Blk (w.alloc (Obj.cells #[.int .i64 c, .slice a1 ps.length cap1] 39)) w.heap.size 39 #[.int .i64 c, .slice a1 ps.length cap1] := Blk.newAt _ _ _ rfl
  have HC1 := Lib.hid hc1
  have HB := Lib.hid hB
  have HBB := Lib.hid hb
  clear h1 hB hb hc1
  by_cases hc : c < 0
  · have hcd : decide (c < 0) = true := by simpa using hc
    have hv : validB c ps m = false := by unfold validB; rw [decide_eq_false (by omega)]; rfl
    have HV := Lib.hid hv
    clear hv hc
    go_enter Try.func26, Try.ntmps26
    go_wp2_with fail
    go_ret
    exact ⟨by rw [HV.out] <;> rfl, HB.out⟩
  · have hcd : decide (c < 0) = false := by simpa using hc
    cases hm : ((ps.length : Int) == m) with
    | false =>
      have hv : validB c ps m = false := by simp [validB, hm]
      have HV := Lib.hid hv
      clear hv hc
      go_enter Try.func26, Try.ntmps26
      go_wp2_with fail
      go_ret
      exact ⟨by rw [HV.out] <;> rfl, HB.out⟩
    | true =>
      have hv : validB c ps m = !anyBad c ps := by unfold validB; rw [hm, decide_eq_true (by omega)]; rfl
      have HV := Lib.hid hv
      clear hv hc
      go_enter Try.func26, Try.ntmps26
      go_wp2_with fail
      go_loopw [5, 6] (fun i _ wr => ∃ k : Nat, k ≤ ps.length ∧ i = .int .i64 k ∧ Hid (∀ j, j < k → badB c (ps.getD j zeroP) = false) ∧ Blk wr w.heap.size 39 #[.int .i64 c, .slice a1 ps.length cap1] ∧ Below w.heap.size w wr) (fun i _ _ => ps.length - (intOf i).toNat)
      case atStart => exact ⟨0, by omega, rfl, fun j h => absurd h (by omega), HBB.out, HB.out⟩
      case round =>
        obtain ⟨k, hk, rfl, HN, hA, hB⟩ := hrel
        have k1 : wr.cell? ⟨w.heap.size, 1, none⟩ = some (.slice a1 ps.length cap1) := Blk.cell hA 1
        by_cases hlt : k < ps.length
        · have d1 : decide ((k : Int) < ps.length) = true := by simp; omega
          obtain ⟨b1, off1, rfl, hb1, hcell1⟩ := HC1.out (by omega)
          obtain ⟨p, hpe⟩ : ∃ p, ps.getD k zeroP = p := ⟨_, rfl⟩
          have q1 : ∀ j, j < 5 → wr.cell? ⟨b1, off1 + k * 5 + j, none⟩ = (partA p)[j]? := fun j hj => by rw [hB.cell (by exact hb1), hcell1 k j hlt hj, hpe]
          unfold partA at q1
          have Q1 := Lib.hid q1
          have HPE := Lib.hid hpe
          clear hcell1 q1 hpe
          have c0 : wr.cell? ⟨b1, off1 + k * 5, none⟩ = some (.bool p.any) := Q1.out 0 (by decide)
          have c1 : wr.cell? ⟨b1, off1 + k * 5 + 1, none⟩ = some (.int .i64 (hiW p.sum)) := Q1.out 1 (by decide)
          have c2 : wr.cell? ⟨b1, off1 + k * 5 + 2, none⟩ = some (.int .u64 (loW p.sum)) := Q1.out 2 (by decide)
          have c3 : wr.cell? ⟨b1, off1 + k * 5 + 3, none⟩ = some (.int .i64 p.mn) := Q1.out 3 (by decide)
          have c4 : wr.cell? ⟨b1, off1 + k * 5 + 4, none⟩ = some (.int .i64 p.mx) := Q1.out 4 (by decide)
          have k0 : ∀ o, (wr.alloc o).cell? ⟨w.heap.size, 0, none⟩ = some (.int .i64 c) := fun o => Blk.cell (Blk.alloc hA o) 0
          cases ha : p.any with
          | true =>
            rw [ha] at c0
            cases hcz : (c == 0) with
            | true =>
              have HBAD : Hid (badB c p = true) := by rw [Hid]; simp [badB, ha, hcz]
              clear ha
              have HY := Lib.hid (anyBad_yes (c := c) (ps := ps) hlt (by rw [HPE.out]; exact HBAD.out))
              clear HBAD
              go_wp2_with fail
              all_goals
                go_ret
                exact ⟨by rw [HV.out, HY.out] <;> rfl, Below.al hB _⟩
            | false =>
              cases hd : decide (p.mx < p.mn) with
              | true =>
                have HBAD : Hid (badB c p = true) := by rw [Hid]; simp [badB, ha, hcz, hd]
                clear ha
                have HY := Lib.hid (anyBad_yes (c := c) (ps := ps) hlt (by rw [HPE.out]; exact HBAD.out))
                clear HBAD
                go_wp2_with fail
                all_goals
                  go_ret
                  exact ⟨by rw [HV.out, HY.out] <;> rfl, Below.al hB _⟩
              | false =>
                have HBAD : Hid (badB c p = false) := by rw [Hid]; simp [badB, ha, hcz, hd]
                clear ha
                have HN2 : Hid (∀ j, j < k + 1 → badB c (ps.getD j zeroP) = false) := by
                  intro j hj
                  by_cases e : j = k
                  · subst e; rw [HPE.out]; exact HBAD.out
                  · exact HN.out j (by omega)
                clear HBAD
                go_wp2_with fail
                go_roundw
                case rel => exact ⟨k + 1, by omega, by go_num, HN2, Blk.alloc hA _, Below.al hB _⟩
                case measure => simp [intOf]; omega
          | false =>
            rw [ha] at c0
            cases hq : eqB p zeroP with
            | true =>
              have HBAD : Hid (badB c p = false) := by rw [Hid]; simp [badB, ha, hq]
              obtain ⟨-, g2, g3, g4, g5⟩ := eqB_yes hq
              rw [zh] at g2
              rw [zl] at g3
              have g4' : p.mn = 0 := g4
              have g5' : p.mx = 0 := g5
              clear ha hq g4 g5
              have HN2 : Hid (∀ j, j < k + 1 → badB c (ps.getD j zeroP) = false) := by
                intro j hj
                by_cases e : j = k
                · subst e; rw [HPE.out]; exact HBAD.out
                · exact HN.out j (by omega)
              clear HBAD
              go_wp2_with fail
              go_roundw
              case rel => exact ⟨k + 1, by omega, by go_num, HN2, Blk.alloc hA _, Below.al hB _⟩
              case measure => simp [intOf]; omega
            | false =>
              have HBAD : Hid (badB c p = true) := by rw [Hid]; simp [badB, ha, hq]
              have hd := eqB_no hq
              rw [ha, zh, zl, zmn, zmx] at hd
              clear ha hq
              rcases hd with hd | hd | hd | hd | hd
              · exact absurd hd (by decide)
              all_goals
                have HY := Lib.hid (anyBad_yes (c := c) (ps := ps) hlt (by rw [HPE.out]; exact HBAD.out))
                clear HBAD
                go_wp2_with fail
                all_goals
                  go_ret
                  exact ⟨by rw [HV.out, HY.out] <;> rfl, Below.al hB _⟩
        · obtain rfl : k = ps.length := by omega
          have HY := Lib.hid (anyBad_no HN.out)
          go_wp2_with fail
          go_ret
          exact ⟨by rw [HV.out, HY.out] <;> rfl, hB⟩

end Go.Proofs.Ytlhncphnhgbclaa
