/- The document's Merge. -/
import Derived.Test.YtlhncphnhgbclaaZD
namespace Go.Proofs.Ytlhncphnhgbclaa
open Go.RowKit
set_option linter.unusedVariables false
set_option linter.unusedSimpArgs false

theorem mergeTo_succ (ps qs : List Prt) (M k : Nat) : (List.range (k + 1)).map (mergeF ps qs M) = (List.range k).map (mergeF ps qs M) ++ [mergeF ps qs M k] := by
  rw [List.range_succ, List.map_append]; rfl

set_option maxRecDepth 100000 in
set_option maxHeartbeats 8000000 in
theorem merge31 (ps qs : List Prt) (m1 m2 : Int) (v1 v2 : Value) (w : World) (h1 : RowP w.heap.size w v1 ps) (h2 : RowP w.heap.size w v2 qs)
    (hb1 : ps.length * 40 ≤ 140737488351232) (hb2 : qs.length * 40 ≤ 140737488351232) :
    Calls Try.prog 31 #[.agg #[.int .i64 m1, v1], .agg #[.int .i64 m2, v2]] w fun e w' => ∃ v', e = .returned (.agg #[.int .i64 (wrap64 (m1 + m2)), v']) ∧ w'.ownsRow w.heap.size 46 5 v' (longL ps qs).length (partsC (mergeL ps qs)) ∧ Below w.heap.size w w' := by
  obtain ⟨i0, hi, hz0, hz1, hz2⟩ := info_parts Try.info46
  obtain ⟨a1, cap1, rfl, hcap1, hmax1, hc1⟩ := RowP.open h1
  obtain ⟨a2, cap2, rfl, hcap2, hmax2, hc2⟩ := RowP.open h2
  have HC1 := Lib.hid hc1
  have HC2 := Lib.hid hc2
  obtain ⟨cn, hcn⟩ : ∃ cn, IntKind.i64.wrap (m1 + m2) = cn := ⟨_, rfl⟩
  have HCN := Lib.hid hcn
  obtain ⟨M, hM⟩ : ∃ M, min ps.length qs.length = M := ⟨_, rfl⟩
  have HM := Lib.hid hM
  obtain ⟨T, hT⟩ : ∃ T, (longL ps qs).length = T := ⟨_, rfl⟩
  have hT2 : (T = ps.length ∧ qs.length ≤ ps.length) ∨ (T = qs.length ∧ ps.length < qs.length) := by
    rw [← hT]; unfold longL; split
    · right; exact ⟨rfl, by assumption⟩
    · left; exact ⟨rfl, by omega⟩
  have hTb : T * 40 ≤ 140737488351232 := by rcases hT2 with h | h <;> rw [h.1] <;> assumption
  have HT := Lib.hid hT
  have HT2 := Lib.hid hT2
  rw [hT]
  clear hc1 hc2 h1 h2 hM hT hT2
  go_enter Try.func31, Try.ntmps31
  go_upto_region 3 with (fail)
  clear hcn
  obtain ⟨w1, hw1⟩ : ∃ w1, w1 = (((w.alloc (Obj.cells #[.int .i64 m1, .slice a1 ps.length cap1] 39)).alloc (Obj.cells #[.int .i64 m2, .slice a2 qs.length cap2] 39)).alloc (Obj.cells #[.int .i64 0, .slice none 0 0] 39)).alloc (Obj.cells #[.int .i64 cn, .slice none 0 0] 39) := ⟨_, rfl⟩
  have hA : Blk w1 w.heap.size 39 #[.int .i64 m1, .slice a1 ps.length cap1] := by rw [hw1]; exact (((Blk.newAt _ _ _ rfl).alloc _).alloc _).alloc _
  have hBb : Blk w1 (w.heap.size + 1) 39 #[.int .i64 m2, .slice a2 qs.length cap2] := by rw [hw1]; exact ((Blk.newAt _ _ _ (by simp)).alloc _).alloc _
  have hZ : Blk w1 (w.heap.size + 1 + 1) 39 #[.int .i64 0, .slice none 0 0] := by rw [hw1]; exact (Blk.newAt _ _ _ (by simp)).alloc _
  have hG : Blk w1 (w.heap.size + 1 + 1 + 1) 39 #[.int .i64 cn, .slice none 0 0] := by rw [hw1]; exact Blk.newAt _ _ _ (by simp)
  have hB : Below w.heap.size w w1 := by rw [hw1]; exact Below.al (Below.al (Below.al (Below.al (Below.refl _ _) _) _) _) _
  rw [← hw1]
  clear hw1
  go_loopw [6] (fun i wr => ∃ (k : Nat) (vk : Value), k ≤ T ∧ i = .int .i64 k ∧ Blk wr w.heap.size 39 #[.int .i64 m1, .slice a1 ps.length cap1] ∧ Blk wr (w.heap.size + 1) 39 #[.int .i64 m2, .slice a2 qs.length cap2] ∧ Blk wr (w.heap.size + 1 + 1) 39 #[.int .i64 0, .slice none 0 0] ∧ Blk wr (w.heap.size + 1 + 1 + 1) 39 #[.int .i64 cn, vk] ∧ Below w.heap.size w wr ∧
    wr.ownsRow (w.heap.size + 4) 46 5 vk k (partsC ((List.range k).map (mergeF ps qs M)))) (fun i _ => T - (intOf i).toNat)
  case atStart => exact ⟨0, _, by omega, rfl, hA, hBb, hZ, hG, hB, World.ownsRow_nil _ _ _ _⟩
  case round =>
    clear hA hBb hZ hG hB
    obtain ⟨k, vk, hk, rfl, hA, hBb, hZ, hG, hBw, hO⟩ := hrel
    have ca : wr.cell? ⟨w.heap.size, 1, none⟩ = some (.slice a1 ps.length cap1) := Blk.cell hA 1
    have cb : wr.cell? ⟨w.heap.size + 1, 1, none⟩ = some (.slice a2 qs.length cap2) := Blk.cell hBb 1
    have hTT := HT2.out
    by_cases hlt : k < T
    · have HIN := Lib.hid (And.intro hA (And.intro hBb (And.intro hZ (And.intro hG (And.intro hBw hO)))))
      have hlG := Blk.lt hG
      have l1 : k < ps.length → ∃ bp op, a1 = some ⟨bp, op, none⟩ ∧ bp < w.heap.size ∧ ∀ j, j < 5 → wr.cell? ⟨bp, op + k * 5 + j, none⟩ = (partA (ps.getD k zeroP))[j]? := fun h => by
        obtain ⟨bp, op, e1, e2, e3⟩ := HC1.out (by omega)
        exact ⟨bp, op, e1, e2, fun j hj => by rw [hBw.cell (by exact e2), e3 k j h hj]⟩
      have l2 : k < qs.length → ∃ bp op, a2 = some ⟨bp, op, none⟩ ∧ bp < w.heap.size ∧ ∀ j, j < 5 → wr.cell? ⟨bp, op + k * 5 + j, none⟩ = (partA (qs.getD k zeroP))[j]? := fun h => by
        obtain ⟨bp, op, e1, e2, e3⟩ := HC2.out (by omega)
        exact ⟨bp, op, e1, e2, fun j hj => by rw [hBw.cell (by exact e2), e3 k j h hj]⟩
      obtain ⟨p, hp⟩ : ∃ p, ps.getD k zeroP = p := ⟨_, rfl⟩
      obtain ⟨q, hq⟩ : ∃ q, qs.getD k zeroP = q := ⟨_, rfl⟩
      rw [hp] at l1
      rw [hq] at l2
      have HL1' := Lib.hid l1
      have HL2' := Lib.hid l2
      have HP1 := Lib.hid hp
      have HP2 := Lib.hid hq
      clear l1 l2 hp hq hA hBb hZ hG hBw hO hTT
      by_cases hkp : k < ps.length
      · by_cases hkq : k < qs.length
        · skip
          have d1 : decide ((k : Int) < ps.length) = true := by simp; omega
          have d2 : decide (k < ps.length) = true := by simp; omega
          have d3 : decide ((k : Int) < qs.length) = true := by simp; omega
          have d4 : decide (k < qs.length) = true := by simp; omega
          have d5 : decide ((ps.length : Int) ≤ (k : Int)) = false := by simp; omega
          have d6 : decide (ps.length ≤ k) = false := by simp; omega
          have d7 : decide ((qs.length : Int) ≤ (k : Int)) = false := by simp; omega
          have d8 : decide (qs.length ≤ k) = false := by simp; omega
          have hkpI : (k : Int) < ps.length := by omega
          obtain ⟨bp, op, rfl, hbp, hl1⟩ := HL1'.out (by omega)
          have hkqI : (k : Int) < qs.length := by omega
          obtain ⟨bq, oq, rfl, hbq, hl2⟩ := HL2'.out (by omega)
          go_upto_region 7 with (fail)
          obtain ⟨wq, hwq⟩ : ∃ wq, wq = wr.alloc (Obj.cells #[.bool false, .int .i64 0, .int .u64 0, .int .i64 0, .int .i64 0] 46) := ⟨_, rfl⟩
          obtain ⟨p7, hp7e⟩ : ∃ p7, wr.heap.size = p7 := ⟨_, rfl⟩
          have hp7 : Blk wq p7 46 #[.bool false, .int .i64 0, .int .u64 0, .int .i64 0, .int .i64 0] := by rw [hwq, ← hp7e]; exact Blk.new _ _ _
          have hA : Blk wq w.heap.size 39 #[.int .i64 m1, .slice (some ⟨bp, op, none⟩) ps.length cap1] := by rw [hwq]; exact Blk.alloc HIN.out.1 _
          have hBb : Blk wq (w.heap.size + 1) 39 #[.int .i64 m2, .slice (some ⟨bq, oq, none⟩) qs.length cap2] := by rw [hwq]; exact Blk.alloc HIN.out.2.1 _
          have hZ : Blk wq (w.heap.size + 1 + 1) 39 #[.int .i64 0, .slice none 0 0] := by rw [hwq]; exact Blk.alloc HIN.out.2.2.1 _
          have hG : Blk wq (w.heap.size + 1 + 1 + 1) 39 #[.int .i64 cn, vk] := by rw [hwq]; exact Blk.alloc HIN.out.2.2.2.1 _
          have hBw : Below w.heap.size w wq := by rw [hwq]; exact Below.al HIN.out.2.2.2.2.1 _
          have hO : wq.ownsRow (w.heap.size + 4) 46 5 vk k (partsC ((List.range k).map (mergeF ps qs M))) := by rw [hwq]; exact HIN.out.2.2.2.2.2.alloc _
          have hlo : ∀ g, vk.ownBlock = some g → g < p7 := fun g hg => by have := (HIN.out.2.2.2.2.2.lt g hg).2; omega
          have hl1' : ∀ j, j < 5 → wq.cell? ⟨bp, op + k * 5 + j, none⟩ = (#[.bool p.any, .int .i64 (hiW p.sum), .int .u64 (loW p.sum), .int .i64 p.mn, .int .i64 p.mx])[j]? := fun j hj => by rw [hwq]; exact (World.cell?_of_block (Below.heap_alloc wr _ _ (by show bp < wr.heap.size; omega))).trans (hl1 j hj)
          have HL1 := Lib.hid hl1'
          clear hl1 hl1'
          have hl2' : ∀ j, j < 5 → wq.cell? ⟨bq, oq + k * 5 + j, none⟩ = (#[.bool q.any, .int .i64 (hiW q.sum), .int .u64 (loW q.sum), .int .i64 q.mn, .int .i64 q.mx])[j]? := fun j hj => by rw [hwq]; exact (World.cell?_of_block (Below.heap_alloc wr _ _ (by show bq < wr.heap.size; omega))).trans (hl2 j hj)
          have HL2 := Lib.hid hl2'
          clear hl2 hl2'
          rw [← hwq, hp7e]
          rw [hp7e] at hlG
          clear hwq hp7e HIN ca cb
          have ca : wq.cell? ⟨w.heap.size, 1, none⟩ = some (.slice (some ⟨bp, op, none⟩) ps.length cap1) := Blk.cell hA 1
          have cb : wq.cell? ⟨w.heap.size + 1, 1, none⟩ = some (.slice (some ⟨bq, oq, none⟩) qs.length cap2) := Blk.cell hBb 1
          go_wp2_with fail
          refine hp_start (fun w' => Below p7 wq w') 12 rfl (by kernel_rfl) (fun c a a' w hd h => ⟨hd ▸ h.1, h.2⟩) (fun hP => ?_)
          rw [show Array.replicate 12 false = #[false, false, false, false, false, false, false, false, false, false, false, false] from rfl]
          have HS0 : Below p7 wq wq.drew := (Below.refl _ _).drew
          refine hp_take hP 0 (some 28) _ rfl rfl (by kernel_rfl) rfl (fun w' hS' => by go_simp; rfl) HS0 ?_
          simp only [Act.put, List.setIfInBounds_toArray, List.set_cons_zero, List.set_cons_succ]
          refine hp_take hP 1 (some 29) _ rfl rfl (by kernel_rfl) rfl (fun w' hS' => by have cc := (hS'.cell (show w.heap.size < p7 by omega)).trans ca; go_simp; rfl) HS0 ?_
          simp only [Act.put, List.setIfInBounds_toArray, List.set_cons_zero, List.set_cons_succ]
          refine hp_take hP 2 (some 30) _ rfl rfl (by kernel_rfl) rfl (fun w' hS' => by go_simp; rfl) HS0 ?_
          simp only [Act.put, List.setIfInBounds_toArray, List.set_cons_zero, List.set_cons_succ]
          refine hp_take hP 3 (some 31) _ rfl rfl (by kernel_rfl) rfl (fun w' hS' => by go_simp; rfl) HS0 ?_
          simp only [Act.put, List.setIfInBounds_toArray, List.set_cons_zero, List.set_cons_succ]
          refine hp_load_at hP 4 (some 32) rfl rfl (by kernel_rfl) rfl 46 _ rfl bp (op + k * 5) rfl #[.bool p.any, .int .i64 (hiW p.sum), .int .u64 (loW p.sum), .int .i64 p.mn, .int .i64 p.mx] _ (fun w' hS' j hj => by rw [hS'.cell (show bp < p7 by omega)]; exact HL1.out j hj) Try.underlying46 rfl info46s HS0 ?_
          simp only [Act.put, List.setIfInBounds_toArray, List.set_cons_zero, List.set_cons_succ]
          refine hp_take hP 5 (some 33) _ rfl rfl (by kernel_rfl) rfl (fun w' hS' => by go_simp; rfl) HS0 ?_
          simp only [Act.put, List.setIfInBounds_toArray, List.set_cons_zero, List.set_cons_succ]
          refine hp_take hP 6 (some 34) _ rfl rfl (by kernel_rfl) rfl (fun w' hS' => by have cc := (hS'.cell (show w.heap.size + 1 < p7 by omega)).trans cb; go_simp; rfl) HS0 ?_
          simp only [Act.put, List.setIfInBounds_toArray, List.set_cons_zero, List.set_cons_succ]
          refine hp_take hP 7 (some 35) _ rfl rfl (by kernel_rfl) rfl (fun w' hS' => by go_simp; rfl) HS0 ?_
          simp only [Act.put, List.setIfInBounds_toArray, List.set_cons_zero, List.set_cons_succ]
          refine hp_take hP 8 (some 36) _ rfl rfl (by kernel_rfl) rfl (fun w' hS' => by go_simp; rfl) HS0 ?_
          simp only [Act.put, List.setIfInBounds_toArray, List.set_cons_zero, List.set_cons_succ]
          refine hp_load_at hP 9 (some 37) rfl rfl (by kernel_rfl) rfl 46 _ rfl bq (oq + k * 5) rfl #[.bool q.any, .int .i64 (hiW q.sum), .int .u64 (loW q.sum), .int .i64 q.mn, .int .i64 q.mx] _ (fun w' hS' j hj => by rw [hS'.cell (show bq < p7 by omega)]; exact HL2.out j hj) Try.underlying46 rfl info46s HS0 ?_
          simp only [Act.put, List.setIfInBounds_toArray, List.set_cons_zero, List.set_cons_succ]
          refine hp_call 10 (some 38) rfl rfl (by kernel_rfl) rfl 45 #[.agg #[.bool p.any, .int .i64 (hiW p.sum), .int .u64 (loW p.sum), .int .i64 p.mn, .int .i64 p.mx], .agg #[.bool q.any, .int .i64 (hiW q.sum), .int .u64 (loW q.sum), .int .i64 q.mn, .int .i64 q.mx]] (by go_simp; try rfl) ((part45 p q _).mono ?_)
          rintro e w3 ⟨rfl, hB3⟩
          have HS1 : Below p7 wq w3 := HS0.trans (hB3.mono (by have := Blk.lt hp7; have e : wq.drew.heap.size = wq.heap.size := rfl; omega))
          refine ⟨_, rfl, HS1, ?_⟩
          unfold partV
          simp only [Act.put, List.setIfInBounds_toArray, List.set_cons_zero, List.set_cons_succ]
          have hp73 := Blk.below (Blk.drew hp7) hB3 (Blk.lt (Blk.drew hp7))
          obtain ⟨y, hy⟩ : ∃ y, bothP p q = y := ⟨_, rfl⟩
          rw [hy]
          refine hp_store_row 11 rfl rfl (by kernel_rfl) rfl 46 _ _ rfl p7 #[.bool y.any, .int .i64 (hiW y.sum), .int .u64 (loW y.sum), .int .i64 y.mn, .int .i64 y.mx] rfl rfl 46 _ hp73 info46s rfl (by simp [Value.oneCell']) (Below.setRow HS1 (Nat.le_refl _) _) ?_
          simp only [List.setIfInBounds_toArray, List.set_cons_zero, List.set_cons_succ]
          refine hk_done (by kernel_rfl) ?_
          have hB4 : Below wq.heap.size wq w3 := ((Below.refl wq.heap.size wq).drew).trans hB3
          have hA4 := Blk.otherRow (cs' := #[.bool y.any, .int .i64 (hiW y.sum), .int .u64 (loW y.sum), .int .i64 y.mn, .int .i64 y.mx]) (Blk.below hA hB4 (Blk.lt hA)) (show w.heap.size ≠ p7 by omega)
          have hBb4 := Blk.otherRow (cs' := #[.bool y.any, .int .i64 (hiW y.sum), .int .u64 (loW y.sum), .int .i64 y.mn, .int .i64 y.mx]) (Blk.below hBb hB4 (Blk.lt hBb)) (show w.heap.size + 1 ≠ p7 by omega)
          have hZ4 := Blk.otherRow (cs' := #[.bool y.any, .int .i64 (hiW y.sum), .int .u64 (loW y.sum), .int .i64 y.mn, .int .i64 y.mx]) (Blk.below hZ hB4 (Blk.lt hZ)) (show w.heap.size + 1 + 1 ≠ p7 by omega)
          have hG4 := Blk.otherRow (cs' := #[.bool y.any, .int .i64 (hiW y.sum), .int .u64 (loW y.sum), .int .i64 y.mn, .int .i64 y.mx]) (Blk.below hG hB4 (Blk.lt hG)) (show w.heap.size + 1 + 1 + 1 ≠ p7 by omega)
          have hp74 := Blk.setRow (cs' := #[.bool y.any, .int .i64 (hiW y.sum), .int .u64 (loW y.sum), .int .i64 y.mn, .int .i64 y.mx]) hp73
          have hown4 := owns_row_oth (owns_below hO hB4 (Nat.le_refl _)) (g5 := p7) (fun g hg => by have := hlo g hg; omega) #[.bool y.any, .int .i64 (hiW y.sum), .int .u64 (loW y.sum), .int .i64 y.mn, .int .i64 y.mx]
          have hBw4 := Below.setRow (Below.call hBw hB4) (show w.heap.size ≤ p7 by omega) #[.bool y.any, .int .i64 (hiW y.sum), .int .u64 (loW y.sum), .int .i64 y.mn, .int .i64 y.mx]
          have hyf : y = mergeF ps qs M k := by unfold mergeF; rw [if_pos (by have := HM.out; omega), HP1.out, HP2.out, hy]
          generalize w3.setRow p7 #[.bool y.any, .int .i64 (hiW y.sum), .int .u64 (loW y.sum), .int .i64 y.mn, .int .i64 y.mx] = w4 at *
          clear HS0 HS1 hB3 hB4 hp73 hA hBb hZ hG hO hBw hp7 hP ca cb hy
          have HY := Lib.hid hyf
          clear hyf
          have HG := Lib.hid hG4
          have lG := Blk.lt hG4
          have g1 : w4.cell? ⟨w.heap.size + 1 + 1 + 1, 1, none⟩ = some vk := Blk.cell hG4 1
          have HO := Lib.hid hown4
          have HP7 := Lib.hid hp74
          have HAZ := Lib.hid (And.intro hA4 (And.intro hBb4 (And.intro hZ4 hBw4)))
          clear hG4 hown4 hp74 hA4 hBb4 hZ4 hBw4
          go_upto_region 4 with (first
            | (refine wpList_load_at rfl 46 _ rfl p7 0 rfl #[.bool y.any, .int .i64 (hiW y.sum), .int .u64 (loW y.sum), .int .i64 y.mn, .int .i64 y.mx] _ (fun j hj => by rw [Nat.zero_add]; exact Blk.cell HP7.out j) Try.underlying46 rfl info46s ?_)
            | (at_builtin; refine wpList_append_own _ rfl _ _ 37 rfl (w.heap.size + 4) 46 i0 (.agg #[.bool false, .int .i64 0, .int .u64 0, .int .i64 0, .int .i64 0]) 5 40 Try.underlying37 hi hz0 hz1 hz2 rfl (by decide) _ _ _ rfl (HO.out.alloc _) ⟨w4.heap.size, 0, none⟩ 1 1 (partA y).toList rfl rfl (cells_new w4 46 (partA y)) (partA_one y) (by unfold maxLen; omega) (by omega) (by simp; omega) ?_; intro vn w6 hown6 hgrow _; obtain ⟨an, ccn, rfl⟩ := owns_form hown6; have g6 : w6.cell? ⟨w.heap.size + 1 + 1 + 1, 1, none⟩ = some vk := Blk.cell (Blk.grown (Blk.alloc HG.out _) hgrow (fun e => by have h1 := HO.out.lt _ e.symm; omega)) 1; have f6 : w6.frozen? ⟨w.heap.size + 1 + 1 + 1, 1, none⟩ = false := Blk.free (Blk.grown (Blk.alloc HG.out _) hgrow (fun e => by have h1 := HO.out.lt _ e.symm; omega)) 1; have HOWN := Lib.hid hown6; have HGR := Lib.hid hgrow; clear hown6 hgrow))
          have hne : ∀ b, b < w.heap.size + 4 → some b ≠ vk.ownBlock := fun b hb e => by have h1 := HO.out.lt _ e.symm; omega
          have hA7 := Blk.other (Blk.grown (Blk.alloc HAZ.out.1 (Obj.cells (partA y) 46)) HGR.out (hne _ (by omega))) (p := ⟨w.heap.size + 1 + 1 + 1, 1, none⟩) (by show w.heap.size + 1 + 1 + 1 ≠ w.heap.size; omega) (.slice an (k + 1) ccn)
          have hBb7 := Blk.other (Blk.grown (Blk.alloc HAZ.out.2.1 (Obj.cells (partA y) 46)) HGR.out (hne _ (by omega))) (p := ⟨w.heap.size + 1 + 1 + 1, 1, none⟩) (by show w.heap.size + 1 + 1 + 1 ≠ w.heap.size + 1; omega) (.slice an (k + 1) ccn)
          have hZ7 := Blk.other (Blk.grown (Blk.alloc HAZ.out.2.2.1 (Obj.cells (partA y) 46)) HGR.out (hne _ (by omega))) (p := ⟨w.heap.size + 1 + 1 + 1, 1, none⟩) (by show w.heap.size + 1 + 1 + 1 ≠ w.heap.size + 1 + 1; omega) (.slice an (k + 1) ccn)
          have hG7 := Blk.set (Blk.grown (Blk.alloc HG.out (Obj.cells (partA y) 46)) HGR.out (hne _ (by omega))) 1 (.slice an (k + 1) ccn)
          have hB7 := Below.setCell (Below.grown (Below.al HAZ.out.2.2.2 (Obj.cells (partA y) 46)) HGR.out (by simp; omega) (fun b hb => by have := (HO.out.lt b hb).1; omega)) (p := ⟨w.heap.size + 1 + 1 + 1, 1, none⟩) (by show w.heap.size ≤ w.heap.size + 1 + 1 + 1; omega) (.slice an (k + 1) ccn)
          have hO7 : (w6.setCell ⟨w.heap.size + 1 + 1 + 1, 1, none⟩ (.slice an (k + 1) ccn)).ownsRow (w.heap.size + 4) 46 5 (.slice an (k + 1) ccn) (k + 1) (partsC ((List.range (k + 1)).map (mergeF ps qs M))) := by
            rw [mergeTo_succ, partsC_snoc, ← HY.out]
            exact ownsRow_setCell_below HOWN.out (by show w.heap.size + 1 + 1 + 1 < w.heap.size + 4; omega) _
          have HE := Lib.hid (And.intro hA7 (And.intro hBb7 (And.intro hZ7 (And.intro hG7 (And.intro hB7 hO7)))))
          clear hA7 hBb7 hZ7 hG7 hB7 hO7 hne HOWN HGR HG HO HP7 HAZ g1
          generalize w6.setCell ⟨w.heap.size + 1 + 1 + 1, 1, none⟩ (.slice an (k + 1) ccn) = w8 at *
          clear g6 f6
          go_wp2_with fail
          go_roundw
          case rel =>
            exact ⟨k + 1, .slice an (k + 1) ccn, by omega, by go_num, HE.out.1, HE.out.2.1, HE.out.2.2.1, HE.out.2.2.2.1, HE.out.2.2.2.2.1, HE.out.2.2.2.2.2⟩
          case measure => simp [intOf]; omega
        · skip
          have d1 : decide ((k : Int) < ps.length) = true := by simp; omega
          have d2 : decide (k < ps.length) = true := by simp; omega
          have d3 : decide ((k : Int) < qs.length) = false := by simp; omega
          have d4 : decide (k < qs.length) = false := by simp; omega
          have d5 : decide ((ps.length : Int) ≤ (k : Int)) = false := by simp; omega
          have d6 : decide (ps.length ≤ k) = false := by simp; omega
          have d7 : decide ((qs.length : Int) ≤ (k : Int)) = true := by simp; omega
          have d8 : decide (qs.length ≤ k) = true := by simp; omega
          have hkpI : (k : Int) < ps.length := by omega
          obtain ⟨bp, op, rfl, hbp, hl1⟩ := HL1'.out (by omega)
          go_upto_region 7 with (fail)
          obtain ⟨wq, hwq⟩ : ∃ wq, wq = wr.alloc (Obj.cells #[.bool false, .int .i64 0, .int .u64 0, .int .i64 0, .int .i64 0] 46) := ⟨_, rfl⟩
          obtain ⟨p7, hp7e⟩ : ∃ p7, wr.heap.size = p7 := ⟨_, rfl⟩
          have hp7 : Blk wq p7 46 #[.bool false, .int .i64 0, .int .u64 0, .int .i64 0, .int .i64 0] := by rw [hwq, ← hp7e]; exact Blk.new _ _ _
          have hA : Blk wq w.heap.size 39 #[.int .i64 m1, .slice (some ⟨bp, op, none⟩) ps.length cap1] := by rw [hwq]; exact Blk.alloc HIN.out.1 _
          have hBb : Blk wq (w.heap.size + 1) 39 #[.int .i64 m2, .slice a2 qs.length cap2] := by rw [hwq]; exact Blk.alloc HIN.out.2.1 _
          have hZ : Blk wq (w.heap.size + 1 + 1) 39 #[.int .i64 0, .slice none 0 0] := by rw [hwq]; exact Blk.alloc HIN.out.2.2.1 _
          have hG : Blk wq (w.heap.size + 1 + 1 + 1) 39 #[.int .i64 cn, vk] := by rw [hwq]; exact Blk.alloc HIN.out.2.2.2.1 _
          have hBw : Below w.heap.size w wq := by rw [hwq]; exact Below.al HIN.out.2.2.2.2.1 _
          have hO : wq.ownsRow (w.heap.size + 4) 46 5 vk k (partsC ((List.range k).map (mergeF ps qs M))) := by rw [hwq]; exact HIN.out.2.2.2.2.2.alloc _
          have hlo : ∀ g, vk.ownBlock = some g → g < p7 := fun g hg => by have := (HIN.out.2.2.2.2.2.lt g hg).2; omega
          have hl1' : ∀ j, j < 5 → wq.cell? ⟨bp, op + k * 5 + j, none⟩ = (#[.bool p.any, .int .i64 (hiW p.sum), .int .u64 (loW p.sum), .int .i64 p.mn, .int .i64 p.mx])[j]? := fun j hj => by rw [hwq]; exact (World.cell?_of_block (Below.heap_alloc wr _ _ (by show bp < wr.heap.size; omega))).trans (hl1 j hj)
          have HL1 := Lib.hid hl1'
          clear hl1 hl1'
          rw [← hwq, hp7e]
          rw [hp7e] at hlG
          clear hwq hp7e HIN ca cb
          have ca : wq.cell? ⟨w.heap.size, 1, none⟩ = some (.slice (some ⟨bp, op, none⟩) ps.length cap1) := Blk.cell hA 1
          have cb : wq.cell? ⟨w.heap.size + 1, 1, none⟩ = some (.slice a2 qs.length cap2) := Blk.cell hBb 1
          go_upto_region 11 with (first | (refine wpList_load_at rfl 46 _ rfl bp (op + k * 5) rfl #[.bool p.any, .int .i64 (hiW p.sum), .int .u64 (loW p.sum), .int .i64 p.mn, .int .i64 p.mx] _ (fun j hj => HL1.out j hj) Try.underlying46 rfl info46s ?_) | (refine wpList_store_row rfl 46 _ _ rfl p7 #[.bool p.any, .int .i64 (hiW p.sum), .int .u64 (loW p.sum), .int .i64 p.mn, .int .i64 p.mx] rfl rfl 46 _ hp7 info46s rfl (by simp [Value.oneCell']) ?_))
          have hA4 := Blk.otherRow (cs' := #[.bool p.any, .int .i64 (hiW p.sum), .int .u64 (loW p.sum), .int .i64 p.mn, .int .i64 p.mx]) hA (show w.heap.size ≠ p7 by omega)
          have hBb4 := Blk.otherRow (cs' := #[.bool p.any, .int .i64 (hiW p.sum), .int .u64 (loW p.sum), .int .i64 p.mn, .int .i64 p.mx]) hBb (show w.heap.size + 1 ≠ p7 by omega)
          have hZ4 := Blk.otherRow (cs' := #[.bool p.any, .int .i64 (hiW p.sum), .int .u64 (loW p.sum), .int .i64 p.mn, .int .i64 p.mx]) hZ (show w.heap.size + 1 + 1 ≠ p7 by omega)
          have hG4 := Blk.otherRow (cs' := #[.bool p.any, .int .i64 (hiW p.sum), .int .u64 (loW p.sum), .int .i64 p.mn, .int .i64 p.mx]) hG (show w.heap.size + 1 + 1 + 1 ≠ p7 by omega)
          have hp74 := Blk.setRow (cs' := #[.bool p.any, .int .i64 (hiW p.sum), .int .u64 (loW p.sum), .int .i64 p.mn, .int .i64 p.mx]) hp7
          have hown4 := owns_row_oth hO (g5 := p7) (fun g hg => by have := hlo g hg; omega) #[.bool p.any, .int .i64 (hiW p.sum), .int .u64 (loW p.sum), .int .i64 p.mn, .int .i64 p.mx]
          have hBw4 := Below.setRow hBw (show w.heap.size ≤ p7 by omega) #[.bool p.any, .int .i64 (hiW p.sum), .int .u64 (loW p.sum), .int .i64 p.mn, .int .i64 p.mx]
          have hyf : p = mergeF ps qs M k := by unfold mergeF longL; rw [if_neg (by have := HM.out; omega), if_neg (by have := HT2.out; omega), HP1.out]
          generalize wq.setRow p7 #[.bool p.any, .int .i64 (hiW p.sum), .int .u64 (loW p.sum), .int .i64 p.mn, .int .i64 p.mx] = w4 at *
          clear hA hBb hZ hG hO hBw hp7 ca cb
          have HY := Lib.hid hyf
          clear hyf
          have HG := Lib.hid hG4
          have lG := Blk.lt hG4
          have g1 : w4.cell? ⟨w.heap.size + 1 + 1 + 1, 1, none⟩ = some vk := Blk.cell hG4 1
          have HO := Lib.hid hown4
          have HP7 := Lib.hid hp74
          have HAZ := Lib.hid (And.intro hA4 (And.intro hBb4 (And.intro hZ4 hBw4)))
          clear hG4 hown4 hp74 hA4 hBb4 hZ4 hBw4
          go_upto_region 4 with (first
            | (refine wpList_load_at rfl 46 _ rfl p7 0 rfl #[.bool p.any, .int .i64 (hiW p.sum), .int .u64 (loW p.sum), .int .i64 p.mn, .int .i64 p.mx] _ (fun j hj => by rw [Nat.zero_add]; exact Blk.cell HP7.out j) Try.underlying46 rfl info46s ?_)
            | (at_builtin; refine wpList_append_own _ rfl _ _ 37 rfl (w.heap.size + 4) 46 i0 (.agg #[.bool false, .int .i64 0, .int .u64 0, .int .i64 0, .int .i64 0]) 5 40 Try.underlying37 hi hz0 hz1 hz2 rfl (by decide) _ _ _ rfl (HO.out.alloc _) ⟨w4.heap.size, 0, none⟩ 1 1 (partA p).toList rfl rfl (cells_new w4 46 (partA p)) (partA_one p) (by unfold maxLen; omega) (by omega) (by simp; omega) ?_; intro vn w6 hown6 hgrow _; obtain ⟨an, ccn, rfl⟩ := owns_form hown6; have g6 : w6.cell? ⟨w.heap.size + 1 + 1 + 1, 1, none⟩ = some vk := Blk.cell (Blk.grown (Blk.alloc HG.out _) hgrow (fun e => by have h1 := HO.out.lt _ e.symm; omega)) 1; have f6 : w6.frozen? ⟨w.heap.size + 1 + 1 + 1, 1, none⟩ = false := Blk.free (Blk.grown (Blk.alloc HG.out _) hgrow (fun e => by have h1 := HO.out.lt _ e.symm; omega)) 1; have HOWN := Lib.hid hown6; have HGR := Lib.hid hgrow; clear hown6 hgrow))
          have hne : ∀ b, b < w.heap.size + 4 → some b ≠ vk.ownBlock := fun b hb e => by have h1 := HO.out.lt _ e.symm; omega
          have hA7 := Blk.other (Blk.grown (Blk.alloc HAZ.out.1 (Obj.cells (partA p) 46)) HGR.out (hne _ (by omega))) (p := ⟨w.heap.size + 1 + 1 + 1, 1, none⟩) (by show w.heap.size + 1 + 1 + 1 ≠ w.heap.size; omega) (.slice an (k + 1) ccn)
          have hBb7 := Blk.other (Blk.grown (Blk.alloc HAZ.out.2.1 (Obj.cells (partA p) 46)) HGR.out (hne _ (by omega))) (p := ⟨w.heap.size + 1 + 1 + 1, 1, none⟩) (by show w.heap.size + 1 + 1 + 1 ≠ w.heap.size + 1; omega) (.slice an (k + 1) ccn)
          have hZ7 := Blk.other (Blk.grown (Blk.alloc HAZ.out.2.2.1 (Obj.cells (partA p) 46)) HGR.out (hne _ (by omega))) (p := ⟨w.heap.size + 1 + 1 + 1, 1, none⟩) (by show w.heap.size + 1 + 1 + 1 ≠ w.heap.size + 1 + 1; omega) (.slice an (k + 1) ccn)
          have hG7 := Blk.set (Blk.grown (Blk.alloc HG.out (Obj.cells (partA p) 46)) HGR.out (hne _ (by omega))) 1 (.slice an (k + 1) ccn)
          have hB7 := Below.setCell (Below.grown (Below.al HAZ.out.2.2.2 (Obj.cells (partA p) 46)) HGR.out (by simp; omega) (fun b hb => by have := (HO.out.lt b hb).1; omega)) (p := ⟨w.heap.size + 1 + 1 + 1, 1, none⟩) (by show w.heap.size ≤ w.heap.size + 1 + 1 + 1; omega) (.slice an (k + 1) ccn)
          have hO7 : (w6.setCell ⟨w.heap.size + 1 + 1 + 1, 1, none⟩ (.slice an (k + 1) ccn)).ownsRow (w.heap.size + 4) 46 5 (.slice an (k + 1) ccn) (k + 1) (partsC ((List.range (k + 1)).map (mergeF ps qs M))) := by
            rw [mergeTo_succ, partsC_snoc, ← HY.out]
            exact ownsRow_setCell_below HOWN.out (by show w.heap.size + 1 + 1 + 1 < w.heap.size + 4; omega) _
          have HE := Lib.hid (And.intro hA7 (And.intro hBb7 (And.intro hZ7 (And.intro hG7 (And.intro hB7 hO7)))))
          clear hA7 hBb7 hZ7 hG7 hB7 hO7 hne HOWN HGR HG HO HP7 HAZ g1
          generalize w6.setCell ⟨w.heap.size + 1 + 1 + 1, 1, none⟩ (.slice an (k + 1) ccn) = w8 at *
          clear g6 f6
          go_wp2_with fail
          go_roundw
          case rel =>
            exact ⟨k + 1, .slice an (k + 1) ccn, by omega, by go_num, HE.out.1, HE.out.2.1, HE.out.2.2.1, HE.out.2.2.2.1, HE.out.2.2.2.2.1, HE.out.2.2.2.2.2⟩
          case measure => simp [intOf]; omega
      · have hkq : k < qs.length := by have := HT2.out; omega
        have d1 : decide ((k : Int) < ps.length) = false := by simp; omega
        have d2 : decide (k < ps.length) = false := by simp; omega
        have d3 : decide ((k : Int) < qs.length) = true := by simp; omega
        have d4 : decide (k < qs.length) = true := by simp; omega
        have d5 : decide ((ps.length : Int) ≤ (k : Int)) = true := by simp; omega
        have d6 : decide (ps.length ≤ k) = true := by simp; omega
        have d7 : decide ((qs.length : Int) ≤ (k : Int)) = false := by simp; omega
        have d8 : decide (qs.length ≤ k) = false := by simp; omega
        have hkqI : (k : Int) < qs.length := by omega
        obtain ⟨bq, oq, rfl, hbq, hl2⟩ := HL2'.out (by omega)
        go_upto_region 7 with (fail)
        obtain ⟨wq, hwq⟩ : ∃ wq, wq = wr.alloc (Obj.cells #[.bool false, .int .i64 0, .int .u64 0, .int .i64 0, .int .i64 0] 46) := ⟨_, rfl⟩
        obtain ⟨p7, hp7e⟩ : ∃ p7, wr.heap.size = p7 := ⟨_, rfl⟩
        have hp7 : Blk wq p7 46 #[.bool false, .int .i64 0, .int .u64 0, .int .i64 0, .int .i64 0] := by rw [hwq, ← hp7e]; exact Blk.new _ _ _
        have hA : Blk wq w.heap.size 39 #[.int .i64 m1, .slice a1 ps.length cap1] := by rw [hwq]; exact Blk.alloc HIN.out.1 _
        have hBb : Blk wq (w.heap.size + 1) 39 #[.int .i64 m2, .slice (some ⟨bq, oq, none⟩) qs.length cap2] := by rw [hwq]; exact Blk.alloc HIN.out.2.1 _
        have hZ : Blk wq (w.heap.size + 1 + 1) 39 #[.int .i64 0, .slice none 0 0] := by rw [hwq]; exact Blk.alloc HIN.out.2.2.1 _
        have hG : Blk wq (w.heap.size + 1 + 1 + 1) 39 #[.int .i64 cn, vk] := by rw [hwq]; exact Blk.alloc HIN.out.2.2.2.1 _
        have hBw : Below w.heap.size w wq := by rw [hwq]; exact Below.al HIN.out.2.2.2.2.1 _
        have hO : wq.ownsRow (w.heap.size + 4) 46 5 vk k (partsC ((List.range k).map (mergeF ps qs M))) := by rw [hwq]; exact HIN.out.2.2.2.2.2.alloc _
        have hlo : ∀ g, vk.ownBlock = some g → g < p7 := fun g hg => by have := (HIN.out.2.2.2.2.2.lt g hg).2; omega
        have hl2' : ∀ j, j < 5 → wq.cell? ⟨bq, oq + k * 5 + j, none⟩ = (#[.bool q.any, .int .i64 (hiW q.sum), .int .u64 (loW q.sum), .int .i64 q.mn, .int .i64 q.mx])[j]? := fun j hj => by rw [hwq]; exact (World.cell?_of_block (Below.heap_alloc wr _ _ (by show bq < wr.heap.size; omega))).trans (hl2 j hj)
        have HL2 := Lib.hid hl2'
        clear hl2 hl2'
        rw [← hwq, hp7e]
        rw [hp7e] at hlG
        clear hwq hp7e HIN ca cb
        have ca : wq.cell? ⟨w.heap.size, 1, none⟩ = some (.slice a1 ps.length cap1) := Blk.cell hA 1
        have cb : wq.cell? ⟨w.heap.size + 1, 1, none⟩ = some (.slice (some ⟨bq, oq, none⟩) qs.length cap2) := Blk.cell hBb 1
        go_upto_region 11 with (first | (refine wpList_load_at rfl 46 _ rfl bq (oq + k * 5) rfl #[.bool q.any, .int .i64 (hiW q.sum), .int .u64 (loW q.sum), .int .i64 q.mn, .int .i64 q.mx] _ (fun j hj => HL2.out j hj) Try.underlying46 rfl info46s ?_) | (refine wpList_store_row rfl 46 _ _ rfl p7 #[.bool q.any, .int .i64 (hiW q.sum), .int .u64 (loW q.sum), .int .i64 q.mn, .int .i64 q.mx] rfl rfl 46 _ hp7 info46s rfl (by simp [Value.oneCell']) ?_))
        have hA4 := Blk.otherRow (cs' := #[.bool q.any, .int .i64 (hiW q.sum), .int .u64 (loW q.sum), .int .i64 q.mn, .int .i64 q.mx]) hA (show w.heap.size ≠ p7 by omega)
        have hBb4 := Blk.otherRow (cs' := #[.bool q.any, .int .i64 (hiW q.sum), .int .u64 (loW q.sum), .int .i64 q.mn, .int .i64 q.mx]) hBb (show w.heap.size + 1 ≠ p7 by omega)
        have hZ4 := Blk.otherRow (cs' := #[.bool q.any, .int .i64 (hiW q.sum), .int .u64 (loW q.sum), .int .i64 q.mn, .int .i64 q.mx]) hZ (show w.heap.size + 1 + 1 ≠ p7 by omega)
        have hG4 := Blk.otherRow (cs' := #[.bool q.any, .int .i64 (hiW q.sum), .int .u64 (loW q.sum), .int .i64 q.mn, .int .i64 q.mx]) hG (show w.heap.size + 1 + 1 + 1 ≠ p7 by omega)
        have hp74 := Blk.setRow (cs' := #[.bool q.any, .int .i64 (hiW q.sum), .int .u64 (loW q.sum), .int .i64 q.mn, .int .i64 q.mx]) hp7
        have hown4 := owns_row_oth hO (g5 := p7) (fun g hg => by have := hlo g hg; omega) #[.bool q.any, .int .i64 (hiW q.sum), .int .u64 (loW q.sum), .int .i64 q.mn, .int .i64 q.mx]
        have hBw4 := Below.setRow hBw (show w.heap.size ≤ p7 by omega) #[.bool q.any, .int .i64 (hiW q.sum), .int .u64 (loW q.sum), .int .i64 q.mn, .int .i64 q.mx]
        have hyf : q = mergeF ps qs M k := by unfold mergeF longL; rw [if_neg (by have := HM.out; omega), if_pos (by have := HT2.out; omega), HP2.out]
        generalize wq.setRow p7 #[.bool q.any, .int .i64 (hiW q.sum), .int .u64 (loW q.sum), .int .i64 q.mn, .int .i64 q.mx] = w4 at *
        clear hA hBb hZ hG hO hBw hp7 ca cb
        have HY := Lib.hid hyf
        clear hyf
        have HG := Lib.hid hG4
        have lG := Blk.lt hG4
        have g1 : w4.cell? ⟨w.heap.size + 1 + 1 + 1, 1, none⟩ = some vk := Blk.cell hG4 1
        have HO := Lib.hid hown4
        have HP7 := Lib.hid hp74
        have HAZ := Lib.hid (And.intro hA4 (And.intro hBb4 (And.intro hZ4 hBw4)))
        clear hG4 hown4 hp74 hA4 hBb4 hZ4 hBw4
        go_upto_region 4 with (first
          | (refine wpList_load_at rfl 46 _ rfl p7 0 rfl #[.bool q.any, .int .i64 (hiW q.sum), .int .u64 (loW q.sum), .int .i64 q.mn, .int .i64 q.mx] _ (fun j hj => by rw [Nat.zero_add]; exact Blk.cell HP7.out j) Try.underlying46 rfl info46s ?_)
          | (at_builtin; refine wpList_append_own _ rfl _ _ 37 rfl (w.heap.size + 4) 46 i0 (.agg #[.bool false, .int .i64 0, .int .u64 0, .int .i64 0, .int .i64 0]) 5 40 Try.underlying37 hi hz0 hz1 hz2 rfl (by decide) _ _ _ rfl (HO.out.alloc _) ⟨w4.heap.size, 0, none⟩ 1 1 (partA q).toList rfl rfl (cells_new w4 46 (partA q)) (partA_one q) (by unfold maxLen; omega) (by omega) (by simp; omega) ?_; intro vn w6 hown6 hgrow _; obtain ⟨an, ccn, rfl⟩ := owns_form hown6; have g6 : w6.cell? ⟨w.heap.size + 1 + 1 + 1, 1, none⟩ = some vk := Blk.cell (Blk.grown (Blk.alloc HG.out _) hgrow (fun e => by have h1 := HO.out.lt _ e.symm; omega)) 1; have f6 : w6.frozen? ⟨w.heap.size + 1 + 1 + 1, 1, none⟩ = false := Blk.free (Blk.grown (Blk.alloc HG.out _) hgrow (fun e => by have h1 := HO.out.lt _ e.symm; omega)) 1; have HOWN := Lib.hid hown6; have HGR := Lib.hid hgrow; clear hown6 hgrow))
        have hne : ∀ b, b < w.heap.size + 4 → some b ≠ vk.ownBlock := fun b hb e => by have h1 := HO.out.lt _ e.symm; omega
        have hA7 := Blk.other (Blk.grown (Blk.alloc HAZ.out.1 (Obj.cells (partA q) 46)) HGR.out (hne _ (by omega))) (p := ⟨w.heap.size + 1 + 1 + 1, 1, none⟩) (by show w.heap.size + 1 + 1 + 1 ≠ w.heap.size; omega) (.slice an (k + 1) ccn)
        have hBb7 := Blk.other (Blk.grown (Blk.alloc HAZ.out.2.1 (Obj.cells (partA q) 46)) HGR.out (hne _ (by omega))) (p := ⟨w.heap.size + 1 + 1 + 1, 1, none⟩) (by show w.heap.size + 1 + 1 + 1 ≠ w.heap.size + 1; omega) (.slice an (k + 1) ccn)
        have hZ7 := Blk.other (Blk.grown (Blk.alloc HAZ.out.2.2.1 (Obj.cells (partA q) 46)) HGR.out (hne _ (by omega))) (p := ⟨w.heap.size + 1 + 1 + 1, 1, none⟩) (by show w.heap.size + 1 + 1 + 1 ≠ w.heap.size + 1 + 1; omega) (.slice an (k + 1) ccn)
        have hG7 := Blk.set (Blk.grown (Blk.alloc HG.out (Obj.cells (partA q) 46)) HGR.out (hne _ (by omega))) 1 (.slice an (k + 1) ccn)
        have hB7 := Below.setCell (Below.grown (Below.al HAZ.out.2.2.2 (Obj.cells (partA q) 46)) HGR.out (by simp; omega) (fun b hb => by have := (HO.out.lt b hb).1; omega)) (p := ⟨w.heap.size + 1 + 1 + 1, 1, none⟩) (by show w.heap.size ≤ w.heap.size + 1 + 1 + 1; omega) (.slice an (k + 1) ccn)
        have hO7 : (w6.setCell ⟨w.heap.size + 1 + 1 + 1, 1, none⟩ (.slice an (k + 1) ccn)).ownsRow (w.heap.size + 4) 46 5 (.slice an (k + 1) ccn) (k + 1) (partsC ((List.range (k + 1)).map (mergeF ps qs M))) := by
          rw [mergeTo_succ, partsC_snoc, ← HY.out]
          exact ownsRow_setCell_below HOWN.out (by show w.heap.size + 1 + 1 + 1 < w.heap.size + 4; omega) _
        have HE := Lib.hid (And.intro hA7 (And.intro hBb7 (And.intro hZ7 (And.intro hG7 (And.intro hB7 hO7)))))
        clear hA7 hBb7 hZ7 hG7 hB7 hO7 hne HOWN HGR HG HO HP7 HAZ g1
        generalize w6.setCell ⟨w.heap.size + 1 + 1 + 1, 1, none⟩ (.slice an (k + 1) ccn) = w8 at *
        clear g6 f6
        go_wp2_with fail
        go_roundw
        case rel =>
          exact ⟨k + 1, .slice an (k + 1) ccn, by omega, by go_num, HE.out.1, HE.out.2.1, HE.out.2.2.1, HE.out.2.2.2.1, HE.out.2.2.2.2.1, HE.out.2.2.2.2.2⟩
        case measure => simp [intOf]; omega
    · have d1 : decide ((k : Int) < ps.length) = false := by simp; omega
      have d2 : decide (k < ps.length) = false := by simp; omega
      have d3 : decide ((k : Int) < qs.length) = false := by simp; omega
      have d4 : decide (k < qs.length) = false := by simp; omega
      have hkp : k = T := by omega
      have HKP := Lib.hid hkp
      have HO := Lib.hid hO
      clear hlt hkp hO hTT
      go_wp2_with (first | (refine wpList_load_at rfl 39 _ rfl (w.heap.size + 1 + 1 + 1) 0 rfl #[.int .i64 cn, vk] _ (fun j hj => by rw [Nat.zero_add]; exact Blk.cell hG j) Try.underlying39 rfl info39 ?_) | (obtain ⟨ak, ck, ek⟩ := owns_form HO.out; refine wpList_store_row rfl 39 _ _ rfl (w.heap.size + 1 + 1) #[.int .i64 cn, vk] rfl rfl 39 _ hZ info39 rfl (by rw [ek]; simp [Value.oneCell']) ?_))
      refine bodyPost_ret (results_cell_row rfl _ _ (w.heap.size + 1 + 1) 39 _ (0, 0) _ rfl (Blk.setRow hZ) Try.underlying39 rfl info39) rfl ?_
      refine ⟨vk, by rw [← HCN.out, IntWalk.i64_left], ?_, Below.setRow hBw (by omega) _⟩
      have e : mergeL ps qs = (List.range k).map (mergeF ps qs M) := by unfold mergeL; rw [HM.out, HT.out, HKP.out]
      rw [e, ← HKP.out]
      refine owns_base (base := w.heap.size + 4) ?_ (by omega)
      exact owns_row_oth HO.out (g5 := w.heap.size + 1 + 1) (fun g hg => by have := (HO.out.lt g hg).1; omega) _
end Go.Proofs.Ytlhncphnhgbclaa
