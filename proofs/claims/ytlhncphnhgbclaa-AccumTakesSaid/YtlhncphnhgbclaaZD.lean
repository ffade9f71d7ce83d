/- The document's Take. -/
import Derived.Test.YtlhncphnhgbclaaZA
import Derived.Test.YtlhncphnhgbclaaX
import Derived.Test.YtlhncphnhgbclaaY
import Derived.Test.YtlhncphnhgbclaaBase11
import Derived.Deep.DeepCutAuto
namespace Go.Proofs.Ytlhncphnhgbclaa
open Go.RowKit
set_option linter.unusedVariables false
set_option linter.unusedSimpArgs false

theorem part44 (p : Prt) (n : Int) (w : World) (hn : -9223372036854775808 ≤ n ∧ n ≤ 9223372036854775807) :
    Calls Try.prog 44 #[partV p, .int .i64 n] w fun e w' => e = .returned (partV (takeP p n)) ∧ Below w.heap.size w w' := by
  cases h : p.any
  · exact part44_none p n w h hn
  · exact part44_some p n w h hn
theorem cells_new (w : World) (T : TypeId) (cs : Array Value) : ∀ j u, cs.toList[j]? = some u → (w.alloc (.cells cs T)).cell? ((⟨w.heap.size, 0, none⟩ : Addr).add j) = some u := by
  intro j u hj
  have e : (⟨w.heap.size, 0, none⟩ : Addr).add j = ⟨w.heap.size, j, none⟩ := by unfold Addr.add; split <;> simp_all
  rw [e, Blk.cell (Blk.new w T cs)]
  simpa using hj
theorem partsC_snoc (ps : List Prt) (p : Prt) : partsC (ps ++ [p]) = partsC ps ++ (partA p).toList := by
  simp [partsC, partC, partA]
theorem partA_one (p : Prt) : ∀ u ∈ (partA p).toList, u.oneCell' = true := by
  intro u hu
  simp only [partA, List.mem_cons, List.not_mem_nil, or_false] at hu
  rcases hu with rfl | rfl | rfl | rfl | rfl <;> rfl
theorem owns_row_oth {w : World} {base : Nat} {e : TypeId} {size : Nat} {v : Value} {n : Nat} {xs : List Value} (h : w.ownsRow base e size v n xs) {g5 : Nat} (hne : ∀ g, v.ownBlock = some g → g ≠ g5) (cs : Array Value) : (w.setRow g5 cs).ownsRow base e size v n xs := by
  refine ⟨h.1, ?_⟩
  rcases h.2 with h2 | ⟨g, cap, cur, hv, hg, hh, r⟩
  · exact .inl h2
  · exact .inr ⟨g, cap, cur, hv, hg, (setRow_other w g5 g cs (hne g (by rw [hv]; rfl))).trans hh, r⟩
theorem takeTo_succ (ps : List Prt) (ms : List Int) (M k : Nat) : (List.range (k + 1)).map (takeF ps ms M) = (List.range k).map (takeF ps ms M) ++ [takeF ps ms M k] := by
  rw [List.range_succ, List.map_append]; rfl

set_option maxRecDepth 100000 in
set_option maxHeartbeats 8000000 in
theorem take30 (ps : List Prt) (ms : List Int) (cnt : Int) (v v1 : Value) (w : World) (h : RowP w.heap.size w v ps) (h1 : RowI w.heap.size w v1 ms)
    (hb : ps.length * 40 ≤ 140737488351232) (hms : ∀ i, i < ms.length → -9223372036854775808 ≤ ms.getD i 0 ∧ ms.getD i 0 ≤ 9223372036854775807) :
    Calls Try.prog 30 #[.agg #[.int .i64 cnt, v], v1] w fun e w' => ∃ v', e = .returned (.agg #[.int .i64 (wrap64 (cnt + 1)), v']) ∧ w'.ownsRow w.heap.size 46 5 v' ps.length (partsC (takeL ps ms)) ∧ Below w.heap.size w w' := by
  obtain ⟨i0, hi, hz0, hz1, hz2⟩ := info_parts Try.info46
  obtain ⟨a1, cap1, rfl, hcap1, hmax1, hc1⟩ := RowP.open h
  obtain ⟨a2, cap2, rfl, hcap2, hmax2, hc2⟩ := h1.open
  have HC1 := Lib.hid hc1
  have HC2 := Lib.hid hc2
  have HMS := Lib.hid hms
  obtain ⟨cn, hcn⟩ : ∃ cn, IntKind.i64.wrap (cnt + 1) = cn := ⟨_, rfl⟩
  have HCN := Lib.hid hcn
  obtain ⟨M, hM⟩ : ∃ M, min ps.length ms.length = M := ⟨_, rfl⟩
  have HM := Lib.hid hM
  clear hc1 hc2 hms h h1 hM
  go_enter Try.func30, Try.ntmps30
  go_upto_region 3 with (fail)
  clear hcn
  obtain ⟨w1, hw1⟩ : ∃ w1, w1 = ((w.alloc (Obj.cells #[.int .i64 cnt, .slice a1 ps.length cap1] 39)).alloc (Obj.cells #[.int .i64 0, .slice none 0 0] 39)).alloc (Obj.cells #[.int .i64 cn, .slice none 0 0] 39) := ⟨_, rfl⟩
  have hA : Blk w1 w.heap.size 39 #[.int .i64 cnt, .slice a1 ps.length cap1] := by rw [hw1]; exact ((Blk.newAt _ _ _ rfl).alloc _).alloc _
  have hZ : Blk w1 (w.heap.size + 1) 39 #[.int .i64 0, .slice none 0 0] := by rw [hw1]; exact (Blk.newAt _ _ _ (by simp)).alloc _
  have hG : Blk w1 (w.heap.size + 1 + 1) 39 #[.int .i64 cn, .slice none 0 0] := by rw [hw1]; exact Blk.newAt _ _ _ (by simp)
  have hB : Below w.heap.size w w1 := by rw [hw1]; exact Below.al (Below.al (Below.al (Below.refl _ _) _) _) _
  rw [← hw1]
  clear hw1
  go_loopw [6] (fun i wr => ∃ (k : Nat) (vk : Value), k ≤ ps.length ∧ i = .int .i64 k ∧ Blk wr w.heap.size 39 #[.int .i64 cnt, .slice a1 ps.length cap1] ∧ Blk wr (w.heap.size + 1) 39 #[.int .i64 0, .slice none 0 0] ∧ Blk wr (w.heap.size + 1 + 1) 39 #[.int .i64 cn, vk] ∧ Below w.heap.size w wr ∧
    wr.ownsRow (w.heap.size + 3) 46 5 vk k (partsC ((List.range k).map (takeF ps ms M)))) (fun i _ => ps.length - (intOf i).toNat)
  case atStart => exact ⟨0, _, by omega, rfl, hA, hZ, hG, hB, World.ownsRow_nil _ _ _ _⟩
  case round =>
    clear hA hZ hG hB
    obtain ⟨k, vk, hk, rfl, hA, hZ, hG, hBw, hO⟩ := hrel
    have ca : wr.cell? ⟨w.heap.size, 1, none⟩ = some (.slice a1 ps.length cap1) := Blk.cell hA 1
    by_cases hlt : k < ps.length
    · have d1 : decide ((k : Int) < ps.length) = true := by simp; omega
      have d2 : decide (k < ps.length) = true := by simp; omega
      have hkI : (k : Int) < ps.length := by omega
      obtain ⟨bp, off, rfl, hbp, hcp⟩ := HC1.out (by omega)
      obtain ⟨p, hp⟩ : ∃ p, ps.getD k zeroP = p := ⟨_, rfl⟩
      have l1 : ∀ j, j < 5 → wr.cell? ⟨bp, off + k * 5 + j, none⟩ = (#[.bool p.any, .int .i64 (hiW p.sum), .int .u64 (loW p.sum), .int .i64 p.mn, .int .i64 p.mx])[j]? := fun j hj => by rw [hBw.cell (by exact hbp), hcp k j hlt hj, hp]; rfl
      have HL := Lib.hid l1
      have HP := Lib.hid hp
      have HIN := Lib.hid (And.intro hA (And.intro hZ (And.intro hG (And.intro hBw hO))))
      have hlG := Blk.lt hG
      clear hcp l1 hp hA hZ hG hBw hO
      go_upto_region 6 with (refine wpList_load_at rfl 46 _ rfl bp (off + k * 5) rfl #[.bool p.any, .int .i64 (hiW p.sum), .int .u64 (loW p.sum), .int .i64 p.mn, .int .i64 p.mx] _ (fun j hj => HL.out j hj) Try.underlying46 rfl info46s ?_)
      obtain ⟨wq, hwq⟩ : ∃ wq, wq = wr.alloc (Obj.cells #[.bool p.any, .int .i64 (hiW p.sum), .int .u64 (loW p.sum), .int .i64 p.mn, .int .i64 p.mx] 46) := ⟨_, rfl⟩
      obtain ⟨p7, hp7e⟩ : ∃ p7, wr.heap.size = p7 := ⟨_, rfl⟩
      have hp7 : Blk wq p7 46 #[.bool p.any, .int .i64 (hiW p.sum), .int .u64 (loW p.sum), .int .i64 p.mn, .int .i64 p.mx] := by rw [hwq, ← hp7e]; exact Blk.new _ _ _
      have hA : Blk wq w.heap.size 39 #[.int .i64 cnt, .slice (some ⟨bp, off, none⟩) ps.length cap1] := by rw [hwq]; exact Blk.alloc HIN.out.1 _
      have hZ : Blk wq (w.heap.size + 1) 39 #[.int .i64 0, .slice none 0 0] := by rw [hwq]; exact Blk.alloc HIN.out.2.1 _
      have hG : Blk wq (w.heap.size + 1 + 1) 39 #[.int .i64 cn, vk] := by rw [hwq]; exact Blk.alloc HIN.out.2.2.1 _
      have hBw : Below w.heap.size w wq := by rw [hwq]; exact Below.al HIN.out.2.2.2.1 _
      have hO : wq.ownsRow (w.heap.size + 3) 46 5 vk k (partsC ((List.range k).map (takeF ps ms M))) := by rw [hwq]; exact HIN.out.2.2.2.2.alloc _
      have hlo : ∀ g, vk.ownBlock = some g → g < p7 := fun g hg => by have := (HIN.out.2.2.2.2.lt g hg).2; omega
      rw [← hwq, hp7e]
      rw [hp7e] at hlG
      clear hwq hp7e ca HIN
      by_cases hm : k < ms.length
      · have e1 : decide ((k : Int) < ms.length) = true := by simp; omega
        have e2 : decide (k < ms.length) = true := by simp; omega
        have hmI : (k : Int) < ms.length := by omega
        obtain ⟨bm, om, rfl, hbm, hcm⟩ := HC2.out (by omega)
        obtain ⟨x, hx⟩ : ∃ x, ms.getD k 0 = x := ⟨_, rfl⟩
        have hx64 := HMS.out k hm
        rw [hx] at hx64
        have cm : wq.cell? ⟨bm, om + k, none⟩ = some (.int .i64 x) := by rw [hBw.cell (by exact hbm), hcm k hm, hx]
        have HX := Lib.hid hx
        clear hcm hx
        go_wp2_with fail
        refine hp_start (fun w' => Below p7 wq w') 7 rfl (by kernel_rfl) (fun c a a' w hd h => ⟨hd ▸ h.1, h.2⟩) (fun hP => ?_)
        rw [show Array.replicate 7 false = #[false, false, false, false, false, false, false] from rfl]
        have HS0 : Below p7 wq wq.drew := (Below.refl _ _).drew
        refine hp_take hP 1 (some 29) _ rfl rfl (by kernel_rfl) rfl (fun w' hS' => by go_simp; rfl) HS0 ?_
        simp only [Act.put, List.setIfInBounds_toArray, List.set_cons_zero, List.set_cons_succ]
        refine hp_take hP 2 (some 30) _ rfl rfl (by kernel_rfl) rfl (fun w' hS' => by go_simp; rfl) HS0 ?_
        simp only [Act.put, List.setIfInBounds_toArray, List.set_cons_zero, List.set_cons_succ]
        refine hp_take hP 3 (some 31) _ rfl rfl (by kernel_rfl) rfl (fun w' hS' => by go_simp; rfl) HS0 ?_
        simp only [Act.put, List.setIfInBounds_toArray, List.set_cons_zero, List.set_cons_succ]
        refine hp_take hP 4 (some 32) _ rfl rfl (by kernel_rfl) rfl (fun w' hS' => by have cc := (hS'.cell (show bm < p7 by omega)).trans cm; go_simp; rfl) HS0 ?_
        simp only [Act.put, List.setIfInBounds_toArray, List.set_cons_zero, List.set_cons_succ]
        refine hp_val 0 (some 28) rfl rfl (by kernel_rfl) rfl (.agg #[.bool p.any, .int .i64 (hiW p.sum), .int .u64 (loW p.sum), .int .i64 p.mn, .int .i64 p.mx]) wq.drew (exec_load_at (w := wq.drew) 46 (.tmp 7) rfl p7 0 rfl #[.bool p.any, .int .i64 (hiW p.sum), .int .u64 (loW p.sum), .int .i64 p.mn, .int .i64 p.mx] _ (fun j _ => by rw [Nat.zero_add]; exact Blk.cell (Blk.drew hp7) j) Try.underlying46 rfl info46s) HS0 ?_
        simp only [Act.put, List.setIfInBounds_toArray, List.set_cons_zero, List.set_cons_succ]
        refine hp_call 5 (some 33) rfl rfl (by kernel_rfl) rfl 44 #[.agg #[.bool p.any, .int .i64 (hiW p.sum), .int .u64 (loW p.sum), .int .i64 p.mn, .int .i64 p.mx], .int .i64 x] (by go_simp; try rfl) ((part44 p x _ hx64).mono ?_)
        rintro e w3 ⟨rfl, hB3⟩
        have HS1 : Below p7 wq w3 := HS0.trans (hB3.mono (by have := Blk.lt hp7; have e : wq.drew.heap.size = wq.heap.size := rfl; omega))
        refine ⟨_, rfl, HS1, ?_⟩
        unfold partV
        simp only [Act.put, List.setIfInBounds_toArray, List.set_cons_zero, List.set_cons_succ]
        have hp73 := Blk.below (Blk.drew hp7) hB3 (Blk.lt (Blk.drew hp7))
        obtain ⟨y, hy⟩ : ∃ y, takeP p x = y := ⟨_, rfl⟩
        rw [hy]
        refine hp_store_row 6 rfl rfl (by kernel_rfl) rfl 46 _ _ rfl p7 #[.bool y.any, .int .i64 (hiW y.sum), .int .u64 (loW y.sum), .int .i64 y.mn, .int .i64 y.mx] rfl rfl 46 _ hp73 info46s rfl (by simp [Value.oneCell']) (Below.setRow HS1 (Nat.le_refl _) _) ?_
        simp only [List.setIfInBounds_toArray, List.set_cons_zero, List.set_cons_succ]
        refine hk_done (by kernel_rfl) ?_
        have hB4 : Below wq.heap.size wq w3 := ((Below.refl wq.heap.size wq).drew).trans hB3
        have hA4 := Blk.otherRow (cs' := #[.bool y.any, .int .i64 (hiW y.sum), .int .u64 (loW y.sum), .int .i64 y.mn, .int .i64 y.mx]) (Blk.below hA hB4 (Blk.lt hA)) (show w.heap.size ≠ p7 by omega)
        have hZ4 := Blk.otherRow (cs' := #[.bool y.any, .int .i64 (hiW y.sum), .int .u64 (loW y.sum), .int .i64 y.mn, .int .i64 y.mx]) (Blk.below hZ hB4 (Blk.lt hZ)) (show w.heap.size + 1 ≠ p7 by omega)
        have hG4 := Blk.otherRow (cs' := #[.bool y.any, .int .i64 (hiW y.sum), .int .u64 (loW y.sum), .int .i64 y.mn, .int .i64 y.mx]) (Blk.below hG hB4 (Blk.lt hG)) (show w.heap.size + 1 + 1 ≠ p7 by omega)
        have hp74 := Blk.setRow (cs' := #[.bool y.any, .int .i64 (hiW y.sum), .int .u64 (loW y.sum), .int .i64 y.mn, .int .i64 y.mx]) hp73
        have hown4 := owns_row_oth (owns_below hO hB4 (Nat.le_refl _)) (g5 := p7) (fun g hg => by have := hlo g hg; omega) #[.bool y.any, .int .i64 (hiW y.sum), .int .u64 (loW y.sum), .int .i64 y.mn, .int .i64 y.mx]
        have hBw4 := Below.setRow (Below.call hBw hB4) (show w.heap.size ≤ p7 by omega) #[.bool y.any, .int .i64 (hiW y.sum), .int .u64 (loW y.sum), .int .i64 y.mn, .int .i64 y.mx]
        have hyf : y = takeF ps ms M k := by unfold takeF; rw [if_pos (by have := HM.out; omega), HP.out, HX.out, hy]
        generalize w3.setRow p7 #[.bool y.any, .int .i64 (hiW y.sum), .int .u64 (loW y.sum), .int .i64 y.mn, .int .i64 y.mx] = w4 at *
        clear HS0 HS1 hB3 hB4 hp73 hA hZ hG hO hBw hp7 hP cm hy
        have hlo4 := hlo
        have HY := Lib.hid hyf
        clear hyf
        have HG := Lib.hid hG4
        have lG := Blk.lt hG4
        have g1 : w4.cell? ⟨w.heap.size + 1 + 1, 1, none⟩ = some vk := Blk.cell hG4 1
        have HO := Lib.hid hown4
        have HP7 := Lib.hid hp74
        have HAZ := Lib.hid (And.intro hA4 (And.intro hZ4 hBw4))
        clear hG4 hown4 hp74 hA4 hZ4 hBw4
        go_upto_region 4 with (first
          | (refine wpList_load_at rfl 46 _ rfl p7 0 rfl #[.bool y.any, .int .i64 (hiW y.sum), .int .u64 (loW y.sum), .int .i64 y.mn, .int .i64 y.mx] _ (fun j hj => by rw [Nat.zero_add]; exact Blk.cell HP7.out j) Try.underlying46 rfl info46s ?_)
          | (at_builtin; refine wpList_append_own _ rfl _ _ 37 rfl (w.heap.size + 3) 46 i0 (.agg #[.bool false, .int .i64 0, .int .u64 0, .int .i64 0, .int .i64 0]) 5 40 Try.underlying37 hi hz0 hz1 hz2 rfl (by decide) _ _ _ rfl (HO.out.alloc _) ⟨w4.heap.size, 0, none⟩ 1 1 (partA y).toList rfl rfl (cells_new w4 46 (partA y)) (partA_one y) (by unfold maxLen; omega) (by omega) (by simp; omega) ?_; intro vn w6 hown6 hgrow _; obtain ⟨an, ccn, rfl⟩ := owns_form hown6; have g6 : w6.cell? ⟨w.heap.size + 1 + 1, 1, none⟩ = some vk := Blk.cell (Blk.grown (Blk.alloc HG.out _) hgrow (fun e => by have h1 := HO.out.lt _ e.symm; omega)) 1; have f6 : w6.frozen? ⟨w.heap.size + 1 + 1, 1, none⟩ = false := Blk.free (Blk.grown (Blk.alloc HG.out _) hgrow (fun e => by have h1 := HO.out.lt _ e.symm; omega)) 1; have HOWN := Lib.hid hown6; have HGR := Lib.hid hgrow; clear hown6 hgrow))
        have hne : ∀ b, b < w.heap.size + 3 → some b ≠ vk.ownBlock := fun b hb e => by have h1 := HO.out.lt _ e.symm; omega
        have hA7 := Blk.other (Blk.grown (Blk.alloc HAZ.out.1 (Obj.cells (partA y) 46)) HGR.out (hne _ (by omega))) (p := ⟨w.heap.size + 1 + 1, 1, none⟩) (by show w.heap.size + 1 + 1 ≠ w.heap.size; omega) (.slice an (k + 1) ccn)
        have hZ7 := Blk.other (Blk.grown (Blk.alloc HAZ.out.2.1 (Obj.cells (partA y) 46)) HGR.out (hne _ (by omega))) (p := ⟨w.heap.size + 1 + 1, 1, none⟩) (by show w.heap.size + 1 + 1 ≠ w.heap.size + 1; omega) (.slice an (k + 1) ccn)
        have hG7 := Blk.set (Blk.grown (Blk.alloc HG.out (Obj.cells (partA y) 46)) HGR.out (hne _ (by omega))) 1 (.slice an (k + 1) ccn)
        have hB7 := Below.setCell (Below.grown (Below.al HAZ.out.2.2 (Obj.cells (partA y) 46)) HGR.out (by simp; omega) (fun b hb => by have := (HO.out.lt b hb).1; omega)) (p := ⟨w.heap.size + 1 + 1, 1, none⟩) (by show w.heap.size ≤ w.heap.size + 1 + 1; omega) (.slice an (k + 1) ccn)
        have hO7 : (w6.setCell ⟨w.heap.size + 1 + 1, 1, none⟩ (.slice an (k + 1) ccn)).ownsRow (w.heap.size + 3) 46 5 (.slice an (k + 1) ccn) (k + 1) (partsC ((List.range (k + 1)).map (takeF ps ms M))) := by
          rw [takeTo_succ, partsC_snoc, ← HY.out]
          exact ownsRow_setCell_below HOWN.out (by show w.heap.size + 1 + 1 < w.heap.size + 3; omega) _
        have HE := Lib.hid (And.intro hA7 (And.intro hZ7 (And.intro hG7 (And.intro hB7 hO7))))
        clear hA7 hZ7 hG7 hB7 hO7 hne HOWN HGR HG HO HP7 HAZ g1
        generalize w6.setCell ⟨w.heap.size + 1 + 1, 1, none⟩ (.slice an (k + 1) ccn) = w8 at *
        clear g6 f6
        go_wp2_with fail
        go_roundw
        case rel =>
          exact ⟨k + 1, .slice an (k + 1) ccn, by omega, by go_num, HE.out.1, HE.out.2.1, HE.out.2.2.1, HE.out.2.2.2.1, HE.out.2.2.2.2⟩
        case measure => simp [intOf]; omega
      · have e1 : decide ((k : Int) < ms.length) = false := by simp; omega
        have e2 : decide (k < ms.length) = false := by simp; omega
        have hyf : p = takeF ps ms M k := by unfold takeF; rw [if_neg (by have := HM.out; omega), HP.out]
        have hA4 := hA
        have hZ4 := hZ
        have hG4 := hG
        have hp74 := hp7
        have hown4 := hO
        have hBw4 := hBw
        clear hA hZ hG hp7 hO hBw
        have HY := Lib.hid hyf
        clear hyf
        have HG := Lib.hid hG4
        have lG := Blk.lt hG4
        have g1 : wq.cell? ⟨w.heap.size + 1 + 1, 1, none⟩ = some vk := Blk.cell hG4 1
        have HO := Lib.hid hown4
        have HP7 := Lib.hid hp74
        have HAZ := Lib.hid (And.intro hA4 (And.intro hZ4 hBw4))
        clear hG4 hown4 hp74 hA4 hZ4 hBw4
        go_upto_region 4 with (first
          | (refine wpList_load_at rfl 46 _ rfl p7 0 rfl #[.bool p.any, .int .i64 (hiW p.sum), .int .u64 (loW p.sum), .int .i64 p.mn, .int .i64 p.mx] _ (fun j hj => by rw [Nat.zero_add]; exact Blk.cell HP7.out j) Try.underlying46 rfl info46s ?_)
          | (at_builtin; refine wpList_append_own _ rfl _ _ 37 rfl (w.heap.size + 3) 46 i0 (.agg #[.bool false, .int .i64 0, .int .u64 0, .int .i64 0, .int .i64 0]) 5 40 Try.underlying37 hi hz0 hz1 hz2 rfl (by decide) _ _ _ rfl (HO.out.alloc _) ⟨wq.heap.size, 0, none⟩ 1 1 (partA p).toList rfl rfl (cells_new wq 46 (partA p)) (partA_one p) (by unfold maxLen; omega) (by omega) (by simp; omega) ?_; intro vn w6 hown6 hgrow _; obtain ⟨an, ccn, rfl⟩ := owns_form hown6; have g6 : w6.cell? ⟨w.heap.size + 1 + 1, 1, none⟩ = some vk := Blk.cell (Blk.grown (Blk.alloc HG.out _) hgrow (fun e => by have h1 := HO.out.lt _ e.symm; omega)) 1; have f6 : w6.frozen? ⟨w.heap.size + 1 + 1, 1, none⟩ = false := Blk.free (Blk.grown (Blk.alloc HG.out _) hgrow (fun e => by have h1 := HO.out.lt _ e.symm; omega)) 1; have HOWN := Lib.hid hown6; have HGR := Lib.hid hgrow; clear hown6 hgrow))
        have hne : ∀ b, b < w.heap.size + 3 → some b ≠ vk.ownBlock := fun b hb e => by have h1 := HO.out.lt _ e.symm; omega
        have hA7 := Blk.other (Blk.grown (Blk.alloc HAZ.out.1 (Obj.cells (partA p) 46)) HGR.out (hne _ (by omega))) (p := ⟨w.heap.size + 1 + 1, 1, none⟩) (by show w.heap.size + 1 + 1 ≠ w.heap.size; omega) (.slice an (k + 1) ccn)
        have hZ7 := Blk.other (Blk.grown (Blk.alloc HAZ.out.2.1 (Obj.cells (partA p) 46)) HGR.out (hne _ (by omega))) (p := ⟨w.heap.size + 1 + 1, 1, none⟩) (by show w.heap.size + 1 + 1 ≠ w.heap.size + 1; omega) (.slice an (k + 1) ccn)
        have hG7 := Blk.set (Blk.grown (Blk.alloc HG.out (Obj.cells (partA p) 46)) HGR.out (hne _ (by omega))) 1 (.slice an (k + 1) ccn)
        have hB7 := Below.setCell (Below.grown (Below.al HAZ.out.2.2 (Obj.cells (partA p) 46)) HGR.out (by simp; omega) (fun b hb => by have := (HO.out.lt b hb).1; omega)) (p := ⟨w.heap.size + 1 + 1, 1, none⟩) (by show w.heap.size ≤ w.heap.size + 1 + 1; omega) (.slice an (k + 1) ccn)
        have hO7 : (w6.setCell ⟨w.heap.size + 1 + 1, 1, none⟩ (.slice an (k + 1) ccn)).ownsRow (w.heap.size + 3) 46 5 (.slice an (k + 1) ccn) (k + 1) (partsC ((List.range (k + 1)).map (takeF ps ms M))) := by
          rw [takeTo_succ, partsC_snoc, ← HY.out]
          exact ownsRow_setCell_below HOWN.out (by show w.heap.size + 1 + 1 < w.heap.size + 3; omega) _
        have HE := Lib.hid (And.intro hA7 (And.intro hZ7 (And.intro hG7 (And.intro hB7 hO7))))
        clear hA7 hZ7 hG7 hB7 hO7 hne HOWN HGR HG HO HP7 HAZ g1
        generalize w6.setCell ⟨w.heap.size + 1 + 1, 1, none⟩ (.slice an (k + 1) ccn) = w8 at *
        clear g6 f6
        go_wp2_with fail
        go_roundw
        case rel =>
          exact ⟨k + 1, .slice an (k + 1) ccn, by omega, by go_num, HE.out.1, HE.out.2.1, HE.out.2.2.1, HE.out.2.2.2.1, HE.out.2.2.2.2⟩
        case measure => simp [intOf]; omega
    · have d1 : decide ((k : Int) < ps.length) = false := by simp; omega
      have d2 : decide (k < ps.length) = false := by simp; omega
      have hkp : k = ps.length := by omega
      have HKP := Lib.hid hkp
      have HO := Lib.hid hO
      clear hlt hkp hO
      go_wp2_with (first | (refine wpList_load_at rfl 39 _ rfl (w.heap.size + 1 + 1) 0 rfl #[.int .i64 cn, vk] _ (fun j hj => by rw [Nat.zero_add]; exact Blk.cell hG j) Try.underlying39 rfl info39 ?_) | (obtain ⟨ak, ck, ek⟩ := owns_form HO.out; refine wpList_store_row rfl 39 _ _ rfl (w.heap.size + 1) #[.int .i64 cn, vk] rfl rfl 39 _ hZ info39 rfl (by rw [ek]; simp [Value.oneCell']) ?_))
      refine bodyPost_ret (results_cell_row rfl _ _ (w.heap.size + 1) 39 _ (0, 0) _ rfl (Blk.setRow hZ) Try.underlying39 rfl info39) rfl ?_
      refine ⟨vk, by rw [← HCN.out, IntWalk.i64_left], ?_, Below.setRow hBw (by omega) _⟩
      have e : takeL ps ms = (List.range k).map (takeF ps ms M) := by unfold takeL; rw [HM.out, HKP.out]
      rw [e, ← HKP.out]
      refine owns_base (base := w.heap.size + 3) ?_ (by omega)
      exact owns_row_oth HO.out (g5 := w.heap.size + 1) (fun g hg => by have := (HO.out.lt g hg).1; omega) _
end Go.Proofs.Ytlhncphnhgbclaa
