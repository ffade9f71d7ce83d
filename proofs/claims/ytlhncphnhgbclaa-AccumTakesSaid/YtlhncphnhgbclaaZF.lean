/- A copy with one more behind it. -/
import Derived.Test.YtlhncphnhgbclaaZE
import Derived.Laws.ResultCell
namespace Go.Proofs.Ytlhncphnhgbclaa
open Go.RowKit
set_option linter.unusedVariables false
set_option linter.unusedSimpArgs false

def p77 : Prt := ⟨false, 0, 77, 0⟩
theorem results_row_tmp {P : Program} {fn : Func} {p u : Tmp} {ty : TypeId} (h : fn.results = #[.cell p ty, .tmp u]) (tmps : Array Value) (w : World) (g : Nat) (t : TypeId) (cs : Array Value) (fr : Nat × Nat) (d : TypeDesc)
    (hp : tmps.getD p undef = .pointer (some ⟨g, 0, none⟩)) (hg : w.heap[g]? = some (.cells cs t fr))
    (hu : P.underlying ty = some d) (hd : (match d with | .struct _ | .array _ _ => true | _ => false) = true) (hi : (P.info? ty).map (·.size) = some cs.size) :
    (results fn tmps).run P w = .ok (.tuple #[.agg cs, tmps.getD u undef]) w := by
  rw [results_cell_tmp h, hp]
  simp [asAddr, Result.andThen, run_loadVar_row w g t ty cs fr d hg hu hd hi]

theorem slice_to (w : World) (g len n cap : Nat) (h : n ≤ cap) : (Instr.slice 37 (.slice (some ⟨g, 0, none⟩) len cap) none (some (.int .i64 (n : Int))) none).run Try.prog w = .ok (.slice (some ⟨g, 0, none⟩) n cap) w := by
  have ht : Try.prog.underlying 37 = some (.slice (Try.prog.elem 37)) := by kernel_rfl
  rw [run_slice_h w 37 (some ⟨g, 0, none⟩) len cap ht .i64 (n : Int) (by omega) (by omega)]
  have hs : (sizeOf (Try.prog.elem 37)).run Try.prog w = .ok 5 w := by kernel_rfl
  rw [hs]
  simp [Result.andThen, sliced, Addr.add]
set_option maxRecDepth 100000 in
set_option maxHeartbeats 4000000 in
theorem copied28 (ps : List Prt) (cnt : Int) (v : Value) (w : World) (h : RowP w.heap.size w v ps) (hv : Som v ps.length) (hb : ps.length * 40 ≤ 140737488351232) :
    Calls Try.prog 28 #[.agg #[.int .i64 cnt, v]] w fun e w' => ∃ g cap, e = .returned (.tuple #[.agg #[.int .i64 cnt, .slice (some ⟨g, 0, none⟩) ps.length cap], .slice (some ⟨g, 0, none⟩) (ps.length + 1) cap]) ∧
      w'.ownsRow w.heap.size 46 5 (.slice (some ⟨g, 0, none⟩) (ps.length + 1) cap) (ps.length + 1) (partsC (ps ++ [p77])) ∧ Below w.heap.size w w' := by
  obtain ⟨i0, hi, hz0, hz1, hz2⟩ := info_parts Try.info46
  rcases hv with rfl | ⟨a, cap, rfl⟩
  · obtain ⟨a', cap', hv, -⟩ := RowP.open h
    injection hv with e1 e2 e3
    have hp : ps = [] := List.eq_nil_of_length_eq_zero e2.symm
    subst hp
    clear e1 e2 e3 h hb
    go_enter Try.func28, Try.ntmps28
    go_upto_region 3 with (fail)
    obtain ⟨w1, hw1⟩ : ∃ w1, w1 = (w.alloc (Obj.cells #[.int .i64 cnt, .slice none 0 0] 39)).alloc (Obj.cells #[.int .i64 0, .slice none 0 0] 39) := ⟨_, rfl⟩
    have hA : Blk w1 w.heap.size 39 #[.int .i64 cnt, .slice none 0 0] := by rw [hw1]; exact (Blk.newAt _ _ _ rfl).alloc _
    have hZ : Blk w1 (w.heap.size + 1) 39 #[.int .i64 0, .slice none 0 0] := by rw [hw1]; exact Blk.newAt _ _ _ (by simp)
    have hB : Below w.heap.size w w1 := by rw [hw1]; exact Below.al (Below.al (Below.refl _ _) _) _
    have hown : w1.ownsRow (w.heap.size + 2) 46 5 (Value.slice none 0 0) 0 (partsC []) := World.ownsRow_nil _ _ _ _
    rw [← hw1]
    clear hw1
    have hlZ := Blk.lt hZ
    have HN := Lib.hid (And.intro hA (And.intro hZ (And.intro hB hown)))
    clear hA hZ hB hown
    go_upto_region 4 with (at_builtin; refine wpList_append_own _ rfl _ _ 37 rfl (w.heap.size + 2) 46 i0 (.agg #[.bool false, .int .i64 0, .int .u64 0, .int .i64 0, .int .i64 0]) 5 40 Try.underlying37 hi hz0 hz1 hz2 rfl (by decide) _ _ _ rfl (HN.out.2.2.2.alloc _) ⟨w1.heap.size, 0, none⟩ 1 1 (partA p77).toList rfl rfl (cells_new w1 46 (partA p77)) (partA_one p77) (by unfold maxLen; omega) (by omega) (by simp; omega) ?_; intro vn w2 hown2 hgrow _; have HO2 := Lib.hid hown2; have HGR := Lib.hid hgrow; clear hown2 hgrow)
    obtain ⟨g, cap2, hvn, hgb, hcp⟩ : ∃ g cap2, vn = .slice (some ⟨g, 0, none⟩) (0 + 1) cap2 ∧ w.heap.size + 2 ≤ g ∧ 0 + 1 ≤ cap2 ∧ cap2 ≤ maxLen := by
      rcases HO2.out.2 with ⟨h, h2⟩ | ⟨g, cap, cur, hv, hg, hh, hc1, hc2, _⟩
      · omega
      · exact ⟨g, cap, hv, hg, hc1, hc2⟩
    subst hvn
    have hne : ∀ b, b < w.heap.size + 2 → some b ≠ ((Value.slice none 0 0)).ownBlock := fun b hb e => by have h1 := HN.out.2.2.2.lt _ e.symm; omega
    have hA2 := Blk.grown (Blk.alloc HN.out.1 (Obj.cells (partA p77) 46)) HGR.out (hne _ (by omega))
    have hZ2 := Blk.grown (Blk.alloc HN.out.2.1 (Obj.cells (partA p77) 46)) HGR.out (hne _ (by omega))
    have hB2 := Below.grown (Below.al HN.out.2.2.1 (Obj.cells (partA p77) 46)) HGR.out (by simp; omega) (fun b hb => by have := (HN.out.2.2.2.lt b hb).1; omega)
    have c0 : w2.cell? ⟨w.heap.size, 0, none⟩ = some (.int .i64 cnt) := Blk.cell hA2 0
    have hcI : (0 : Int) ≤ (cap2 : Int) := by omega
    have hn0 : (0 : Int) ≤ (0 : Int) := by omega
    have hnI : (0 : Int) ≤ 140737488351232 := by omega
    have hwr : IntKind.i64.wrap (0 : Int) = (0 : Int) := IntWalk.i64_in _ (by omega)
    have hsl : ∀ w, (Instr.slice 37 (.slice (some ⟨g, 0, none⟩) (0 + 1) cap2) none (some (.int .i64 (0 : Int))) none).run Try.prog w = .ok (.slice (some ⟨g, 0, none⟩) 0 cap2) w := fun w => slice_to w g (0 + 1) 0 cap2 (by omega)
    have HZ2 := Lib.hid hZ2
    have HB2 := Lib.hid hB2
    clear hne hA2 hZ2 hB2 HGR HN
    have hZ3 : Blk w2.drew (w.heap.size + 1) 39 #[.int .i64 0, .slice none 0 0] := HZ2.out
    refine hp_start (fun w' => w'.cell? ⟨w.heap.size, 0, none⟩ = some (.int .i64 cnt) ∧ True) 11 rfl (by kernel_rfl) (fun c a a' w hd h => ⟨hd ▸ h.1, h.2⟩) (fun hP => ?_)
    rw [show Array.replicate 11 false = #[false, false, false, false, false, false, false, false, false, false, false] from rfl]
    have HS0 : w2.drew.cell? ⟨w.heap.size, 0, none⟩ = some (.int .i64 cnt) ∧ True := ⟨c0, trivial⟩
    refine hp_take hP 0 (some 13) _ rfl rfl (by kernel_rfl) rfl (fun w' hS' => by go_simp; rfl) HS0 ?_
    simp only [Act.put, List.setIfInBounds_toArray, List.set_cons_zero, List.set_cons_succ]
    refine hp_take hP 1 (some 14) _ rfl rfl (by kernel_rfl) rfl (fun w' hS' => by have cc := hS'.1; go_simp; rfl) HS0 ?_
    simp only [Act.put, List.setIfInBounds_toArray, List.set_cons_zero, List.set_cons_succ]
    refine hp_take hP 2 (some 15) _ rfl rfl (by kernel_rfl) rfl (fun w' hS' => by go_simp; rfl) HS0 ?_
    simp only [Act.put, List.setIfInBounds_toArray, List.set_cons_zero, List.set_cons_succ]
    refine hp_take hP 3 (some 16) _ rfl rfl (by kernel_rfl) rfl (fun w' hS' => by go_simp; rfl) HS0 ?_
    simp only [Act.put, List.setIfInBounds_toArray, List.set_cons_zero, List.set_cons_succ]
    refine hp_take hP 4 (some 17) _ rfl rfl (by kernel_rfl) rfl (fun w' hS' => by go_simp; rfl) HS0 ?_
    simp only [Act.put, List.setIfInBounds_toArray, List.set_cons_zero, List.set_cons_succ]
    refine hp_take hP 5 (some 18) (.int .i64 0) rfl rfl (by kernel_rfl) rfl (fun w' hS' => by go_simp) HS0 ?_
    simp only [Act.put, List.setIfInBounds_toArray, List.set_cons_zero, List.set_cons_succ]
    refine hp_take hP 6 (some 19) (.slice (some ⟨g, 0, none⟩) 0 cap2) rfl rfl (by kernel_rfl) rfl (fun w' hS' => by first | (go_simp; done) | (have := hsl w'; go_simp)) HS0 ?_
    simp only [Act.put, List.setIfInBounds_toArray, List.set_cons_zero, List.set_cons_succ]
    refine hp_take hP 7 (some 20) _ rfl rfl (by kernel_rfl) rfl (fun w' hS' => by go_simp; rfl) HS0 ?_
    simp only [Act.put, List.setIfInBounds_toArray, List.set_cons_zero, List.set_cons_succ]
    refine hp_take hP 8 (some 21) _ rfl rfl (by kernel_rfl) rfl (fun w' hS' => by go_simp; rfl) HS0 ?_
    simp only [Act.put, List.setIfInBounds_toArray, List.set_cons_zero, List.set_cons_succ]
    refine hp_store_row 9 rfl rfl (by kernel_rfl) rfl 39 _ _ rfl (w.heap.size + 1) #[.int .i64 cnt, .slice (some ⟨g, 0, none⟩) 0 cap2] rfl rfl 39 _ hZ3 info39 rfl (by simp [Value.oneCell']) (by exact ⟨(World.cell?_of_block (setRow_other _ _ _ _ (by show w.heap.size ≠ w.heap.size + 1; omega))).trans c0, trivial⟩) ?_
    have HS1 : ((w2.drew).setRow (w.heap.size + 1) #[.int .i64 cnt, .slice (some ⟨g, 0, none⟩) 0 cap2]).cell? ⟨w.heap.size, 0, none⟩ = some (.int .i64 cnt) ∧ True := ⟨(World.cell?_of_block (setRow_other _ _ _ _ (by show w.heap.size ≠ w.heap.size + 1; omega))).trans c0, trivial⟩
    simp only [Act.put, List.setIfInBounds_toArray, List.set_cons_zero, List.set_cons_succ]
    refine hp_take hP 10 (some 3) _ rfl rfl (by kernel_rfl) rfl (fun w' hS' => by go_simp; rfl) HS1 ?_
    simp only [Act.put, List.setIfInBounds_toArray, List.set_cons_zero, List.set_cons_succ]
    refine hk_done (by kernel_rfl) ?_
    go_wp2_with fail
    refine bodyPost_ret (results_row_tmp rfl _ _ (w.heap.size + 1) 39 _ (0, 0) _ rfl (Blk.setRow hZ3) Try.underlying39 rfl info39) rfl ?_
    refine ⟨g, cap2, rfl, ?_, Below.setRow (Below.drew HB2.out) (by omega) _⟩
    have h3 : w2.drew.ownsRow (w.heap.size + 2) 46 5 (.slice (some ⟨g, 0, none⟩) (0 + 1) cap2) (0 + 1) (partsC ([] ++ [p77])) := by rw [partsC_snoc]; exact HO2.out
    exact owns_base (owns_row_oth h3 (g5 := w.heap.size + 1) (fun k hk => by have := (h3.lt k hk).1; omega) _) (by omega)
  · obtain ⟨hl, a', cap', hv, hc1, hc2, hc3⟩ := h
    injection hv with e1 e2 e3
    subst e3
    obtain ⟨w0, hw0⟩ : ∃ w0, w0 = (w.alloc (Obj.cells #[.int .i64 cnt, .slice (some a) ps.length cap] 39)).alloc (Obj.cells #[.int .i64 0, .slice none 0 0] 39) := ⟨_, rfl⟩
    have hA0 : Blk w0 w.heap.size 39 #[.int .i64 cnt, .slice (some a) ps.length cap] := by rw [hw0]; exact (Blk.newAt _ _ _ rfl).alloc _
    have hZ0 : Blk w0 (w.heap.size + 1) 39 #[.int .i64 0, .slice none 0 0] := by rw [hw0]; exact Blk.newAt _ _ _ (by simp)
    have hB0 : Below w.heap.size w w0 := by rw [hw0]; exact Below.al (Below.al (Below.refl _ _) _) _
    have hnews : ∀ j u, (partsC ps)[j]? = some u → w0.cell? (a.add j) = some u := by
      intro j u hu
      have hj := (List.getElem?_eq_some_iff.1 hu).1
      obtain ⟨b, off, ha, hb', hc⟩ := hc3 (by omega)
      rw [← e1] at ha
      injection ha with ha
      subst ha
      have ea : (⟨b, off, none⟩ : Addr).add j = ⟨b, off + j, none⟩ := by unfold Addr.add; split <;> simp_all
      rw [ea, hB0.cell (by exact hb'), hc j (by omega)]
      simp [List.getD_eq_getElem?_getD, hu]
    have HNW := Lib.hid hnews
    have HX := Lib.hid (And.intro hA0 (And.intro hZ0 hB0))
    have hl2 : (partsC ps).length = ps.length * 5 := partsC_len ps
    have HL := Lib.hid hl2
    have hsz0 : w.heap.size + 2 ≤ w0.heap.size := by rw [hw0]; simp
    have c1 : w0.cell? ⟨w.heap.size, 1, none⟩ = some (.slice (some a) ps.length cap) := Blk.cell hA0 1
    have HSZ := Lib.hid hsz0
    clear hnews hA0 hZ0 hB0 hc3 e1 e2 hl hl2 hsz0 hc1 hc2
    go_enter Try.func28, Try.ntmps28
    go_upto_region 2 with (fail)
    rw [← hw0]
    clear hw0
    go_upto_region 3 with (at_builtin; refine wpList_append_own _ rfl _ _ 37 rfl (w.heap.size + 2) 46 i0 (.agg #[.bool false, .int .i64 0, .int .u64 0, .int .i64 0, .int .i64 0]) 5 40 Try.underlying37 hi hz0 hz1 hz2 rfl (by decide) _ _ _ rfl (World.ownsRow_nil _ _ _ _) a ps.length cap (partsC ps) rfl HL.out HNW.out (partsC_one ps) (by unfold maxLen; omega) (by omega) HSZ.out ?_; intro vn4 w1 hown' hgr0 _; have hgr : w0.grownBy w1 none := hgr0; clear hgr0)
    have hA : Blk w1 w.heap.size 39 #[.int .i64 cnt, .slice (some a) ps.length cap] := Blk.grown HX.out.1 hgr (by simp)
    have hZ : Blk w1 (w.heap.size + 1) 39 #[.int .i64 0, .slice none 0 0] := Blk.grown HX.out.2.1 hgr (by simp)
    have hB : Below w.heap.size w w1 := Below.grown HX.out.2.2 hgr (by have := Blk.lt HX.out.2.1; omega) (fun k hk => by cases hk)
    have hown : w1.ownsRow (w.heap.size + 2) 46 5 vn4 ps.length (partsC ps) := by simpa using hown'
    clear hown' hgr
    have hlZ := Blk.lt hZ
    have HN := Lib.hid (And.intro hA (And.intro hZ (And.intro hB hown)))
    clear hA hZ hB hown
    go_upto_region 4 with (at_builtin; refine wpList_append_own _ rfl _ _ 37 rfl (w.heap.size + 2) 46 i0 (.agg #[.bool false, .int .i64 0, .int .u64 0, .int .i64 0, .int .i64 0]) 5 40 Try.underlying37 hi hz0 hz1 hz2 rfl (by decide) _ _ _ rfl (HN.out.2.2.2.alloc _) ⟨w1.heap.size, 0, none⟩ 1 1 (partA p77).toList rfl rfl (cells_new w1 46 (partA p77)) (partA_one p77) (by unfold maxLen; omega) (by omega) (by simp; omega) ?_; intro vn w2 hown2 hgrow _; have HO2 := Lib.hid hown2; have HGR := Lib.hid hgrow; clear hown2 hgrow)
    obtain ⟨g, cap2, hvn, hgb, hcp⟩ : ∃ g cap2, vn = .slice (some ⟨g, 0, none⟩) (ps.length + 1) cap2 ∧ w.heap.size + 2 ≤ g ∧ ps.length + 1 ≤ cap2 ∧ cap2 ≤ maxLen := by
      rcases HO2.out.2 with ⟨h, h2⟩ | ⟨g, cap, cur, hv, hg, hh, hc1, hc2, _⟩
      · omega
      · exact ⟨g, cap, hv, hg, hc1, hc2⟩
    subst hvn
    have hne : ∀ b, b < w.heap.size + 2 → some b ≠ (vn4).ownBlock := fun b hb e => by have h1 := HN.out.2.2.2.lt _ e.symm; omega
    have hA2 := Blk.grown (Blk.alloc HN.out.1 (Obj.cells (partA p77) 46)) HGR.out (hne _ (by omega))
    have hZ2 := Blk.grown (Blk.alloc HN.out.2.1 (Obj.cells (partA p77) 46)) HGR.out (hne _ (by omega))
    have hB2 := Below.grown (Below.al HN.out.2.2.1 (Obj.cells (partA p77) 46)) HGR.out (by simp; omega) (fun b hb => by have := (HN.out.2.2.2.lt b hb).1; omega)
    have c0 : w2.cell? ⟨w.heap.size, 0, none⟩ = some (.int .i64 cnt) := Blk.cell hA2 0
    have hcI : (ps.length : Int) ≤ (cap2 : Int) := by omega
    have hn0 : (0 : Int) ≤ (ps.length : Int) := by omega
    have hnI : (ps.length : Int) ≤ 140737488351232 := by omega
    have hwr : IntKind.i64.wrap (ps.length : Int) = (ps.length : Int) := IntWalk.i64_in _ (by omega)
    have hsl : ∀ w, (Instr.slice 37 (.slice (some ⟨g, 0, none⟩) (ps.length + 1) cap2) none (some (.int .i64 (ps.length : Int))) none).run Try.prog w = .ok (.slice (some ⟨g, 0, none⟩) ps.length cap2) w := fun w => slice_to w g (ps.length + 1) ps.length cap2 (by omega)
    have HZ2 := Lib.hid hZ2
    have HB2 := Lib.hid hB2
    clear hne hA2 hZ2 hB2 HGR HN
    have hZ3 : Blk w2.drew (w.heap.size + 1) 39 #[.int .i64 0, .slice none 0 0] := HZ2.out
    refine hp_start (fun w' => w'.cell? ⟨w.heap.size, 0, none⟩ = some (.int .i64 cnt) ∧ True) 11 rfl (by kernel_rfl) (fun c a a' w hd h => ⟨hd ▸ h.1, h.2⟩) (fun hP => ?_)
    rw [show Array.replicate 11 false = #[false, false, false, false, false, false, false, false, false, false, false] from rfl]
    have HS0 : w2.drew.cell? ⟨w.heap.size, 0, none⟩ = some (.int .i64 cnt) ∧ True := ⟨c0, trivial⟩
    refine hp_take hP 0 (some 13) _ rfl rfl (by kernel_rfl) rfl (fun w' hS' => by go_simp; rfl) HS0 ?_
    simp only [Act.put, List.setIfInBounds_toArray, List.set_cons_zero, List.set_cons_succ]
    refine hp_take hP 1 (some 14) _ rfl rfl (by kernel_rfl) rfl (fun w' hS' => by have cc := hS'.1; go_simp; rfl) HS0 ?_
    simp only [Act.put, List.setIfInBounds_toArray, List.set_cons_zero, List.set_cons_succ]
    refine hp_take hP 2 (some 15) _ rfl rfl (by kernel_rfl) rfl (fun w' hS' => by go_simp; rfl) HS0 ?_
    simp only [Act.put, List.setIfInBounds_toArray, List.set_cons_zero, List.set_cons_succ]
    refine hp_take hP 3 (some 16) _ rfl rfl (by kernel_rfl) rfl (fun w' hS' => by go_simp; rfl) HS0 ?_
    simp only [Act.put, List.setIfInBounds_toArray, List.set_cons_zero, List.set_cons_succ]
    refine hp_take hP 4 (some 17) _ rfl rfl (by kernel_rfl) rfl (fun w' hS' => by go_simp; rfl) HS0 ?_
    simp only [Act.put, List.setIfInBounds_toArray, List.set_cons_zero, List.set_cons_succ]
    refine hp_take hP 5 (some 18) (.int .i64 (ps.length : Int)) rfl rfl (by kernel_rfl) rfl (fun w' hS' => by go_simp) HS0 ?_
    simp only [Act.put, List.setIfInBounds_toArray, List.set_cons_zero, List.set_cons_succ]
    refine hp_take hP 6 (some 19) (.slice (some ⟨g, 0, none⟩) ps.length cap2) rfl rfl (by kernel_rfl) rfl (fun w' hS' => by first | (go_simp; done) | (have := hsl w'; go_simp)) HS0 ?_
    simp only [Act.put, List.setIfInBounds_toArray, List.set_cons_zero, List.set_cons_succ]
    refine hp_take hP 7 (some 20) _ rfl rfl (by kernel_rfl) rfl (fun w' hS' => by go_simp; rfl) HS0 ?_
    simp only [Act.put, List.setIfInBounds_toArray, List.set_cons_zero, List.set_cons_succ]
    refine hp_take hP 8 (some 21) _ rfl rfl (by kernel_rfl) rfl (fun w' hS' => by go_simp; rfl) HS0 ?_
    simp only [Act.put, List.setIfInBounds_toArray, List.set_cons_zero, List.set_cons_succ]
    refine hp_store_row 9 rfl rfl (by kernel_rfl) rfl 39 _ _ rfl (w.heap.size + 1) #[.int .i64 cnt, .slice (some ⟨g, 0, none⟩) ps.length cap2] rfl rfl 39 _ hZ3 info39 rfl (by simp [Value.oneCell']) (by exact ⟨(World.cell?_of_block (setRow_other _ _ _ _ (by show w.heap.size ≠ w.heap.size + 1; omega))).trans c0, trivial⟩) ?_
    have HS1 : ((w2.drew).setRow (w.heap.size + 1) #[.int .i64 cnt, .slice (some ⟨g, 0, none⟩) ps.length cap2]).cell? ⟨w.heap.size, 0, none⟩ = some (.int .i64 cnt) ∧ True := ⟨(World.cell?_of_block (setRow_other _ _ _ _ (by show w.heap.size ≠ w.heap.size + 1; omega))).trans c0, trivial⟩
    simp only [Act.put, List.setIfInBounds_toArray, List.set_cons_zero, List.set_cons_succ]
    refine hp_take hP 10 (some 3) _ rfl rfl (by kernel_rfl) rfl (fun w' hS' => by go_simp; rfl) HS1 ?_
    simp only [Act.put, List.setIfInBounds_toArray, List.set_cons_zero, List.set_cons_succ]
    refine hk_done (by kernel_rfl) ?_
    go_wp2_with fail
    refine bodyPost_ret (results_row_tmp rfl _ _ (w.heap.size + 1) 39 _ (0, 0) _ rfl (Blk.setRow hZ3) Try.underlying39 rfl info39) rfl ?_
    refine ⟨g, cap2, rfl, ?_, Below.setRow (Below.drew HB2.out) (by omega) _⟩
    have h3 : w2.drew.ownsRow (w.heap.size + 2) 46 5 (.slice (some ⟨g, 0, none⟩) (ps.length + 1) cap2) (ps.length + 1) (partsC (ps ++ [p77])) := by rw [partsC_snoc]; exact HO2.out
    exact owns_base (owns_row_oth h3 (g5 := w.heap.size + 1) (fun k hk => by have := (h3.lt k hk).1; omega) _) (by omega)
end Go.Proofs.Ytlhncphnhgbclaa
