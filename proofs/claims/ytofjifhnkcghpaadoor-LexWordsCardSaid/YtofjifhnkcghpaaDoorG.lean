/- Capitals; keywords; names. -/
import Derived.Test.YtofjifhnkcghpaaDoorE
import Derived.Test.YtofjifhnkcghpaaDoorF
namespace Go.Proofs.YtofjifhnkcghpaaDoor
open Go.RowKit
set_option linter.unusedVariables false
set_option linter.unusedSimpArgs false
set_option maxRecDepth 100000
theorem wpList_val {P : Program} {ops : Array Oper} {Q : Exit → Act → World → Prop} {rest : List Oper} {o : Oper} {a : Act} {w : World} (hgd : o.guard = none) (d : Option Tmp) (hd : o.dst = d) (v : Value) (hx : (execOp a.eval o).run P w = .ok (.value v) w) (h : wpList P ops Q rest (a.put d v) w) : wpList P ops Q (o :: rest) a w := by
  subst hd
  refine wpList_plain hgd fun K hK => ?_
  unfold Oper.wp
  rw [hx]
  exact hK _ _ h
theorem extraM : Builder.Extra Tryd.prog mapL_ren := {
  sizeBuilder := by kernel_rfl
  liesBuilder := by kernel_rfl
  t5 := mapL.t5
  a5 := mapL.a5
  z5 := mapL.z5
  v5 := mapL.v5
  infoByte := by kernel_rfl
  cellsByte := by kernel_rfl
  sizeByte := by kernel_rfl
  neB5 := by decide }
theorem close38 (x : Int) (hx : 0 ≤ x ∧ x ≤ 1114111) (w : World) : Calls Tryd.prog 38 #[.int .i32 x] w fun e w' => e = .returned (.int .i32 (upR x)) ∧ w = w' := by
  unfold upR
  by_cases h1 : 97 ≤ x
  · have hd1 : decide ((97 : Int) ≤ x) = true := decide_eq_true h1
    by_cases h2 : x ≤ 122
    · have hd2 : decide (x ≤ 122) = true := decide_eq_true h2
      rw [if_pos ⟨h1, h2⟩]
      go_enter Tryd.func38, Tryd.ntmps38
      go_wp2_with fail
      go_ret
      refine ⟨?_, rfl⟩
      show Ending.returned (Value.int .i32 (x - 97 + 65)) = _
      rw [show x - 97 + 65 = x - 32 by omega]
    · have hd2 : decide (x ≤ 122) = false := decide_eq_false h2
      rw [if_neg (fun e => h2 e.2)]
      go_enter Tryd.func38, Tryd.ntmps38
      go_wp2_with fail
      go_ret
      exact ⟨rfl, rfl⟩
  · have hd1 : decide ((97 : Int) ≤ x) = false := decide_eq_false h1
    rw [if_neg (fun e => h1 e.1)]
    go_enter Tryd.func38, Tryd.ntmps38
    go_wp2_with fail
    go_ret
    exact ⟨rfl, rfl⟩
theorem clo_pays (w : World) : MapGrows Tryd.prog 38 #[] upR w := by
  intro W x hx hb
  exact (close38 (x : Int) ⟨by omega, by omega⟩ W).mono fun e w' ⟨h1, h2⟩ => ⟨h1, by rw [← h2]; exact Below.refl _ W⟩
/-- the library's tables -/
def UT (w : World) : Prop := Lib.Utf8Tabs (mapL_ren.g 3) (mapL_ren.g 4) w
theorem UT.below {w w' : World} (h : UT w) (hb : Below w.heap.size w w') : UT w' := Utf8Tabs_below h hb
theorem capitals26 (s : ByteArray) (w : World) (hs : s.size < 35184372088832) (hT : UT w) : Calls Tryd.prog 26 #[.string s] w fun e w' => e = .returned (.string ⟨(Lib.mapD upR s.data.toList).toArray⟩) ∧ Below w.heap.size w w' := by
  have HC := Lib.hid (Any.strings_Map_grows mapL extraM 38 #[] (fun args w => by rfl) upR s w hs (clo_pays w) (fun x hx => by unfold upR; split <;> omega) hT)
  go_enter Tryd.func26, Tryd.ntmps26
  go_wp2_with fail
  refine HC.out.mono ?_
  rintro e w1 ⟨rfl, hb1⟩
  go_wp2_with fail
  go_ret
  exact ⟨rfl, hb1⟩
def kwB : List ByteArray := kws.map fun k => ⟨k.toArray⟩
def kwC : Array Value := (kwB.map Value.string).toArray
def kwZ : Array Value := Array.replicate 17 (.string ByteArray.empty)
theorem kwC_one : ∀ v ∈ kwC, v.oneCell' = true := by
  intro v hv
  unfold kwC at hv
  simp only [List.mem_toArray, List.mem_map] at hv
  obtain ⟨b, _, rfl⟩ := hv
  rfl
theorem keywords32 (w : World) : Calls Tryd.prog 32 #[] w fun e w' => e = .returned (.agg kwC) ∧ Below w.heap.size w w' := by
  go_enter Tryd.func32, Tryd.ntmps32
  go_upto_region 1 with (fail)
  refine wp_region_lit ?_
  refine wpList_val rfl (some 1) rfl (.agg kwC) (by kernel_rfl) ?_
  simp only [Act.put, List.setIfInBounds_toArray, List.set_cons_zero, List.set_cons_succ]
  have hZ := Blk.new w 48 kwZ
  refine wpList_store_row rfl 48 _ _ rfl w.heap.size kwC rfl rfl 48 kwZ hZ (by kernel_rfl) (by kernel_rfl) (by kernel_rfl) ?_
  have hZ2 := Blk.setRow (cs' := kwC) hZ
  have hB2 := Below.setRow ((Below.refl _ w).alloc (Nat.le_refl _) (.cells kwZ 48)) (Nat.le_refl _) kwC
  go_wp2_with fail
  refine bodyPost_ret (results_cell_row rfl _ _ w.heap.size 48 kwC (0, 0) _ rfl hZ2 Tryd.underlying48 rfl (by kernel_rfl)) rfl ?_
  exact ⟨rfl, hB2⟩
theorem contains_kw (s : ByteArray) : Lib.containsS (kwB.take 17) ⟨(Lib.mapD upR s.data.toList).toArray⟩ = isKw s.data.toList := by
  rw [← isKw_mapD]
  rw [Bool.eq_iff_iff, Lib.containsS_iff, decide_eq_true_eq]
  show _ ∈ kwB ↔ _
  unfold kwB
  rw [List.mem_map]
  constructor
  · rintro ⟨k, hk, e⟩
    injection e with e
    have := congrArg Array.toList e
    simp at this
    rw [← this]; exact hk
  · intro h
    exact ⟨_, h, rfl⟩
theorem kwB_at : ∀ j, j < kwB.length → kwC[j]? = some (.string (kwB.getD j ByteArray.empty)) := by
  intro j hj
  simp [kwC, List.getD_eq_getElem?_getD, hj]
set_option maxHeartbeats 4000000 in
theorem isKeyword15 (s : ByteArray) (w : World) (hs : s.size < 35184372088832) (hT : UT w) : Calls Tryd.prog 15 #[.string s] w fun e w' => e = .returned (.bool (isKw s.data.toList)) ∧ Below w.heap.size w w' := by
  go_enter Tryd.func15, Tryd.ntmps15
  go_wp2_with (first | (go_at_call 32; refine (keywords32 _).mono ?_; rintro e w1 ⟨rfl, hB1⟩) | (refine wpList_store_row rfl 48 (.tmp 3) (.tmp 4) rfl w1.heap.size kwC rfl rfl 48 kwZ (Blk.newAt _ _ _ rfl) (by kernel_rfl) (by kernel_rfl) (by kernel_rfl) ?_; have hA := Blk.setRow (cs' := kwC) (Blk.newAt w1 48 kwZ rfl); have hB2 := Below.setRow (hB1.alloc hB1.size (.cells kwZ 48)) hB1.size kwC))
  change Code.wp Tryd.prog _ _ _ ((w1.alloc (.cells kwZ 48)).setRow w1.heap.size kwC)
  obtain ⟨w2, hw2⟩ : ∃ w2, w2 = (w1.alloc (.cells kwZ 48)).setRow w1.heap.size kwC := ⟨_, rfl⟩
  obtain ⟨b, hb⟩ : ∃ b, b = w1.heap.size := ⟨_, rfl⟩
  rw [← hw2] at hA hB2 ⊢
  rw [← hb] at hA ⊢
  have hwb : w.heap.size ≤ b := by rw [hb]; exact hB1.size
  clear hw2 hb hB1
  have HS0 : Blk w2.drew b 48 kwC ∧ Below w.heap.size w w2.drew := ⟨Blk.drew hA, ⟨hB2.os, hB2.tape, hB2.output, hB2.size, hB2.block⟩⟩
  have HT := Lib.hid hT
  clear hA hB2 hT
  refine hp_start (fun w' => Blk w' b 48 kwC ∧ Below w.heap.size w w') 5 rfl (by kernel_rfl) (fun c a a' w hd h => ⟨hd ▸ h.1, h.2⟩) (fun hP => ?_)
  rw [show Array.replicate 5 false = #[false, false, false, false, false] from rfl]
  refine hp_take hP 0 (some 5) (.slice (some ⟨b, 0, none⟩) 17 17) rfl rfl (by kernel_rfl) rfl (fun w' hS' => by go_simp; try rfl) HS0 ?_
  simp only [Act.put, List.setIfInBounds_toArray, List.set_cons_zero, List.set_cons_succ]
  refine hp_take hP 1 (some 6) _ rfl rfl (by kernel_rfl) rfl (fun w' hS' => by go_simp; rfl) HS0 ?_
  simp only [Act.put, List.setIfInBounds_toArray, List.set_cons_zero, List.set_cons_succ]
  refine hp_call 2 (some 7) rfl rfl (by kernel_rfl) rfl 26 #[.string s] (by go_simp; try rfl) ?_
  refine (capitals26 s _ hs (HT.out.below HS0.2)).mono ?_
  rintro e w3 ⟨rfl, hB3⟩
  have HS1 : Blk w3 b 48 kwC ∧ Below w.heap.size w w3 := ⟨Blk.below HS0.1 hB3 HS0.1.lt, HS0.2.trans (hB3.mono HS0.2.size)⟩
  refine ⟨_, rfl, HS1, ?_⟩
  simp only [Act.put, List.setIfInBounds_toArray, List.set_cons_zero, List.set_cons_succ]
  refine hp_call 3 (some 8) rfl rfl (by kernel_rfl) rfl 33 #[.slice (some ⟨b, 0, none⟩) 17 17, .string ⟨(Lib.mapD upR s.data.toList).toArray⟩] (by go_simp; try rfl) ?_
  refine (Any.slices_Contains_string contL b 0 17 17 kwB _ w3 (by decide) (by omega) (fun j hj => by rw [Nat.zero_add, HS1.1.cell j]; exact kwB_at j hj)).mono ?_
  rintro e w4 ⟨rfl, rfl⟩
  rw [contains_kw]
  refine ⟨_, rfl, HS1, ?_⟩
  simp only [Act.put, List.setIfInBounds_toArray, List.set_cons_zero, List.set_cons_succ]
  refine hp_take hP 4 (some 2) _ rfl rfl (by kernel_rfl) rfl (fun w' hS' => by go_simp; rfl) HS1 ?_
  simp only [Act.put, List.setIfInBounds_toArray, List.set_cons_zero, List.set_cons_succ]
  refine hk_done (by kernel_rfl) ?_
  go_wp2_with fail
  go_ret
  exact ⟨rfl, HS1.2⟩
end Go.Proofs.YtofjifhnkcghpaaDoor
