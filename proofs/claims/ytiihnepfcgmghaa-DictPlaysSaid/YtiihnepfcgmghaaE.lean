/- ordered's closure: the numbers sorted by their texts, and each number's rank. -/
import Derived.Test.YtiihnepfcgmghaaD
import Derived.Great.BuildSlice
import Derived.Deep.OwnRows
namespace Go.Proofs.Ytiihnepfcgmghaa
open Go.RowKit Go.Maps
set_option linter.unusedVariables false
set_option linter.unusedSimpArgs false

theorem Turn.wide {F G : Nat → Prop} {w w1 w2 : World} (h : Turn F w w1) (k : Turn G w1 w2) (hG : ∀ x, G x → F x ∨ w.heap.size ≤ x) : Turn F w w2 :=
  ⟨k.os.trans h.os, k.tape.trans h.tape, k.output.trans h.output, Nat.le_trans h.size k.size, fun i hi hn => (k.block i (Nat.lt_of_lt_of_le hi h.size) (fun hg => by rcases hG i hg with h' | h'; exact hn h'; omega)).trans (h.block i hi hn)⟩
theorem wpOp_none {P : Program} {ops : Array Oper} {Q : Exit → Act → World → Prop} {K : Act → World → Prop} {a : Act} {w : World} (i : Nat) {o : Oper} (hi : ops[i]? = some o) (hd : o.dst = none) (hw : Region.wanted o (yielded ops a.tmps) = true)
    (w' : World) (hx : (execOp a.eval o).run P w = .ok .skip w') (h : K a w') : wpOp P ops Q i K a w := by
  unfold wpOp
  simp only [hi, hw, if_true]
  refine .inl ?_
  unfold Oper.wp
  rw [hx, Oper.upon_skip, hd]
  exact h
theorem made_rep (z : Value) (n : Nat) : madeCells #[z] n = (List.replicate n z).toArray := by
  apply Array.ext
  · simp [madeCells]
  · intro i h1 h2
    have e : ([z] : List Value)[i % 1]?.getD default = z := by rw [Nat.mod_one]; rfl
    simp [madeCells, e]
theorem info3 : (Try.prog.info? 3).map (fun i => (i.zero, i.size, i.bytes)) = some (some (.int .i64 0), 1, 8) := by kernel_rfl
theorem mk31 (d : Nat) (hd : d ≤ 4096) (w : World) : (Instr.makeSlice 31 (.int .i64 (d : Int)) (.int .i64 (d : Int))).run Try.prog w = .ok (.slice (some ⟨w.heap.size, 0, none⟩) d d) (w.alloc (.cells (List.replicate d (Value.int .i64 0)).toArray 3)) := by
  rw [← made_rep]
  exact run_make_row' 31 3 _ 8 Try.underlying31 info3 rfl .i64 .i64 d (by omega) (by omega) w
/-- an order's cells: the Once, the numbers, the ranks -/
def oc (d m : Int) (a b : Value) : Array Value := #[.int .u32 d, .int .i32 m, .int .u32 0, a, b]
def ptrV (b : Nat) : Value := .pointer (some ⟨b, 0, none⟩)
def rowV (b n : Nat) : Value := .slice (some ⟨b, 0, none⟩) n n
def fillL (n k : Nat) : List Int := (List.range n).map (fun i => if i < k then (i : Int) else 0)
theorem fillL_zero (n : Nat) : (List.replicate n (Value.int .i64 0)).toArray = ints (fillL n 0) := by
  unfold ints fillL
  congr 1
  apply List.ext_getElem
  · simp
  · intro i h1 h2; simp
theorem fillL_set (n k : Nat) : (fillL n k).set k (k : Int) = fillL n (k + 1) := by
  apply List.ext_getElem
  · simp [fillL]
  · intro i h1 h2
    simp only [fillL, List.getElem_set, List.getElem_map, List.getElem_range]
    by_cases e : k = i
    · subst e; rw [if_pos rfl, if_pos (by omega)]
    · rw [if_neg e]
      by_cases h : i < k
      · rw [if_pos h, if_pos (by omega)]
      · rw [if_neg h, if_neg (by omega)]
theorem fillL_full (n : Nat) : fillL n n = upTo n := by
  unfold fillL upTo
  refine List.map_congr_left (fun i hi => ?_)
  rw [if_pos (List.mem_range.1 hi)]; rfl
/-- what is each number's place -/
def RankOf (s : List Nat) (r : List Int) : Prop := r.length = s.length ∧ ∀ j, j < s.length → r.getD (s.getD j 0) 0 = (j : Int)
/-- AN ORDER in block O: the numbers s by their texts, the ranks r -/
structure OrdQ (w : World) (O : Nat) (d m : Int) (l : List ByteArray) (s : List Nat) (r : List Int) (bs br : Nat) : Prop where
  perm : s.Perm (List.range l.length)
  sorted : SortedT l s
  rank : RankOf s r
  cells : Blk w O 73 (oc d m (rowV bs l.length) (rowV br l.length))
  num : Arr w bs 3 (s.map Int.ofNat)
  rnk : Arr w br 3 r
  ne : bs ≠ br

set_option maxRecDepth 100000 in
set_option maxHeartbeats 32000000 in
theorem fill35 (x1 x3 D O : Nat) (l : List ByteArray) (vt vm vo : Value) (w : World) (h1 : Blk w x1 23 #[ptrV D]) (h3 : Blk w x3 55 #[ptrV O]) (hO : Blk w O 73 (oc 0 1 (.slice none 0 0) (.slice none 0 0))) (hD : Blk w D 57 #[vt, vm, vo]) (ho : w.ownsRow 0 9 1 vt l.length (l.map Value.string)) (hl : l.length ≤ 4096) :
    Calls Try.prog 35 #[ptrV x1, ptrV x3] w fun e w' => e = .returned (.tuple #[]) ∧ Turn (fun k => k = O) w w' ∧ ∃ s r bs br, OrdQ w' O 0 1 l s r bs br ∧ w.heap.size ≤ bs ∧ w.heap.size ≤ br := by
  have hmk := mk31 l.length hl
  obtain ⟨bt, off, hbt⟩ : ∃ bt off, 0 < l.length → (∃ c, vt = .slice (some ⟨bt, off, none⟩) l.length c) ∧ (∃ cs, Blk w bt 9 cs) ∧ ∀ j, j < l.length → w.cell? ⟨bt, off + j, none⟩ = some (.string (l.getD j ByteArray.empty)) := by
    have hr := RowS.open (RowS.of_owns ho)
    obtain ⟨a, c, hv, -, -, hc⟩ := hr
    by_cases h0 : 0 < l.length
    · obtain ⟨b, off, ha, hb, hcl⟩ := hc h0
      refine ⟨b, off, fun _ => ⟨⟨c, by rw [hv, ha]⟩, ?_, hcl⟩⟩
      exact owns_blk ho b (by rw [hv, ha]; rcases ho.2 with ⟨-, h⟩ | ⟨g, cap, cur, hv2, -⟩; omega; rw [hv, ha] at hv2; injection hv2 with e1; injection e1 with e1; injection e1 with e1 e2; subst e2; rfl)
    · exact ⟨0, 0, fun h => absurd h h0⟩
  obtain ⟨va, vc, rfl⟩ := owns_form ho
  have n1 : x1 ≠ O := Blk.ne_type h1 hO (by decide)
  have n3 : x3 ≠ O := Blk.ne_type h3 hO (by decide)
  have nD : D ≠ O := Blk.ne_type hD hO (by decide)
  have HCC := Lib.hid (show ∀ w', Turn (fun k => k = O) w w' → w'.cell? ⟨x1, 0, none⟩ = some (.pointer (some ⟨D, 0, none⟩)) ∧ w'.cell? ⟨x3, 0, none⟩ = some (.pointer (some ⟨O, 0, none⟩)) ∧ w'.cell? ⟨D, 0, none⟩ = some (.slice va l.length vc) from fun w' ht =>
    ⟨Blk.cell (h1.turn ht n1) 0, Blk.cell (h3.turn ht n3) 0, Blk.cell (hD.turn ht nD) 0⟩)
  have HBT := Lib.hid hbt
  have HB := Lib.hid (And.intro h1 (And.intro h3 hD))
  have T0 : Turn (fun k => k = O) w w.drew := (Turn.refl _ _).drew
  have hOz := Blk.drew hO
  have HOz0 := Lib.hid hO
  clear hbt h1 h3 hD ho hO
  unfold ptrV
  go_enter Try.func35, Try.ntmps35
  go_upto_region 0 with fail
  refine hp_start (fun w' => Turn (fun k => k = O) w w') 20 rfl (by kernel_rfl) (fun c a a' w hd h => ⟨hd ▸ h.1, h.2⟩) (fun hP => ?_)
  rw [show Array.replicate 20 false = #[false, false, false, false, false, false, false, false, false, false, false, false, false, false, false, false, false, false, false, false] from rfl]
  obtain ⟨wz, hwz⟩ : ∃ wz, wz = w.drew := ⟨_, rfl⟩
  rw [← hwz] at T0 hOz ⊢
  clear hwz
  refine hp_take hP 0 (some 5) _ rfl rfl (by kernel_rfl) rfl (fun w' hS' => by have cc := (HCC.out w' hS').2.1; go_simp; first | done | rfl) T0 ?_
  simp only [Act.put, List.setIfInBounds_toArray, List.set_cons_zero, List.set_cons_succ]
  refine hp_take hP 1 (some 6) _ rfl rfl (by kernel_rfl) rfl (fun w' hS' => by have cc := (HCC.out w' hS').2.1; go_simp; first | done | rfl) T0 ?_
  simp only [Act.put, List.setIfInBounds_toArray, List.set_cons_zero, List.set_cons_succ]
  refine hp_take hP 2 (some 7) _ rfl rfl (by kernel_rfl) rfl (fun w' hS' => by have cc := (HCC.out w' hS').1; go_simp; first | done | rfl) T0 ?_
  simp only [Act.put, List.setIfInBounds_toArray, List.set_cons_zero, List.set_cons_succ]
  refine hp_take hP 3 (some 8) _ rfl rfl (by kernel_rfl) rfl (fun w' hS' => by go_simp; first | done | rfl) T0 ?_
  simp only [Act.put, List.setIfInBounds_toArray, List.set_cons_zero, List.set_cons_succ]
  refine hp_take hP 4 (some 9) _ rfl rfl (by kernel_rfl) rfl (fun w' hS' => by go_simp; first | done | rfl) T0 ?_
  simp only [Act.put, List.setIfInBounds_toArray, List.set_cons_zero, List.set_cons_succ]
  refine hp_take hP 5 (some 10) _ rfl rfl (by kernel_rfl) rfl (fun w' hS' => by have cc := (HCC.out w' hS').2.2; go_simp; first | done | rfl) T0 ?_
  simp only [Act.put, List.setIfInBounds_toArray, List.set_cons_zero, List.set_cons_succ]
  refine hp_take hP 6 (some 11) _ rfl rfl (by kernel_rfl) rfl (fun w' hS' => by go_simp; first | done | rfl) T0 ?_
  simp only [Act.put, List.setIfInBounds_toArray, List.set_cons_zero, List.set_cons_succ]
  refine hp_take hP 8 (some 13) _ rfl rfl (by kernel_rfl) rfl (fun w' hS' => by have cc := (HCC.out w' hS').1; go_simp; first | done | rfl) T0 ?_
  simp only [Act.put, List.setIfInBounds_toArray, List.set_cons_zero, List.set_cons_succ]
  refine hp_take hP 9 (some 14) _ rfl rfl (by kernel_rfl) rfl (fun w' hS' => by go_simp; first | done | rfl) T0 ?_
  simp only [Act.put, List.setIfInBounds_toArray, List.set_cons_zero, List.set_cons_succ]
  refine hp_take hP 10 (some 15) _ rfl rfl (by kernel_rfl) rfl (fun w' hS' => by go_simp; first | done | rfl) T0 ?_
  simp only [Act.put, List.setIfInBounds_toArray, List.set_cons_zero, List.set_cons_succ]
  refine hp_take hP 11 (some 16) _ rfl rfl (by kernel_rfl) rfl (fun w' hS' => by have cc := (HCC.out w' hS').2.2; go_simp; first | done | rfl) T0 ?_
  simp only [Act.put, List.setIfInBounds_toArray, List.set_cons_zero, List.set_cons_succ]
  refine hp_take hP 12 (some 17) _ rfl rfl (by kernel_rfl) rfl (fun w' hS' => by go_simp; first | done | rfl) T0 ?_
  simp only [Act.put, List.setIfInBounds_toArray, List.set_cons_zero, List.set_cons_succ]
  refine hp_two 7 13 (by kernel_rfl) ?_ ?_
  · refine wpOp_val 7 (some 12) rfl rfl rfl (.slice (some ⟨wz.heap.size, 0, none⟩) l.length l.length) (wz.alloc (Obj.cells (List.replicate l.length (Value.int .i64 0)).toArray 3)) (by go_simp; first | done | rfl) ⟨T0.alloc _, ?_⟩
    simp only [Act.put, List.setIfInBounds_toArray, List.set_cons_zero, List.set_cons_succ]
    have Ta := T0.alloc (Obj.cells (List.replicate l.length (Value.int .i64 0)).toArray 3)
    have Abs := Blk.new wz 3 (List.replicate l.length (Value.int .i64 0)).toArray
    have Lbs : w.heap.size ≤ wz.heap.size := T0.size
    have hOa := hOz.alloc (Obj.cells (List.replicate l.length (Value.int .i64 0)).toArray 3)
    obtain ⟨wa, hnwa⟩ : ∃ y, y = wz.alloc (Obj.cells (List.replicate l.length (Value.int .i64 0)).toArray 3) := ⟨_, rfl⟩
    obtain ⟨bs, hbbs⟩ : ∃ y, y = wz.heap.size := ⟨_, rfl⟩
    rw [← hnwa] at Ta Abs hOa ⊢
    rw [← hbbs] at Abs Lbs ⊢
    clear hnwa hbbs
    have Nbs : bs ≠ O := Blk.ne_type Abs hOa (by decide)
    refine hp_take hP 14 (some 19) _ rfl rfl (by kernel_rfl) rfl (fun w' hS' => by go_simp; first | done | rfl) Ta ?_
    simp only [Act.put, List.setIfInBounds_toArray, List.set_cons_zero, List.set_cons_succ]
    refine hp_take hP 15 (some 20) _ rfl rfl (by kernel_rfl) rfl (fun w' hS' => by go_simp; first | done | rfl) Ta ?_
    simp only [Act.put, List.setIfInBounds_toArray, List.set_cons_zero, List.set_cons_succ]
    refine hp_two 13 16 (by kernel_rfl) ?_ ?_
    · have lbs0 := Blk.lt Abs
      refine wpOp_val 13 (some 18) rfl rfl rfl (.slice (some ⟨wa.heap.size, 0, none⟩) l.length l.length) (wa.alloc (Obj.cells (List.replicate l.length (Value.int .i64 0)).toArray 3)) (by go_simp; first | done | rfl) ⟨Ta.alloc _, ?_⟩
      simp only [Act.put, List.setIfInBounds_toArray, List.set_cons_zero, List.set_cons_succ]
      have Tb := Ta.alloc (Obj.cells (List.replicate l.length (Value.int .i64 0)).toArray 3)
      have Abr := Blk.new wa 3 (List.replicate l.length (Value.int .i64 0)).toArray
      have Lbr : w.heap.size ≤ wa.heap.size := Ta.size
      have hOb := hOa.alloc (Obj.cells (List.replicate l.length (Value.int .i64 0)).toArray 3)
      have Abs := Blk.alloc Abs (Obj.cells (List.replicate l.length (Value.int .i64 0)).toArray 3)
      obtain ⟨wb, hnwb⟩ : ∃ y, y = wa.alloc (Obj.cells (List.replicate l.length (Value.int .i64 0)).toArray 3) := ⟨_, rfl⟩
      obtain ⟨br, hbbr⟩ : ∃ y, y = wa.heap.size := ⟨_, rfl⟩
      rw [← hnwb] at Tb Abs Abr hOb ⊢
      rw [← hbbr] at Abr Lbr lbs0 ⊢
      clear hnwb hbbr
      have Nbr : br ≠ O := Blk.ne_type Abr hOb (by decide)
      have cO := Blk.cell hOb 3
      have fO := Blk.free hOb 3
      refine hp_none 16 rfl rfl (by kernel_rfl) rfl _ (by go_simp; rfl) (Tb.setCell (p := ⟨O, 3, none⟩) rfl _) ?_
      simp only [Act.put, List.setIfInBounds_toArray, List.set_cons_zero, List.set_cons_succ]
      clear cO fO
      have Tc := Tb.setCell (p := ⟨O, 3, none⟩) rfl (.slice (some ⟨bs, 0, none⟩) l.length l.length)
      have hOc := Blk.set hOb 3 (.slice (some ⟨bs, 0, none⟩) l.length l.length)
      have Abs := Blk.other Abs (p := ⟨O, 3, none⟩) (fun e => Nbs e.symm) (.slice (some ⟨bs, 0, none⟩) l.length l.length)
      have Abr := Blk.other Abr (p := ⟨O, 3, none⟩) (fun e => Nbr e.symm) (.slice (some ⟨bs, 0, none⟩) l.length l.length)
      obtain ⟨wc, hnwc⟩ : ∃ y, y = wb.setCell ⟨O, 3, none⟩ (.slice (some ⟨bs, 0, none⟩) l.length l.length) := ⟨_, rfl⟩
      rw [← hnwc] at Tc hOc Abs Abr ⊢
      clear hnwc
      refine hp_take hP 17 (some 21) _ rfl rfl (by kernel_rfl) rfl (fun w' hS' => by go_simp; first | done | rfl) Tc ?_
      simp only [Act.put, List.setIfInBounds_toArray, List.set_cons_zero, List.set_cons_succ]
      refine hp_take hP 18 (some 22) _ rfl rfl (by kernel_rfl) rfl (fun w' hS' => by go_simp; first | done | rfl) Tc ?_
      simp only [Act.put, List.setIfInBounds_toArray, List.set_cons_zero, List.set_cons_succ]
      have cO := Blk.cell hOc 4
      have fO := Blk.free hOc 4
      refine hp_none 19 rfl rfl (by kernel_rfl) rfl _ (by go_simp; rfl) (Tc.setCell (p := ⟨O, 4, none⟩) rfl _) ?_
      simp only [Act.put, List.setIfInBounds_toArray, List.set_cons_zero, List.set_cons_succ]
      clear cO fO
      have Td := Tc.setCell (p := ⟨O, 4, none⟩) rfl (.slice (some ⟨br, 0, none⟩) l.length l.length)
      have hOd := Blk.set hOc 4 (.slice (some ⟨br, 0, none⟩) l.length l.length)
      have Abs := Blk.other Abs (p := ⟨O, 4, none⟩) (fun e => Nbs e.symm) (.slice (some ⟨br, 0, none⟩) l.length l.length)
      have Abr := Blk.other Abr (p := ⟨O, 4, none⟩) (fun e => Nbr e.symm) (.slice (some ⟨br, 0, none⟩) l.length l.length)
      obtain ⟨wd, hnwd⟩ : ∃ y, y = wc.setCell ⟨O, 4, none⟩ (.slice (some ⟨br, 0, none⟩) l.length l.length) := ⟨_, rfl⟩
      rw [← hnwd] at Td hOd Abs Abr ⊢
      clear hnwd
      refine hk_done (by kernel_rfl) ?_
      clear hP
      have hne : bs ≠ br := by omega
      rw [fillL_zero] at Abs Abr
      have HW := Lib.hid (And.intro Td (And.intro (show Blk wd O 73 (oc 0 1 (rowV bs l.length) (rowV br l.length)) from hOd) (And.intro (show Arr wd bs 3 (fillL l.length 0) from Abs) (show Arr wd br 3 (fillL l.length 0) from Abr))))
      have HL2 := Lib.hid (And.intro Lbs (And.intro Lbr (And.intro Nbs (And.intro Nbr hne))))
      have hx3 : wd.cell? ⟨x3, 0, none⟩ = some (.pointer (some ⟨O, 0, none⟩)) := (HCC.out wd Td).2.1
      have hc3 : wd.cell? ⟨O, 3, none⟩ = some (.slice (some ⟨bs, 0, none⟩) l.length l.length) := Blk.cell HW.out.2.1 3
      have m3 : x3 ≠ bs := Blk.ne_type (HB.out.2.1.turn Td n3) Abs (by decide)
      clear hmk hOd Td Abs Abr Lbs Lbr Nbs Nbr hne
      go_wp2_with fail
      clear hx3 hc3
      go_loopw [28] (fun s wr => ∃ k : Nat, k ≤ l.length ∧ s = .int .i64 k ∧ Turn (fun g => g = bs) wd wr ∧ Arr wr bs 3 (fillL l.length k)) (fun s _ => l.length - (intOf s).toNat)
      case atStart => exact ⟨0, by omega, rfl, Turn.refl _ _, HW.out.2.2.1⟩
      case round =>
        obtain ⟨k, hk, rfl, ht, ha⟩ := hrel
        have hx3 : wr.cell? ⟨x3, 0, none⟩ = some (.pointer (some ⟨O, 0, none⟩)) := Blk.cell ((HB.out.2.1.turn HW.out.1 n3).turn ht m3) 0
        have hc3 : wr.cell? ⟨O, 3, none⟩ = some (.slice (some ⟨bs, 0, none⟩) l.length l.length) := Blk.cell (HW.out.2.1.turn ht (fun e => HL2.out.2.2.1 e.symm)) 3
        by_cases hlt : k < l.length
        · have hki : decide ((k : Int) < (l.length : Int)) = true := decide_eq_true (by omega)
          have hck := ha.cell (j := k) (by simp [fillL]; omega)
          have hfk := ha.free k
          have hset := ha.set k (k : Int)
          rw [fillL_set] at hset
          have HA := Lib.hid (And.intro (ht.setCell (p := ⟨bs, k, none⟩) rfl (.int .i64 (k : Int))) hset)
          clear ht ha hset
          go_wp2_with fail
          go_roundw
          case rel => exact ⟨k + 1, by omega, by go_num, HA.out⟩
          case measure => simp [intOf]; omega
        · obtain rfl : k = l.length := by omega
          rw [fillL_full] at ha
          have HA := Lib.hid (And.intro ht ha)
          have Td := HW.out.1
          have mD : D ≠ bs := Blk.ne_type ((HB.out.2.2.turn Td nD).turn ht (fun e => by
            have h5 := Blk.ne_type (HB.out.2.2.turn Td nD) HW.out.2.2.1 (by decide)
            exact h5 e)) ha (by decide)
          have m1 : x1 ≠ bs := Blk.ne_type (HB.out.1.turn Td n1) HW.out.2.2.1 (by decide)
          have HSO := Lib.hid (sort36 x1 D bt off vc bs l wr hl (Blk.cell ((HB.out.1.turn Td n1).turn ht m1) 0) (fun h0 => by
            obtain ⟨⟨c, hv⟩, -⟩ := HBT.out h0
            injection hv with e1 e2 e3
            rw [← e1]
            exact Blk.cell ((HB.out.2.2.turn Td nD).turn ht mD) 0) (fun j hj => by
            obtain ⟨-, ⟨cs, hb9⟩, hcl⟩ := HBT.out (by omega)
            have hO9 : bt ≠ O := Blk.ne_type (hb9.turn (F := fun _ => False) (Turn.refl _ _) id) HOz0.out (by decide)
            have hb9' := (hb9.turn Td hO9)
            have hs9 : bt ≠ bs := Blk.ne_type hb9' HW.out.2.2.1 (by decide)
            rw [Blk.cell (hb9'.turn ht hs9), ← Blk.cell hb9]
            exact hcl j hj) ha ⟨m1, ((HB.out.1.turn Td n1).turn ht m1).lt⟩ ⟨mD, ((HB.out.2.2.turn Td nD).turn ht mD).lt⟩ (fun h0 => by
            obtain ⟨-, ⟨cs, hb9⟩, -⟩ := HBT.out h0
            have hO9 : bt ≠ O := Blk.ne_type hb9 HOz0.out (by decide)
            have hb9' := (hb9.turn Td hO9)
            have hs9 : bt ≠ bs := Blk.ne_type hb9' HW.out.2.2.1 (by decide)
            exact ⟨hs9, (hb9'.turn ht hs9).lt⟩))
          clear ht ha mD m1
          go_wp2_with fail
          refine HSO.out.mono ?_
          rintro e w2 ⟨rfl, s, hp, hst, has, ht2⟩
          have HS2 := Lib.hid (And.intro hp (And.intro hst has))
          have hsl : s.length = l.length := by have := hp.length_eq; simpa using this
          have HT2 := Lib.hid (HA.out.1.trans ht2)
          have hx3 : w2.cell? ⟨x3, 0, none⟩ = some (.pointer (some ⟨O, 0, none⟩)) := Blk.cell ((HB.out.2.1.turn Td n3).turn HT2.out m3) 0
          have hO2 : Blk w2 O 73 (oc 0 1 (rowV bs l.length) (rowV br l.length)) := HW.out.2.1.turn HT2.out (fun e => HL2.out.2.2.1 e.symm)
          have hc3 : w2.cell? ⟨O, 3, none⟩ = some (.slice (some ⟨bs, 0, none⟩) l.length l.length) := Blk.cell hO2 3
          have HR2 := Lib.hid (And.intro hO2 (show Arr w2 br 3 (fillL l.length 0) from HW.out.2.2.2.turn HT2.out (fun e => HL2.out.2.2.2.2 e.symm)))
          have m4 : x3 ≠ br := Blk.ne_type (HB.out.2.1.turn Td n3) HW.out.2.2.2 (by decide)
          clear hp hst has ht2 HSO hO2
          go_wp2_with fail
          clear hx3 hc3
          go_loopw [50] (fun t wr => ∃ (k : Nat) (r : List Int), k ≤ l.length ∧ t = .int .i64 k ∧ Turn (fun g => g = br) w2 wr ∧ Arr wr br 3 r ∧ r.length = l.length ∧ ∀ j, j < k → r.getD (s.getD j 0) 0 = (j : Int)) (fun t _ => l.length - (intOf t).toNat)
          case atStart => exact ⟨0, _, by omega, rfl, Turn.refl _ _, HR2.out.2, by simp [fillL], fun j hj => by omega⟩
          case round =>
            obtain ⟨k, r, hk, rfl, ht, ha, hrl, hr⟩ := hrel
            by_cases hlt : k < l.length
            · have hx3 : wr.cell? ⟨x3, 0, none⟩ = some (.pointer (some ⟨O, 0, none⟩)) := Blk.cell (((HB.out.2.1.turn Td n3).turn HT2.out m3).turn ht m4) 0
              have hc4 : wr.cell? ⟨O, 4, none⟩ = some (.slice (some ⟨br, 0, none⟩) l.length l.length) := Blk.cell (HR2.out.1.turn ht (fun e => HL2.out.2.2.2.1 e.symm)) 4
              have hck : wr.cell? ⟨bs, k, none⟩ = some (.int .i64 ((s.getD k 0 : Nat) : Int)) := by
                rw [Arr.cell (HS2.out.2.2.turn ht (fun e => HL2.out.2.2.2.2 e)) (j := k) (by simp [hsl]; omega)]
                simp [List.getD_eq_getElem?_getD, show k < s.length by omega]
              have hsk : s.getD k 0 < l.length := by
                have := HS2.out.1.mem_iff (a := s.getD k 0)
                exact List.mem_range.1 (this.1 (getD_mem (by omega)))
              have hnd : s.Nodup := HS2.out.1.nodup_iff.2 List.nodup_range
              have hinj : ∀ j, j < k → s.getD j 0 ≠ s.getD k 0 := fun j hj e => by
                rw [List.getD_eq_getElem?_getD, List.getD_eq_getElem?_getD, List.getElem?_eq_getElem (by omega), List.getElem?_eq_getElem (by omega)] at e
                exact List.pairwise_iff_getElem.1 hnd j k (by omega) (by omega) hj e
              have HINJ := Lib.hid hinj
              have HRR := Lib.hid (And.intro hrl hr)
              obtain ⟨z, hz⟩ : ∃ z, z = s.getD k 0 := ⟨_, rfl⟩
              rw [← hz] at hck hsk
              have HZ := Lib.hid hz
              have hkz := ha.cell (j := z) (by omega)
              have hfz := ha.free z
              have HA2 := Lib.hid (And.intro (ht.setCell (p := ⟨br, z, none⟩) rfl (.int .i64 (k : Int))) (ha.set z (k : Int)))
              have hki : decide ((k : Int) < (l.length : Int)) = true := decide_eq_true (by omega)
              have hzi : (z : Int) < (l.length : Int) := by omega
              clear ht ha hr hinj hnd hz hrl
              go_wp2_with fail
              go_roundw
              case rel => exact ⟨k + 1, _, by omega, by go_num, HA2.out.1, HA2.out.2, by simpa using HRR.out.1, fun j hj => by
                by_cases e : j = k
                · subst e
                  rw [← HZ.out, List.getD_eq_getElem?_getD, List.getElem?_set_self (by have := HRR.out.1; omega)]; rfl
                · have h6 := HINJ.out j (by omega)
                  rw [← HZ.out] at h6
                  rw [List.getD_eq_getElem?_getD, List.getElem?_set_ne (fun h => h6 h.symm), ← List.getD_eq_getElem?_getD]
                  exact HRR.out.2 j (by omega)⟩
              case measure => simp [intOf]; omega
            · obtain rfl : k = l.length := by omega
              have HF := Lib.hid (And.intro ht (And.intro ha (And.intro hrl hr)))
              clear ht ha hrl hr
              go_wp2_with fail
              go_end0
              refine ⟨rfl, ?_, s, r, bs, br, ⟨HS2.out.1, HS2.out.2.1, ⟨by rw [HF.out.2.2.1, hsl], fun j hj => HF.out.2.2.2 j (by omega)⟩, HR2.out.1.turn HF.out.1 (fun e => HL2.out.2.2.2.1 e.symm), HS2.out.2.2.turn HF.out.1 (fun e => HL2.out.2.2.2.2 e), HF.out.2.1, HL2.out.2.2.2.2⟩, HL2.out.1, HL2.out.2.1⟩
              have hall : Turn (fun g => g = bs ∨ g = br) wd wr := (HT2.out.mono (fun k _ h => .inl h)).trans (HF.out.1.mono (fun k _ h => .inr h))
              exact HW.out.1.wide hall (fun x hx => .inr (by rcases hx with rfl | rfl; exact HL2.out.1; exact HL2.out.2.1))
    · have cO := Blk.cell hOa 3
      have fO := Blk.free hOa 3
      refine wpOp_none 16 rfl rfl rfl _ (by go_simp; rfl) ⟨Ta.setCell (p := ⟨O, 3, none⟩) rfl _, ?_⟩
      clear cO fO
      have Tb := Ta.setCell (p := ⟨O, 3, none⟩) rfl (.slice (some ⟨bs, 0, none⟩) l.length l.length)
      have hOb := Blk.set hOa 3 (.slice (some ⟨bs, 0, none⟩) l.length l.length)
      have Abs := Blk.other Abs (p := ⟨O, 3, none⟩) (fun e => Nbs e.symm) (.slice (some ⟨bs, 0, none⟩) l.length l.length)
      obtain ⟨wb, hnwb⟩ : ∃ y, y = wa.setCell ⟨O, 3, none⟩ (.slice (some ⟨bs, 0, none⟩) l.length l.length) := ⟨_, rfl⟩
      rw [← hnwb] at Tb hOb Abs ⊢
      clear hnwb
      have lbs0 := Blk.lt Abs
      refine hp_val 13 (some 18) rfl rfl (by kernel_rfl) rfl (.slice (some ⟨wb.heap.size, 0, none⟩) l.length l.length) (wb.alloc (Obj.cells (List.replicate l.length (Value.int .i64 0)).toArray 3)) (by go_simp; first | done | rfl) (Tb.alloc _) ?_
      simp only [Act.put, List.setIfInBounds_toArray, List.set_cons_zero, List.set_cons_succ]
      have Tc := Tb.alloc (Obj.cells (List.replicate l.length (Value.int .i64 0)).toArray 3)
      have Abr := Blk.new wb 3 (List.replicate l.length (Value.int .i64 0)).toArray
      have Lbr : w.heap.size ≤ wb.heap.size := Tb.size
      have hOc := hOb.alloc (Obj.cells (List.replicate l.length (Value.int .i64 0)).toArray 3)
      have Abs := Blk.alloc Abs (Obj.cells (List.replicate l.length (Value.int .i64 0)).toArray 3)
      obtain ⟨wc, hnwc⟩ : ∃ y, y = wb.alloc (Obj.cells (List.replicate l.length (Value.int .i64 0)).toArray 3) := ⟨_, rfl⟩
      obtain ⟨br, hbbr⟩ : ∃ y, y = wb.heap.size := ⟨_, rfl⟩
      rw [← hnwc] at Tc Abs Abr hOc ⊢
      rw [← hbbr] at Abr Lbr lbs0 ⊢
      clear hnwc hbbr
      have Nbr : br ≠ O := Blk.ne_type Abr hOc (by decide)
      refine hp_take hP 17 (some 21) _ rfl rfl (by kernel_rfl) rfl (fun w' hS' => by go_simp; first | done | rfl) Tc ?_
      simp only [Act.put, List.setIfInBounds_toArray, List.set_cons_zero, List.set_cons_succ]
      refine hp_take hP 18 (some 22) _ rfl rfl (by kernel_rfl) rfl (fun w' hS' => by go_simp; first | done | rfl) Tc ?_
      simp only [Act.put, List.setIfInBounds_toArray, List.set_cons_zero, List.set_cons_succ]
      have cO := Blk.cell hOc 4
      have fO := Blk.free hOc 4
      refine hp_none 19 rfl rfl (by kernel_rfl) rfl _ (by go_simp; rfl) (Tc.setCell (p := ⟨O, 4, none⟩) rfl _) ?_
      simp only [Act.put, List.setIfInBounds_toArray, List.set_cons_zero, List.set_cons_succ]
      clear cO fO
      have Td := Tc.setCell (p := ⟨O, 4, none⟩) rfl (.slice (some ⟨br, 0, none⟩) l.length l.length)
      have hOd := Blk.set hOc 4 (.slice (some ⟨br, 0, none⟩) l.length l.length)
      have Abs := Blk.other Abs (p := ⟨O, 4, none⟩) (fun e => Nbs e.symm) (.slice (some ⟨br, 0, none⟩) l.length l.length)
      have Abr := Blk.other Abr (p := ⟨O, 4, none⟩) (fun e => Nbr e.symm) (.slice (some ⟨br, 0, none⟩) l.length l.length)
      obtain ⟨wd, hnwd⟩ : ∃ y, y = wc.setCell ⟨O, 4, none⟩ (.slice (some ⟨br, 0, none⟩) l.length l.length) := ⟨_, rfl⟩
      rw [← hnwd] at Td hOd Abs Abr ⊢
      clear hnwd
      refine hk_done (by kernel_rfl) ?_
      clear hP
      have hne : bs ≠ br := by omega
      rw [fillL_zero] at Abs Abr
      have HW := Lib.hid (And.intro Td (And.intro (show Blk wd O 73 (oc 0 1 (rowV bs l.length) (rowV br l.length)) from hOd) (And.intro (show Arr wd bs 3 (fillL l.length 0) from Abs) (show Arr wd br 3 (fillL l.length 0) from Abr))))
      have HL2 := Lib.hid (And.intro Lbs (And.intro Lbr (And.intro Nbs (And.intro Nbr hne))))
      have hx3 : wd.cell? ⟨x3, 0, none⟩ = some (.pointer (some ⟨O, 0, none⟩)) := (HCC.out wd Td).2.1
      have hc3 : wd.cell? ⟨O, 3, none⟩ = some (.slice (some ⟨bs, 0, none⟩) l.length l.length) := Blk.cell HW.out.2.1 3
      have m3 : x3 ≠ bs := Blk.ne_type (HB.out.2.1.turn Td n3) Abs (by decide)
      clear hmk hOd Td Abs Abr Lbs Lbr Nbs Nbr hne
      go_wp2_with fail
      clear hx3 hc3
      go_loopw [28] (fun s wr => ∃ k : Nat, k ≤ l.length ∧ s = .int .i64 k ∧ Turn (fun g => g = bs) wd wr ∧ Arr wr bs 3 (fillL l.length k)) (fun s _ => l.length - (intOf s).toNat)
      case atStart => exact ⟨0, by omega, rfl, Turn.refl _ _, HW.out.2.2.1⟩
      case round =>
        obtain ⟨k, hk, rfl, ht, ha⟩ := hrel
        have hx3 : wr.cell? ⟨x3, 0, none⟩ = some (.pointer (some ⟨O, 0, none⟩)) := Blk.cell ((HB.out.2.1.turn HW.out.1 n3).turn ht m3) 0
        have hc3 : wr.cell? ⟨O, 3, none⟩ = some (.slice (some ⟨bs, 0, none⟩) l.length l.length) := Blk.cell (HW.out.2.1.turn ht (fun e => HL2.out.2.2.1 e.symm)) 3
        by_cases hlt : k < l.length
        · have hki : decide ((k : Int) < (l.length : Int)) = true := decide_eq_true (by omega)
          have hck := ha.cell (j := k) (by simp [fillL]; omega)
          have hfk := ha.free k
          have hset := ha.set k (k : Int)
          rw [fillL_set] at hset
          have HA := Lib.hid (And.intro (ht.setCell (p := ⟨bs, k, none⟩) rfl (.int .i64 (k : Int))) hset)
          clear ht ha hset
          go_wp2_with fail
          go_roundw
          case rel => exact ⟨k + 1, by omega, by go_num, HA.out⟩
          case measure => simp [intOf]; omega
        · obtain rfl : k = l.length := by omega
          rw [fillL_full] at ha
          have HA := Lib.hid (And.intro ht ha)
          have Td := HW.out.1
          have mD : D ≠ bs := Blk.ne_type ((HB.out.2.2.turn Td nD).turn ht (fun e => by
            have h5 := Blk.ne_type (HB.out.2.2.turn Td nD) HW.out.2.2.1 (by decide)
            exact h5 e)) ha (by decide)
          have m1 : x1 ≠ bs := Blk.ne_type (HB.out.1.turn Td n1) HW.out.2.2.1 (by decide)
          have HSO := Lib.hid (sort36 x1 D bt off vc bs l wr hl (Blk.cell ((HB.out.1.turn Td n1).turn ht m1) 0) (fun h0 => by
            obtain ⟨⟨c, hv⟩, -⟩ := HBT.out h0
            injection hv with e1 e2 e3
            rw [← e1]
            exact Blk.cell ((HB.out.2.2.turn Td nD).turn ht mD) 0) (fun j hj => by
            obtain ⟨-, ⟨cs, hb9⟩, hcl⟩ := HBT.out (by omega)
            have hO9 : bt ≠ O := Blk.ne_type (hb9.turn (F := fun _ => False) (Turn.refl _ _) id) HOz0.out (by decide)
            have hb9' := (hb9.turn Td hO9)
            have hs9 : bt ≠ bs := Blk.ne_type hb9' HW.out.2.2.1 (by decide)
            rw [Blk.cell (hb9'.turn ht hs9), ← Blk.cell hb9]
            exact hcl j hj) ha ⟨m1, ((HB.out.1.turn Td n1).turn ht m1).lt⟩ ⟨mD, ((HB.out.2.2.turn Td nD).turn ht mD).lt⟩ (fun h0 => by
            obtain ⟨-, ⟨cs, hb9⟩, -⟩ := HBT.out h0
            have hO9 : bt ≠ O := Blk.ne_type hb9 HOz0.out (by decide)
            have hb9' := (hb9.turn Td hO9)
            have hs9 : bt ≠ bs := Blk.ne_type hb9' HW.out.2.2.1 (by decide)
            exact ⟨hs9, (hb9'.turn ht hs9).lt⟩))
          clear ht ha mD m1
          go_wp2_with fail
          refine HSO.out.mono ?_
          rintro e w2 ⟨rfl, s, hp, hst, has, ht2⟩
          have HS2 := Lib.hid (And.intro hp (And.intro hst has))
          have hsl : s.length = l.length := by have := hp.length_eq; simpa using this
          have HT2 := Lib.hid (HA.out.1.trans ht2)
          have hx3 : w2.cell? ⟨x3, 0, none⟩ = some (.pointer (some ⟨O, 0, none⟩)) := Blk.cell ((HB.out.2.1.turn Td n3).turn HT2.out m3) 0
          have hO2 : Blk w2 O 73 (oc 0 1 (rowV bs l.length) (rowV br l.length)) := HW.out.2.1.turn HT2.out (fun e => HL2.out.2.2.1 e.symm)
          have hc3 : w2.cell? ⟨O, 3, none⟩ = some (.slice (some ⟨bs, 0, none⟩) l.length l.length) := Blk.cell hO2 3
          have HR2 := Lib.hid (And.intro hO2 (show Arr w2 br 3 (fillL l.length 0) from HW.out.2.2.2.turn HT2.out (fun e => HL2.out.2.2.2.2 e.symm)))
          have m4 : x3 ≠ br := Blk.ne_type (HB.out.2.1.turn Td n3) HW.out.2.2.2 (by decide)
          clear hp hst has ht2 HSO hO2
          go_wp2_with fail
          clear hx3 hc3
          go_loopw [50] (fun t wr => ∃ (k : Nat) (r : List Int), k ≤ l.length ∧ t = .int .i64 k ∧ Turn (fun g => g = br) w2 wr ∧ Arr wr br 3 r ∧ r.length = l.length ∧ ∀ j, j < k → r.getD (s.getD j 0) 0 = (j : Int)) (fun t _ => l.length - (intOf t).toNat)
          case atStart => exact ⟨0, _, by omega, rfl, Turn.refl _ _, HR2.out.2, by simp [fillL], fun j hj => by omega⟩
          case round =>
            obtain ⟨k, r, hk, rfl, ht, ha, hrl, hr⟩ := hrel
            by_cases hlt : k < l.length
            · have hx3 : wr.cell? ⟨x3, 0, none⟩ = some (.pointer (some ⟨O, 0, none⟩)) := Blk.cell (((HB.out.2.1.turn Td n3).turn HT2.out m3).turn ht m4) 0
              have hc4 : wr.cell? ⟨O, 4, none⟩ = some (.slice (some ⟨br, 0, none⟩) l.length l.length) := Blk.cell (HR2.out.1.turn ht (fun e => HL2.out.2.2.2.1 e.symm)) 4
              have hck : wr.cell? ⟨bs, k, none⟩ = some (.int .i64 ((s.getD k 0 : Nat) : Int)) := by
                rw [Arr.cell (HS2.out.2.2.turn ht (fun e => HL2.out.2.2.2.2 e)) (j := k) (by simp [hsl]; omega)]
                simp [List.getD_eq_getElem?_getD, show k < s.length by omega]
              have hsk : s.getD k 0 < l.length := by
                have := HS2.out.1.mem_iff (a := s.getD k 0)
                exact List.mem_range.1 (this.1 (getD_mem (by omega)))
              have hnd : s.Nodup := HS2.out.1.nodup_iff.2 List.nodup_range
              have hinj : ∀ j, j < k → s.getD j 0 ≠ s.getD k 0 := fun j hj e => by
                rw [List.getD_eq_getElem?_getD, List.getD_eq_getElem?_getD, List.getElem?_eq_getElem (by omega), List.getElem?_eq_getElem (by omega)] at e
                exact List.pairwise_iff_getElem.1 hnd j k (by omega) (by omega) hj e
              have HINJ := Lib.hid hinj
              have HRR := Lib.hid (And.intro hrl hr)
              obtain ⟨z, hz⟩ : ∃ z, z = s.getD k 0 := ⟨_, rfl⟩
              rw [← hz] at hck hsk
              have HZ := Lib.hid hz
              have hkz := ha.cell (j := z) (by omega)
              have hfz := ha.free z
              have HA2 := Lib.hid (And.intro (ht.setCell (p := ⟨br, z, none⟩) rfl (.int .i64 (k : Int))) (ha.set z (k : Int)))
              have hki : decide ((k : Int) < (l.length : Int)) = true := decide_eq_true (by omega)
              have hzi : (z : Int) < (l.length : Int) := by omega
              clear ht ha hr hinj hnd hz hrl
              go_wp2_with fail
              go_roundw
              case rel => exact ⟨k + 1, _, by omega, by go_num, HA2.out.1, HA2.out.2, by simpa using HRR.out.1, fun j hj => by
                by_cases e : j = k
                · subst e
                  rw [← HZ.out, List.getD_eq_getElem?_getD, List.getElem?_set_self (by have := HRR.out.1; omega)]; rfl
                · have h6 := HINJ.out j (by omega)
                  rw [← HZ.out] at h6
                  rw [List.getD_eq_getElem?_getD, List.getElem?_set_ne (fun h => h6 h.symm), ← List.getD_eq_getElem?_getD]
                  exact HRR.out.2 j (by omega)⟩
              case measure => simp [intOf]; omega
            · obtain rfl : k = l.length := by omega
              have HF := Lib.hid (And.intro ht (And.intro ha (And.intro hrl hr)))
              clear ht ha hrl hr
              go_wp2_with fail
              go_end0
              refine ⟨rfl, ?_, s, r, bs, br, ⟨HS2.out.1, HS2.out.2.1, ⟨by rw [HF.out.2.2.1, hsl], fun j hj => HF.out.2.2.2 j (by omega)⟩, HR2.out.1.turn HF.out.1 (fun e => HL2.out.2.2.2.1 e.symm), HS2.out.2.2.turn HF.out.1 (fun e => HL2.out.2.2.2.2 e), HF.out.2.1, HL2.out.2.2.2.2⟩, HL2.out.1, HL2.out.2.1⟩
              have hall : Turn (fun g => g = bs ∨ g = br) wd wr := (HT2.out.mono (fun k _ h => .inl h)).trans (HF.out.1.mono (fun k _ h => .inr h))
              exact HW.out.1.wide hall (fun x hx => .inr (by rcases hx with rfl | rfl; exact HL2.out.1; exact HL2.out.2.1))
  · refine wpOp_val 13 (some 18) rfl rfl rfl (.slice (some ⟨wz.heap.size, 0, none⟩) l.length l.length) (wz.alloc (Obj.cells (List.replicate l.length (Value.int .i64 0)).toArray 3)) (by go_simp; first | done | rfl) ⟨T0.alloc _, ?_⟩
    simp only [Act.put, List.setIfInBounds_toArray, List.set_cons_zero, List.set_cons_succ]
    have Ta := T0.alloc (Obj.cells (List.replicate l.length (Value.int .i64 0)).toArray 3)
    have Abr := Blk.new wz 3 (List.replicate l.length (Value.int .i64 0)).toArray
    have Lbr : w.heap.size ≤ wz.heap.size := T0.size
    have hOa := hOz.alloc (Obj.cells (List.replicate l.length (Value.int .i64 0)).toArray 3)
    obtain ⟨wa, hnwa⟩ : ∃ y, y = wz.alloc (Obj.cells (List.replicate l.length (Value.int .i64 0)).toArray 3) := ⟨_, rfl⟩
    obtain ⟨br, hbbr⟩ : ∃ y, y = wz.heap.size := ⟨_, rfl⟩
    rw [← hnwa] at Ta Abr hOa ⊢
    rw [← hbbr] at Abr Lbr ⊢
    clear hnwa hbbr
    have Nbr : br ≠ O := Blk.ne_type Abr hOa (by decide)
    have lbs0 := Blk.lt Abr
    refine hp_val 7 (some 12) rfl rfl (by kernel_rfl) rfl (.slice (some ⟨wa.heap.size, 0, none⟩) l.length l.length) (wa.alloc (Obj.cells (List.replicate l.length (Value.int .i64 0)).toArray 3)) (by go_simp; first | done | rfl) (Ta.alloc _) ?_
    simp only [Act.put, List.setIfInBounds_toArray, List.set_cons_zero, List.set_cons_succ]
    have Tb := Ta.alloc (Obj.cells (List.replicate l.length (Value.int .i64 0)).toArray 3)
    have Abs := Blk.new wa 3 (List.replicate l.length (Value.int .i64 0)).toArray
    have Lbs : w.heap.size ≤ wa.heap.size := Ta.size
    have hOb := hOa.alloc (Obj.cells (List.replicate l.length (Value.int .i64 0)).toArray 3)
    have Abr := Blk.alloc Abr (Obj.cells (List.replicate l.length (Value.int .i64 0)).toArray 3)
    obtain ⟨wb, hnwb⟩ : ∃ y, y = wa.alloc (Obj.cells (List.replicate l.length (Value.int .i64 0)).toArray 3) := ⟨_, rfl⟩
    obtain ⟨bs, hbbs⟩ : ∃ y, y = wa.heap.size := ⟨_, rfl⟩
    rw [← hnwb] at Tb Abs Abr hOb ⊢
    rw [← hbbs] at Abs Lbs lbs0 ⊢
    clear hnwb hbbs
    have Nbs : bs ≠ O := Blk.ne_type Abs hOb (by decide)
    refine hp_take hP 14 (some 19) _ rfl rfl (by kernel_rfl) rfl (fun w' hS' => by go_simp; first | done | rfl) Tb ?_
    simp only [Act.put, List.setIfInBounds_toArray, List.set_cons_zero, List.set_cons_succ]
    refine hp_take hP 15 (some 20) _ rfl rfl (by kernel_rfl) rfl (fun w' hS' => by go_simp; first | done | rfl) Tb ?_
    simp only [Act.put, List.setIfInBounds_toArray, List.set_cons_zero, List.set_cons_succ]
    have cO := Blk.cell hOb 3
    have fO := Blk.free hOb 3
    refine hp_none 16 rfl rfl (by kernel_rfl) rfl _ (by go_simp; rfl) (Tb.setCell (p := ⟨O, 3, none⟩) rfl _) ?_
    simp only [Act.put, List.setIfInBounds_toArray, List.set_cons_zero, List.set_cons_succ]
    clear cO fO
    have Tc := Tb.setCell (p := ⟨O, 3, none⟩) rfl (.slice (some ⟨bs, 0, none⟩) l.length l.length)
    have hOc := Blk.set hOb 3 (.slice (some ⟨bs, 0, none⟩) l.length l.length)
    have Abs := Blk.other Abs (p := ⟨O, 3, none⟩) (fun e => Nbs e.symm) (.slice (some ⟨bs, 0, none⟩) l.length l.length)
    have Abr := Blk.other Abr (p := ⟨O, 3, none⟩) (fun e => Nbr e.symm) (.slice (some ⟨bs, 0, none⟩) l.length l.length)
    obtain ⟨wc, hnwc⟩ : ∃ y, y = wb.setCell ⟨O, 3, none⟩ (.slice (some ⟨bs, 0, none⟩) l.length l.length) := ⟨_, rfl⟩
    rw [← hnwc] at Tc hOc Abs Abr ⊢
    clear hnwc
    refine hp_take hP 17 (some 21) _ rfl rfl (by kernel_rfl) rfl (fun w' hS' => by go_simp; first | done | rfl) Tc ?_
    simp only [Act.put, List.setIfInBounds_toArray, List.set_cons_zero, List.set_cons_succ]
    refine hp_take hP 18 (some 22) _ rfl rfl (by kernel_rfl) rfl (fun w' hS' => by go_simp; first | done | rfl) Tc ?_
    simp only [Act.put, List.setIfInBounds_toArray, List.set_cons_zero, List.set_cons_succ]
    have cO := Blk.cell hOc 4
    have fO := Blk.free hOc 4
    refine hp_none 19 rfl rfl (by kernel_rfl) rfl _ (by go_simp; rfl) (Tc.setCell (p := ⟨O, 4, none⟩) rfl _) ?_
    simp only [Act.put, List.setIfInBounds_toArray, List.set_cons_zero, List.set_cons_succ]
    clear cO fO
    have Td := Tc.setCell (p := ⟨O, 4, none⟩) rfl (.slice (some ⟨br, 0, none⟩) l.length l.length)
    have hOd := Blk.set hOc 4 (.slice (some ⟨br, 0, none⟩) l.length l.length)
    have Abs := Blk.other Abs (p := ⟨O, 4, none⟩) (fun e => Nbs e.symm) (.slice (some ⟨br, 0, none⟩) l.length l.length)
    have Abr := Blk.other Abr (p := ⟨O, 4, none⟩) (fun e => Nbr e.symm) (.slice (some ⟨br, 0, none⟩) l.length l.length)
    obtain ⟨wd, hnwd⟩ : ∃ y, y = wc.setCell ⟨O, 4, none⟩ (.slice (some ⟨br, 0, none⟩) l.length l.length) := ⟨_, rfl⟩
    rw [← hnwd] at Td hOd Abs Abr ⊢
    clear hnwd
    refine hk_done (by kernel_rfl) ?_
    clear hP
    have hne : bs ≠ br := by omega
    rw [fillL_zero] at Abs Abr
    have HW := Lib.hid (And.intro Td (And.intro (show Blk wd O 73 (oc 0 1 (rowV bs l.length) (rowV br l.length)) from hOd) (And.intro (show Arr wd bs 3 (fillL l.length 0) from Abs) (show Arr wd br 3 (fillL l.length 0) from Abr))))
    have HL2 := Lib.hid (And.intro Lbs (And.intro Lbr (And.intro Nbs (And.intro Nbr hne))))
    have hx3 : wd.cell? ⟨x3, 0, none⟩ = some (.pointer (some ⟨O, 0, none⟩)) := (HCC.out wd Td).2.1
    have hc3 : wd.cell? ⟨O, 3, none⟩ = some (.slice (some ⟨bs, 0, none⟩) l.length l.length) := Blk.cell HW.out.2.1 3
    have m3 : x3 ≠ bs := Blk.ne_type (HB.out.2.1.turn Td n3) Abs (by decide)
    clear hmk hOd Td Abs Abr Lbs Lbr Nbs Nbr hne
    go_wp2_with fail
    clear hx3 hc3
    go_loopw [28] (fun s wr => ∃ k : Nat, k ≤ l.length ∧ s = .int .i64 k ∧ Turn (fun g => g = bs) wd wr ∧ Arr wr bs 3 (fillL l.length k)) (fun s _ => l.length - (intOf s).toNat)
    case atStart => exact ⟨0, by omega, rfl, Turn.refl _ _, HW.out.2.2.1⟩
    case round =>
      obtain ⟨k, hk, rfl, ht, ha⟩ := hrel
      have hx3 : wr.cell? ⟨x3, 0, none⟩ = some (.pointer (some ⟨O, 0, none⟩)) := Blk.cell ((HB.out.2.1.turn HW.out.1 n3).turn ht m3) 0
      have hc3 : wr.cell? ⟨O, 3, none⟩ = some (.slice (some ⟨bs, 0, none⟩) l.length l.length) := Blk.cell (HW.out.2.1.turn ht (fun e => HL2.out.2.2.1 e.symm)) 3
      by_cases hlt : k < l.length
      · have hki : decide ((k : Int) < (l.length : Int)) = true := decide_eq_true (by omega)
        have hck := ha.cell (j := k) (by simp [fillL]; omega)
        have hfk := ha.free k
        have hset := ha.set k (k : Int)
        rw [fillL_set] at hset
        have HA := Lib.hid (And.intro (ht.setCell (p := ⟨bs, k, none⟩) rfl (.int .i64 (k : Int))) hset)
        clear ht ha hset
        go_wp2_with fail
        go_roundw
        case rel => exact ⟨k + 1, by omega, by go_num, HA.out⟩
        case measure => simp [intOf]; omega
      · obtain rfl : k = l.length := by omega
        rw [fillL_full] at ha
        have HA := Lib.hid (And.intro ht ha)
        have Td := HW.out.1
        have mD : D ≠ bs := Blk.ne_type ((HB.out.2.2.turn Td nD).turn ht (fun e => by
          have h5 := Blk.ne_type (HB.out.2.2.turn Td nD) HW.out.2.2.1 (by decide)
          exact h5 e)) ha (by decide)
        have m1 : x1 ≠ bs := Blk.ne_type (HB.out.1.turn Td n1) HW.out.2.2.1 (by decide)
        have HSO := Lib.hid (sort36 x1 D bt off vc bs l wr hl (Blk.cell ((HB.out.1.turn Td n1).turn ht m1) 0) (fun h0 => by
          obtain ⟨⟨c, hv⟩, -⟩ := HBT.out h0
          injection hv with e1 e2 e3
          rw [← e1]
          exact Blk.cell ((HB.out.2.2.turn Td nD).turn ht mD) 0) (fun j hj => by
          obtain ⟨-, ⟨cs, hb9⟩, hcl⟩ := HBT.out (by omega)
          have hO9 : bt ≠ O := Blk.ne_type (hb9.turn (F := fun _ => False) (Turn.refl _ _) id) HOz0.out (by decide)
          have hb9' := (hb9.turn Td hO9)
          have hs9 : bt ≠ bs := Blk.ne_type hb9' HW.out.2.2.1 (by decide)
          rw [Blk.cell (hb9'.turn ht hs9), ← Blk.cell hb9]
          exact hcl j hj) ha ⟨m1, ((HB.out.1.turn Td n1).turn ht m1).lt⟩ ⟨mD, ((HB.out.2.2.turn Td nD).turn ht mD).lt⟩ (fun h0 => by
          obtain ⟨-, ⟨cs, hb9⟩, -⟩ := HBT.out h0
          have hO9 : bt ≠ O := Blk.ne_type hb9 HOz0.out (by decide)
          have hb9' := (hb9.turn Td hO9)
          have hs9 : bt ≠ bs := Blk.ne_type hb9' HW.out.2.2.1 (by decide)
          exact ⟨hs9, (hb9'.turn ht hs9).lt⟩))
        clear ht ha mD m1
        go_wp2_with fail
        refine HSO.out.mono ?_
        rintro e w2 ⟨rfl, s, hp, hst, has, ht2⟩
        have HS2 := Lib.hid (And.intro hp (And.intro hst has))
        have hsl : s.length = l.length := by have := hp.length_eq; simpa using this
        have HT2 := Lib.hid (HA.out.1.trans ht2)
        have hx3 : w2.cell? ⟨x3, 0, none⟩ = some (.pointer (some ⟨O, 0, none⟩)) := Blk.cell ((HB.out.2.1.turn Td n3).turn HT2.out m3) 0
        have hO2 : Blk w2 O 73 (oc 0 1 (rowV bs l.length) (rowV br l.length)) := HW.out.2.1.turn HT2.out (fun e => HL2.out.2.2.1 e.symm)
        have hc3 : w2.cell? ⟨O, 3, none⟩ = some (.slice (some ⟨bs, 0, none⟩) l.length l.length) := Blk.cell hO2 3
        have HR2 := Lib.hid (And.intro hO2 (show Arr w2 br 3 (fillL l.length 0) from HW.out.2.2.2.turn HT2.out (fun e => HL2.out.2.2.2.2 e.symm)))
        have m4 : x3 ≠ br := Blk.ne_type (HB.out.2.1.turn Td n3) HW.out.2.2.2 (by decide)
        clear hp hst has ht2 HSO hO2
        go_wp2_with fail
        clear hx3 hc3
        go_loopw [50] (fun t wr => ∃ (k : Nat) (r : List Int), k ≤ l.length ∧ t = .int .i64 k ∧ Turn (fun g => g = br) w2 wr ∧ Arr wr br 3 r ∧ r.length = l.length ∧ ∀ j, j < k → r.getD (s.getD j 0) 0 = (j : Int)) (fun t _ => l.length - (intOf t).toNat)
        case atStart => exact ⟨0, _, by omega, rfl, Turn.refl _ _, HR2.out.2, by simp [fillL], fun j hj => by omega⟩
        case round =>
          obtain ⟨k, r, hk, rfl, ht, ha, hrl, hr⟩ := hrel
          by_cases hlt : k < l.length
          · have hx3 : wr.cell? ⟨x3, 0, none⟩ = some (.pointer (some ⟨O, 0, none⟩)) := Blk.cell (((HB.out.2.1.turn Td n3).turn HT2.out m3).turn ht m4) 0
            have hc4 : wr.cell? ⟨O, 4, none⟩ = some (.slice (some ⟨br, 0, none⟩) l.length l.length) := Blk.cell (HR2.out.1.turn ht (fun e => HL2.out.2.2.2.1 e.symm)) 4
            have hck : wr.cell? ⟨bs, k, none⟩ = some (.int .i64 ((s.getD k 0 : Nat) : Int)) := by
              rw [Arr.cell (HS2.out.2.2.turn ht (fun e => HL2.out.2.2.2.2 e)) (j := k) (by simp [hsl]; omega)]
              simp [List.getD_eq_getElem?_getD, show k < s.length by omega]
            have hsk : s.getD k 0 < l.length := by
              have := HS2.out.1.mem_iff (a := s.getD k 0)
              exact List.mem_range.1 (this.1 (getD_mem (by omega)))
            have hnd : s.Nodup := HS2.out.1.nodup_iff.2 List.nodup_range
            have hinj : ∀ j, j < k → s.getD j 0 ≠ s.getD k 0 := fun j hj e => by
              rw [List.getD_eq_getElem?_getD, List.getD_eq_getElem?_getD, List.getElem?_eq_getElem (by omega), List.getElem?_eq_getElem (by omega)] at e
              exact List.pairwise_iff_getElem.1 hnd j k (by omega) (by omega) hj e
            have HINJ := Lib.hid hinj
            have HRR := Lib.hid (And.intro hrl hr)
            obtain ⟨z, hz⟩ : ∃ z, z = s.getD k 0 := ⟨_, rfl⟩
            rw [← hz] at hck hsk
            have HZ := Lib.hid hz
            have hkz := ha.cell (j := z) (by omega)
            have hfz := ha.free z
            have HA2 := Lib.hid (And.intro (ht.setCell (p := ⟨br, z, none⟩) rfl (.int .i64 (k : Int))) (ha.set z (k : Int)))
            have hki : decide ((k : Int) < (l.length : Int)) = true := decide_eq_true (by omega)
            have hzi : (z : Int) < (l.length : Int) := by omega
            clear ht ha hr hinj hnd hz hrl
            go_wp2_with fail
            go_roundw
            case rel => exact ⟨k + 1, _, by omega, by go_num, HA2.out.1, HA2.out.2, by simpa using HRR.out.1, fun j hj => by
              by_cases e : j = k
              · subst e
                rw [← HZ.out, List.getD_eq_getElem?_getD, List.getElem?_set_self (by have := HRR.out.1; omega)]; rfl
              · have h6 := HINJ.out j (by omega)
                rw [← HZ.out] at h6
                rw [List.getD_eq_getElem?_getD, List.getElem?_set_ne (fun h => h6 h.symm), ← List.getD_eq_getElem?_getD]
                exact HRR.out.2 j (by omega)⟩
            case measure => simp [intOf]; omega
          · obtain rfl : k = l.length := by omega
            have HF := Lib.hid (And.intro ht (And.intro ha (And.intro hrl hr)))
            clear ht ha hrl hr
            go_wp2_with fail
            go_end0
            refine ⟨rfl, ?_, s, r, bs, br, ⟨HS2.out.1, HS2.out.2.1, ⟨by rw [HF.out.2.2.1, hsl], fun j hj => HF.out.2.2.2 j (by omega)⟩, HR2.out.1.turn HF.out.1 (fun e => HL2.out.2.2.2.1 e.symm), HS2.out.2.2.turn HF.out.1 (fun e => HL2.out.2.2.2.2 e), HF.out.2.1, HL2.out.2.2.2.2⟩, HL2.out.1, HL2.out.2.1⟩
            have hall : Turn (fun g => g = bs ∨ g = br) wd wr := (HT2.out.mono (fun k _ h => .inl h)).trans (HF.out.1.mono (fun k _ h => .inr h))
            exact HW.out.1.wide hall (fun x hx => .inr (by rcases hx with rfl | rfl; exact HL2.out.1; exact HL2.out.2.1))
end Go.Proofs.Ytiihnepfcgmghaa
