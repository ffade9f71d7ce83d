/- What is awake: the chapter's examples. -/
import Derived.Test.YtfgnmcmkjfnogaaG
import Derived.Test.YtfgnmcmkjfnogaaBase2
namespace Go.Proofs.Ytfgnmcmkjfnogaa
open Go.RowKit
set_option linter.unusedVariables false
set_option linter.unusedSimpArgs false

/-- 64 numbers out of the 258 -/
def part (l : List Int) (off : Nat) : List Int := (l.drop off).take 64
theorem part_len (l : List Int) (off : Nat) (h : off + 64 ≤ l.length) : (part l off).length = 64 := by simp [part]; omega
theorem Arr.part {w : World} {b : Nat} {T : TypeId} {l : List Int} (h : Arr w b T l) (off : Nat) (ho : off + 64 ≤ l.length) :
    ∀ j, j < (ints (part l off)).size → w.cell? ⟨b, off + j, none⟩ = (ints (part l off))[j]? := by
  intro j hj
  rw [size_ints, part_len l off ho] at hj
  rw [Arr.cell h (j := off + j) (by omega), ints_get _ _ (by rw [part_len l off ho]; exact hj)]
  simp [Go.Proofs.Ytfgnmcmkjfnogaa.part, List.getD_eq_getElem?_getD, List.getElem?_take, hj]

/-- the example's numbers with the first k costs laid -/
def costS (k : Nat) : List Int := (List.range 258).map fun i => if 192 ≤ i ∧ i < 192 + k then 100 else smallL.getD i 0
theorem costS_len (k : Nat) : (costS k).length = 258 := by simp [costS]
theorem costS_zero : costS 0 = smallL := by decide +kernel
theorem costS_step (k : Nat) (h : k < 64) : (costS k).set (192 + k) 100 = costS (k + 1) := by
  apply List.ext_getElem
  · simp [costS]
  · intro i h1 h2
    simp only [costS, List.getElem_set, List.getElem_map, List.getElem_range]
    by_cases e1 : 192 + k = i
    · subst e1; rw [if_pos rfl, if_pos (by omega)]
    · rw [if_neg e1]
      by_cases h3 : 192 ≤ i ∧ i < 192 + k
      · rw [if_pos h3, if_pos (by omega)]
      · rw [if_neg h3, if_neg (by omega)]
theorem small_choose : chooseL (part smallL 0) (part smallL 64) (part smallL 128) 100 1000 = [1, 3] := by decide +kernel
theorem small_ben1 : benTo 1 (part (costS 64) 0) (part (costS 64) 192) 5 64 = 380 := by decide +kernel
theorem small_ben3 : benTo 3 (part (costS 64) 0) (part (costS 64) 192) 20 64 = 400 := by decide +kernel
theorem small_begin : beginTo [1, 3] [3, 2, 0, 0, 0, 0, 7, 2, 0, 0, 0, 0, 2, 3, 0, 0, 0, 0] 3 [(1 : Int), 3].length = [1] := by decide +kernel
theorem small_leave : leaveTo [1, 3] [3, 2, 0, 0, 0, 0, 7, 2, 0, 0, 0, 0, 2, 3, 0, 0, 0, 0] 3 64 = [7] := by decide +kernel
theorem s256 : smallL.getD 256 0 = 100 := by decide +kernel
theorem s257 : smallL.getD 257 0 = 1000 := by decide +kernel

theorem zv24 : ∀ w, (zeroValue 24).run Try.prog w = .ok (.agg (ints (loopS 0))) w := fun _ => by kernel_rfl
theorem inf22 (l : List Int) (off : Nat) (h : off + 64 ≤ l.length) : (Try.prog.info? 22).map (·.size) = some (ints (part l off)).size := by rw [size_ints, part_len l off h]; exact Try.info22

set_option maxRecDepth 100000 in
set_option maxHeartbeats 4000000 in
theorem awake9 (w : World) : Calls Try.prog 9 #[] w fun e w' => e = .returned (.bool true) ∧ Below w.heap.size w w' := by
  have hzv := zv24
  obtain ⟨i0, hi, hz0, hz1, hz2⟩ := info_parts Try.info3
  have hI : (Try.prog.info? 24).map (·.size) = some (ints smallL).size := by rw [size_ints, smallL_len]; exact Try.info24
  have hS : (ints (loopS 0)).size = (ints smallL).size := by rw [size_ints, size_ints, smallL_len, loopS_len]
  have HI := Lib.hid hI
  have HS := Lib.hid hS
  clear hI hS
  go_enter Try.func9, Try.ntmps9
  go_wp2_with (first | (go_at_call 27; refine (small27 _).mono ?_; rintro e w1 ⟨rfl, hB1⟩) | (refine wpList_store_row rfl 24 (.tmp 1) (.tmp 6) rfl w1.heap.size (ints smallL) rfl rfl 24 (ints (loopS 0)) (Blk.newAt _ _ _ rfl) HI.out HS.out (ints_one _) ?_; have hA : Arr _ w1.heap.size 24 smallL := Blk.setRow (cs' := ints smallL) (Blk.newAt w1 24 (ints (loopS 0)) rfl); have hB2 := Below.setRow (hB1.alloc hB1.size (Obj.cells (ints (loopS 0)) 24)) hB1.size (ints smallL); generalize (w1.alloc (Obj.cells (ints (loopS 0)) 24)).setRow w1.heap.size (ints smallL) = w2 at *; have hs1 := hB1.size; clear hB1; generalize w1.heap.size = bx at *; have hbx := Blk.lt hA; have s256 := Arr.cell hA (j := 256) (by rw [smallL_len]; omega); have s257 := Arr.cell hA (j := 257) (by rw [smallL_len]; omega); rw [Go.Proofs.Ytfgnmcmkjfnogaa.s256] at s256; rw [Go.Proofs.Ytfgnmcmkjfnogaa.s257] at s257) | (refine wpList_load_at rfl 22 (.tmp 7) rfl bx 0 rfl (ints (part smallL 0)) _ (Arr.part hA 0 (by rw [smallL_len]; omega)) Try.underlying22 rfl (inf22 _ _ (by rw [smallL_len]; omega)) ?_) | (refine wpList_load_at rfl 22 (.tmp 9) rfl bx 64 rfl (ints (part smallL 64)) _ (Arr.part hA 64 (by rw [smallL_len]; omega)) Try.underlying22 rfl (inf22 _ _ (by rw [smallL_len]; omega)) ?_) | (refine wpList_load_at rfl 22 (.tmp 11) rfl bx 128 rfl (ints (part smallL 128)) _ (Arr.part hA 128 (by rw [smallL_len]; omega)) Try.underlying22 rfl (inf22 _ _ (by rw [smallL_len]; omega)) ?_) | (go_at_call 10; refine (choose10 _ _ _ _ _ _ (part_len _ _ (by rw [smallL_len]; omega)) (part_len _ _ (by rw [smallL_len]; omega)) (part_len _ _ (by rw [smallL_len]; omega)) (by omega) (by omega)).mono ?_; rw [small_choose]; rintro e w3 ⟨v1, rfl, own1, hB3⟩))
  have hA3 : Arr w3 bx 24 (costS 0) := by rw [costS_zero]; exact Blk.below hA hB3 hbx
  have hB4 : Below w.heap.size w w3 := hB2.trans (hB3.mono hB2.size)
  have hx3 : bx < w2.heap.size := hbx
  have hs23 := hB3.size
  have hs2 := hB2.size
  clear hA hB2 hB3 s256 s257 HI HS hzv
  go_loopw [3] (fun i wr => ∃ k : Nat, k ≤ 64 ∧ i = .int .i64 k ∧ Arr wr bx 24 (costS k) ∧ Below w.heap.size w wr ∧ wr.ownsRow w2.heap.size 3 1 v1 [1, 3].length (List.map (Value.int .i64) [1, 3])) (fun i _ => 64 - (intOf i).toNat)
  case atStart => exact ⟨0, by omega, rfl, hA3, hB4, own1⟩
  case round =>
    clear hA3 own1 hB4
    obtain ⟨k, hk, rfl, hA, hB, hown⟩ := hrel
    by_cases hlt : k < 64
    · have hkI : (k : Int) < 64 := by omega
      have c1 := Arr.cell hA (j := 192 + k) (by rw [costS_len]; omega)
      have f1 := Arr.free hA
      go_wp2_with fail
      have hA1 := Arr.set hA (192 + k) 100
      rw [costS_step k hlt] at hA1
      go_roundw
      case rel => exact ⟨k + 1, by omega, by go_num, hA1, hB.setCell (by exact hs1) _, ownsRow_setCell_below hown (by exact hx3) _⟩
      case measure => simp [intOf]; omega
    · obtain rfl : k = 64 := by omega
      obtain ⟨a1, cap1, hv1, hc1, hm1, hcell1⟩ := (RowI.of_owns hown).open
      subst hv1
      obtain ⟨b1, off1, rfl, hb1, hcl1⟩ := hcell1 (by decide)
      have d0 := hcl1 0 (by decide)
      have d1 := hcl1 1 (by decide)
      clear hcell1 hcl1 hc1 hm1
      go_wp2_with fail
      obtain ⟨wz, hwz⟩ : ∃ wz, wz = ((wr.alloc (Obj.cells #[Value.int IntKind.i64 1, Value.int IntKind.i64 3] 3)).alloc (Obj.cells (ints [3, 2, 0, 0, 0, 0, 7, 2, 0, 0, 0, 0, 2, 3, 0, 0, 0, 0]) 38)) := ⟨_, rfl⟩
      have r1 : RowI wz.heap.size wz (.slice (some ⟨wr.heap.size, 0, none⟩) 2 2) [1, 3] := by rw [hwz]; exact RowI.of_blk (T := 3) ((Blk.newAt _ _ _ rfl).alloc _) rfl (by decide)
      have r2 : RowV wz.heap.size wz (.slice (some ⟨wr.heap.size + 1, 0, none⟩) 3 3) 3 [3, 2, 0, 0, 0, 0, 7, 2, 0, 0, 0, 0, 2, 3, 0, 0, 0, 0] := by rw [hwz]; exact Row.of_blk (T := 38) (cs := ints [3, 2, 0, 0, 0, 0, 7, 2, 0, 0, 0, 0, 2, 3, 0, 0, 0, 0]) (Blk.newAt _ _ _ (by simp)) rfl (by decide)
      have hBz : Below wr.heap.size wr wz := by rw [hwz]; exact ((Below.refl _ _).alloc (Nat.le_refl _) _).alloc (by simp) _
      change Calls Try.prog 17 _ (((wr.alloc (Obj.cells #[Value.int IntKind.i64 1, Value.int IntKind.i64 3] 3)).alloc (Obj.cells (ints [3, 2, 0, 0, 0, 0, 7, 2, 0, 0, 0, 0, 2, 3, 0, 0, 0, 0]) 38))) _
      rw [← hwz]
      clear hwz
      refine (orders17 [1, 3] _ 3 _ _ wz r1 r2 (by decide)).mono ?_
      rw [small_begin, small_leave]
      rintro e w4 ⟨vb, vl, rfl, own2, own3, hB5⟩
      have hB6 : Below wr.heap.size wr w4 := hBz.trans (hB5.mono hBz.size)
      have hA4 : Arr w4 bx 24 (costS 64) := Blk.below hA hB6 (Blk.lt hA)
      have e0 : w4.cell? ⟨b1, off1, none⟩ = some (.int .i64 1) := (hB6.cell (by exact hb1)).trans d0
      have e1 : w4.cell? ⟨b1, off1 + 1, none⟩ = some (.int .i64 3) := (hB6.cell (by exact hb1)).trans d1
      have hB7 : Below w.heap.size w w4 := hB.trans (hB6.mono hB.size)
      obtain ⟨a2, cap2, hv2, hc2, hm2, hcell2⟩ := (RowI.of_owns own2).open
      subst hv2
      obtain ⟨b2, off2, rfl, hb2, hcl2⟩ := hcell2 (by decide)
      have f0 : w4.cell? ⟨b2, off2, none⟩ = some (.int .i64 1) := hcl2 0 (by decide)
      obtain ⟨a3, cap3, hv3, hc3, hm3, hcell3⟩ := (RowI.of_owns own3).open
      subst hv3
      obtain ⟨b3, off3, rfl, hb3, hcl3⟩ := hcell3 (by decide)
      have g0 : w4.cell? ⟨b3, off3, none⟩ = some (.int .i64 7) := hcl3 0 (by decide)
      have hb1' : b1 < w4.heap.size := Nat.lt_of_lt_of_le hb1 hB6.size
      have hs7 := hB7.size
      have hbl : bx < w4.heap.size := Blk.lt hA4
      clear hcell2 hcl2 hcell3 hcl3 own2 own3 hc2 hm2 hc3 hm3 r1 r2 hBz hB5 hB6 hA d0 d1 hb1 hown hB
      go_wp2_with (first | (refine wpList_load_at_g rfl 22 (.tmp 50) rfl bx 0 rfl (ints (part (costS 64) 0)) _ (Arr.part hA4 0 (by rw [costS_len]; omega)) Try.underlying22 rfl (inf22 _ _ (by rw [costS_len]; omega)) ?_) | (refine wpList_load_at_g rfl 22 (.tmp 52) rfl bx 192 rfl (ints (part (costS 64) 192)) _ (Arr.part hA4 192 (by rw [costS_len]; omega)) Try.underlying22 rfl (inf22 _ _ (by rw [costS_len]; omega)) ?_))
      refine (benefit13 _ _ _ _ _ (part_len (costS 64) 0 (by rw [costS_len]; omega)) (part_len (costS 64) 192 (by rw [costS_len]; omega))).mono ?_
      rw [small_ben1]
      rintro e w5 ⟨rfl, hB8⟩
      have hA5 : Arr w5 bx 24 (costS 64) := Blk.below hA4 hB8 hbl
      have f1 := (hB8.cell (by exact hb2)).trans f0
      have g1 := (hB8.cell (by exact hb3)).trans g0
      have hB9 : Below w.heap.size w w5 := hB7.trans (hB8.mono hs7)
      have hb2' : b2 < w5.heap.size := Nat.lt_of_lt_of_le hb2 hB8.size
      have hb3' : b3 < w5.heap.size := Nat.lt_of_lt_of_le hb3 hB8.size
      have hs9 := hB9.size
      have hbl5 : bx < w5.heap.size := Blk.lt hA5
      clear f0 g0 hA4 hB8 hB7
      go_wp2_with (first | (refine wpList_load_at_g rfl 22 (.tmp 58) rfl bx 0 rfl (ints (part (costS 64) 0)) _ (Arr.part hA5 0 (by rw [costS_len]; omega)) Try.underlying22 rfl (inf22 _ _ (by rw [costS_len]; omega)) ?_) | (refine wpList_load_at_g rfl 22 (.tmp 60) rfl bx 192 rfl (ints (part (costS 64) 192)) _ (Arr.part hA5 192 (by rw [costS_len]; omega)) Try.underlying22 rfl (inf22 _ _ (by rw [costS_len]; omega)) ?_))
      refine (benefit13 _ _ _ _ _ (part_len (costS 64) 0 (by rw [costS_len]; omega)) (part_len (costS 64) 192 (by rw [costS_len]; omega))).mono ?_
      rw [small_ben3]
      rintro e w6 ⟨rfl, hB8⟩
      have f2 := (hB8.cell (by exact hb2')).trans f1
      have g2 := (hB8.cell (by exact hb3')).trans g1
      have hB10 : Below w.heap.size w w6 := hB9.trans (hB8.mono hs9)
      clear f1 g1 hA5 hB8 hB9
      go_wp2_with fail
      go_ret
      exact ⟨rfl, hB10⟩
end Go.Proofs.Ytfgnmcmkjfnogaa
