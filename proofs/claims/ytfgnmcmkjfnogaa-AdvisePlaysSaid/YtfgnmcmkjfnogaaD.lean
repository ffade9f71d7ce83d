/- The program's Choose tells what is chosen. -/
import Derived.Test.YtfgnmcmkjfnogaaC
namespace Go.Proofs.Ytfgnmcmkjfnogaa
open Go.RowKit
set_option linter.unusedVariables false
set_option linter.unusedSimpArgs false

/-- the blocks of a call of Choose: weights, rows, bytes, costs -/
structure ChW (w : World) (B : Nat) (W R Y C : List Int) (wr : World) : Prop where
  aW : Arr wr B 22 W
  aR : Arr wr (B + 1) 22 R
  aY : Arr wr (B + 2) 22 Y
  aC : Arr wr (B + 3) 22 C
  below : Below B w wr
  size : B + 4 ≤ wr.heap.size
theorem ChW.mono {w : World} {B : Nat} {W R Y C : List Int} {wr wr' : World} (h : ChW w B W R Y C wr) (hb : Below (B + 4) wr wr') : ChW w B W R Y C wr' :=
  ⟨Blk.below h.aW hb (by omega), Blk.below h.aR hb (by omega), Blk.below h.aY hb (by omega), Blk.below h.aC hb (by omega), h.below.trans (hb.mono (by omega)), Nat.le_trans h.size hb.size⟩
theorem ChW.set {w : World} {B : Nat} {W R Y C : List Int} {wr : World} (h : ChW w B W R Y C wr) (j : Nat) (x : Int) : ChW w B W R Y (C.set j x) (wr.setCell ⟨B + 3, j, none⟩ (.int .i64 x)) :=
  ⟨Blk.other h.aW (by simp) _, Blk.other h.aR (by simp) _, Blk.other h.aY (by simp) _, Arr.set h.aC j x, h.below.setCell (by simp) _, by simpa [World.setCell] using h.size⟩

/-- costs, as far as they are laid -/
def fillTo (c : Int) (k : Nat) : List Int := List.replicate k c ++ List.replicate (64 - k) 0
theorem fill_set (c : Int) (k : Nat) (h : k < 64) : (fillTo c k).set k c = fillTo c (k + 1) := by
  unfold fillTo
  rw [List.set_append_right _ _ (by simp), show List.replicate (k + 1) c = List.replicate k c ++ [c] from List.replicate_succ']
  obtain ⟨m, hm⟩ : ∃ m, 64 - k = m + 1 := ⟨63 - k, by omega⟩
  have : 64 - (k + 1) = m := by omega
  rw [hm, this]
  simp [List.replicate_succ]

/-- the costs, as far as they are made anew -/
def costTo (R C : List Int) (best k : Nat) : List Int := (List.range 64).map fun n => if n < k then costOne R C best n else C.getD n 0
theorem costTo_len (R C : List Int) (best k : Nat) : (costTo R C best k).length = 64 := by simp [costTo]
theorem costTo_zero (R C : List Int) (best : Nat) (h : C.length = 64) : costTo R C best 0 = C := by
  apply List.ext_getElem
  · simp [costTo, h]
  · intro i h1 h2
    simp [costTo, List.getD_eq_getElem?_getD, h2]
theorem costTo_full (R C : List Int) (best : Nat) : costTo R C best 64 = costNext R C best := by
  unfold costTo costNext
  apply List.map_congr_left
  intro n hn
  rw [if_pos (by simpa using hn)]
theorem costTo_at (R C : List Int) (best k : Nat) (h : k < 64) : (costTo R C best k).getD k 0 = C.getD k 0 := by simp [costTo, h]
theorem costTo_set (R C : List Int) (best k : Nat) (h : k < 64) (x : Int) (hx : x = costOne R C best k) : (costTo R C best k).set k x = costTo R C best (k + 1) := by
  subst hx
  apply List.ext_getElem
  · simp [costTo]
  · intro i h1 h2
    simp only [costTo, List.getElem_set, List.getElem_map, List.getElem_range]
    by_cases e : k = i
    · subst e; simp
    · rw [if_neg e]
      by_cases hl : i < k
      · rw [if_pos hl, if_pos (by omega)]
      · rw [if_neg hl, if_neg (by omega)]
theorem costTo_skip (R C : List Int) (best k : Nat) (h : k < 64) (hc : coversB best k = false) : costTo R C best k = costTo R C best (k + 1) := by
  have e : costOne R C best k = C.getD k 0 := by simp [costOne, hc]
  rw [← costTo_set R C best k h _ rfl, e, ← costTo_at R C best k h]
  apply List.ext_getElem
  · simp
  · intro i h1 h2
    simp only [List.getElem_set]
    split
    · rename_i e; subst e; simp [List.getD_eq_getElem?_getD, h1]
    · rfl

theorem Try.info22 : (Try.prog.info? 22).map (·.size) = some 64 := by kernel_rfl

set_option maxRecDepth 100000 in
set_option maxHeartbeats 4000000 in
theorem choose10 (W R Y : List Int) (facts budget : Int) (w : World) (hW : W.length = 64) (hR : R.length = 64) (hY : Y.length = 64)
    (hb0 : -9223372036854775808 ≤ budget) (hb1 : budget ≤ 9223372036854775807) :
    Calls Try.prog 10 #[.agg (ints W), .agg (ints R), .agg (ints Y), .int .i64 facts, .int .i64 budget] w fun e w' =>
      ∃ v, e = .returned v ∧ w'.ownsRow w.heap.size 3 1 v (chooseL W R Y facts budget).length ((chooseL W R Y facts budget).map (Value.int .i64)) ∧ Below w.heap.size w w' := by
  obtain ⟨i0, hi, hz0, hz1, hz2⟩ := info_parts Try.info3
  have hmf : ∀ (fn : Fn) (first cap : Array Value) (w : World), (Instr.makeFunc fn first cap).run Try.prog w = .ok (.func fn first cap) w := fun _ _ _ _ => rfl
  go_enter Try.func10, Try.ntmps10
  go_wp2
  go_loopw [12, 20] (fun _ i wr => ∃ k : Nat, k ≤ 64 ∧ i = .int .i64 k ∧ ChW w w.heap.size W R Y (fillTo (keepZ facts 16777216) k) wr) (fun _ i _ => 64 - (intOf i).toNat)
  case atStart =>
    refine ⟨0, by omega, rfl, ⟨?_, ?_, ?_, ?_, (((((Below.refl _ _).alloc (Nat.le_refl _) _).alloc (by simp) _).alloc (by simp; omega) _).alloc (by simp; omega) _), by simp⟩⟩
    · exact (((Blk.newAt _ _ _ rfl).alloc _).alloc _).alloc _
    · exact ((Blk.newAt _ _ _ (by simp)).alloc _).alloc _
    · exact (Blk.newAt _ _ _ (by simp)).alloc _
    · exact Blk.newAt _ _ _ (by simp)
  case round =>
    obtain ⟨k, hk, rfl, hw⟩ := hrel
    by_cases hlt : k < 64
    · have hlen : (fillTo (keepZ facts 16777216) k).length = 64 := by simp [fillTo]; omega
      have c3 := Arr.cell hw.aC (j := k) (by omega)
      have f3 := Arr.free hw.aC k
      go_wp2_with (go_at_call 28; refine (keep28 _ _ _ (by omega)).mono ?_; rintro e w' ⟨rfl, rfl⟩)
      go_roundw
      case rel => exact ⟨k + 1, by omega, by go_num, by have := hw.set k (keepZ facts 16777216); rw [fill_set _ _ hlt] at this; exact this⟩
      case measure => simp [intOf]; omega
    · have hk' : k = 64 := by omega
      have hcost : fillTo (keepZ facts 16777216) k = cost0 facts := by subst hk'; simp [fillTo, cost0]
      rw [hcost] at hw
      have hk2 : 64 ≤ k := by omega
      have hk2b : decide ((k : Int) < 64) = false := by simp; omega
      clear hk' hcost
      go_wp2
      go_loopg [4, 14] 16 (fun n b v wr => ∃ (out : List Int) (bud : Int) (C : List Int), out.length + n = 16 ∧ b = .int .i64 bud ∧ -9223372036854775808 ≤ bud ∧ bud ≤ 9223372036854775807 ∧
        wr.ownsRow (w.heap.size + 4) 3 1 v out.length (out.map (Value.int .i64)) ∧ C.length = 64 ∧ ChW w w.heap.size W R Y C wr ∧ Hid (chooseGo W R Y n out bud C = chooseL W R Y facts budget))
      case atStart => exact ⟨[], budget, cost0 facts, rfl, rfl, hb0, hb1, World.ownsRow_nil _ _ _ _, by simp [cost0], hw, rfl⟩
      case round =>
        obtain ⟨out, bud, C, hn, rfl, hd0, hd1, hown, hC, hw, hgo⟩ := hrel
        have hsz := hw.size
        cases gk with
        | zero =>
          have hl16 : ¬ out.length < 16 := by omega
          obtain ⟨a, cap, rfl, hcap, hmax, hc⟩ := (RowI.of_owns hown).open
          go_wp2
          go_ret
          exact ⟨_, rfl, by rw [← hgo.out]; exact owns_base hown (by omega), hw.below⟩
        | succ n =>
          have hl16 : out.length < 16 := by omega
          have hl16b : decide ((out.length : Int) < 16) = true := by simp; omega
          have hrow := RowI.of_owns hown
          obtain ⟨v, rfl⟩ : ∃ x, x = u14 := ⟨_, rfl⟩
          have hv := hrow.open
          obtain ⟨a, cap, rfl, hcap, hmax, hc⟩ := hv
          clear hc
          obtain ⟨wo, rfl⟩ : ∃ wo : World, wo = wr := ⟨_, rfl⟩
          go_wp2
          go_loopw [15, 16, 32] (fun b m i wr => ∃ (k : Nat) (best most : Int), k ≤ 64 ∧ i = .int .i64 k ∧ b = .int .i64 best ∧ m = .int .i64 most ∧ Hid (pickTo W R Y C out bud k = (best, most)) ∧ ChW w w.heap.size W R Y C wr ∧ Below wo.heap.size wo wr) (fun _ _ i _ => 64 - (intOf i).toNat)
          case atStart => exact ⟨0, -1, 0, by omega, rfl, rfl, rfl, rfl, hw, Below.refl _ _⟩
          case round =>
            obtain ⟨k, best, most, hk, rfl, rfl, rfl, hpick, hw, hB⟩ := hrel
            have hok := pick_ok W R Y C out bud k
            rw [hpick.out] at hok
            obtain ⟨p1, p2, p3, p4, p5, p6, p7, p8, p9⟩ := hok
            dsimp only at p1 p2 p3 p4 p5 p6 p7 p8 p9
            have P5 := Lib.hid p5; have P6 := Lib.hid p6; have P7 := Lib.hid p7; have P8 := Lib.hid p8; have P9 := Lib.hid p9
            clear p5 p6 p7 p8 p9
            by_cases hlt : k < 64
            · have hrow' := RowI.mono hrow hB (Nat.le_refl _)
              have cY := Arr.cell hw.aY (j := k) (by omega)
              obtain ⟨r, hr, cR⟩ : ∃ r, Hid (R.getD k 0 = r) ∧ wr.cell? ⟨w.heap.size + 1, k, none⟩ = some (.int .i64 r) := ⟨_, rfl, Arr.cell hw.aR (j := k) (by omega)⟩
              have sp := spaceZ_bd Y k
              cases ht : hasZ out k
              · by_cases hd : bud < spaceZ Y k
                · have hskip : pickTo W R Y C out bud (k + 1) = (best, most) := by simp [pickTo, pickOne, hpick.out, skipB, hd]
                  have HS := Lib.hid hskip; clear hskip
                  have HT := Lib.hid ht; clear ht
                  go_wp2_with (first | (go_at_call 30; refine (contains30 _ _ _ _ _ hrow').mono ?_; rw [HT.out]; rintro e w' ⟨rfl, rfl⟩) | (go_at_call 29; refine (space29 Y k _ _ hlt cY).mono ?_; rintro e w' ⟨rfl, rfl⟩))
                  go_roundw
                  case rel => exact ⟨k + 1, best, most, by omega, by go_num, rfl, rfl, HS.out, hw, hB⟩
                  case measure => simp [intOf]; omega
                · have HT := Lib.hid ht; clear ht
                  go_wp2_with (first | (go_at_call 30; refine (contains30 _ _ _ _ _ hrow').mono ?_; rw [HT.out]; rintro e w' ⟨rfl, rfl⟩) | (go_at_call 29; refine (space29 Y k _ _ hlt cY).mono ?_; rintro e w' ⟨rfl, rfl⟩))
                  refine wp_region_still_tail 6 (by kernel_rfl) (by kernel_rfl) ?_
                  simp only [List.take_succ_cons, List.take_zero, List.drop_succ_cons, List.drop_zero]
                  still_step
                  refine wpStill_load_at rfl 22 _ rfl _ _ rfl (ints W) _ (fun j _ => by rw [Nat.zero_add]; exact Blk.cell (Blk.drew hw.aW) j) Try.underlying22 rfl (by rw [size_ints, hW]; exact Try.info22) ?_
                  refine wpStill_load_at rfl 22 _ rfl _ _ rfl (ints C) _ (fun j _ => by rw [Nat.zero_add]; exact Blk.cell (Blk.drew hw.aC) j) Try.underlying22 rfl (by rw [size_ints, hC]; exact Try.info22) ?_
                  repeat still_step
                  refine wpStill_nil ?_
                  change wpList _ _ _ _ _ wr.drew
                  have hrow2 := RowI.mono hrow' (Below.drew (Below.refl _ wr)) (Nat.le_refl _)
                  have hw2 : ChW w w.heap.size W R Y C wr.drew := hw.mono (Below.drew (Below.refl _ _))
                  have hB2 : Below wo.heap.size wo wr.drew := hB.drew
                  have hsz2 : wo.heap.size ≤ wr.drew.heap.size := hB2.size
                  clear hrow' hw hB cY cR
                  generalize wr.drew = w2 at *
                  go_wp2_with fail
                  refine (benefit13 _ _ _ _ _ hW hC).mono ?_
                  rintro e w3 ⟨rfl, hB3⟩
                  have hrow3 := RowI.mono hrow2 (hB3.mono hsz2) (Nat.le_refl _)
                  have hw3 : ChW w w.heap.size W R Y C w3 := hw2.mono (hB3.mono hw2.size)
                  have hB4 : Below wo.heap.size wo w3 := hB2.trans (hB3.mono hsz2)
                  have cY3 : ∀ j, j < 64 → w3.cell? ⟨w.heap.size + 2, j, none⟩ = some (.int .i64 (Y.getD j 0)) := fun j hj => Arr.cell hw3.aY (by omega)
                  have CY3 := Lib.hid cY3
                  have bb := benTo_bd k W C r 64
                  have hpk : pickTo W R Y C out bud (k + 1) = if decide (0 < benTo k W C r 64) && betterB Y best most k (benTo k W C r 64) then ((k : Int), benTo k W C r 64) else (best, most) := by
                    simp only [pickTo, pickOne, hpick.out, skipB, HT.out, hr.out]
                    rw [if_neg (by simp; omega)]
                  have HPK := Lib.hid hpk
                  clear hrow2 hw2 hB2 hB3 cY3 hpk hsz2
                  generalize benTo k W C r 64 = b at *
                  by_cases hb : 0 < b
                  · have hbb : decide (0 < b) = true := by simpa using hb
                    by_cases hl : best < 0
                    · have hlb : decide (best < 0) = true := by simpa using hl
                      go_wp2_with fail
                      go_roundw
                      case rel => exact ⟨k + 1, k, b, by omega, by go_num, rfl, rfl, by rw [HPK.out, if_pos (by simp [hb, betterB, hl])]; rfl, hw3, hB4⟩
                      case measure => simp [intOf]; omega
                    · have hlb : decide (best < 0) = false := by simpa using hl
                      obtain ⟨q, rfl⟩ := Int.eq_ofNat_of_zero_le (show 0 ≤ best by omega)
                      have hq : q < 64 := by omega
                      have sq := spaceZ_bd Y q
                      have m1 : b * (spaceZ Y q + 1) ≤ 68719476736 * 67108865 := Int.mul_le_mul (by omega) (by omega) (by omega) (by omega)
                      have m2 : most * (spaceZ Y k + 1) ≤ 68719476736 * 67108865 := Int.mul_le_mul (by omega) (by omega) (by omega) (by omega)
                      have m3 : 0 ≤ b * (spaceZ Y q + 1) := Int.mul_nonneg (by omega) (by omega)
                      have m4 : 0 ≤ most * (spaceZ Y k + 1) := Int.mul_nonneg (by omega) (by omega)
                      by_cases hm : most * (spaceZ Y k + 1) < b * (spaceZ Y q + 1)
                      · have hmb : decide (most * (spaceZ Y k + 1) < b * (spaceZ Y q + 1)) = true := by simpa using hm
                        go_wp2_with fail
                        refine (space29 Y q _ _ hq (CY3.out q hq)).mono ?_
                        rintro e w4 ⟨rfl, rfl⟩
                        go_wp2_with fail
                        refine (space29 Y k _ _ hlt (CY3.out k hlt)).mono ?_
                        rintro e w4 ⟨rfl, rfl⟩
                        go_wp2_with fail
                        go_roundw
                        case rel => exact ⟨k + 1, k, b, by omega, by go_num, rfl, rfl, by rw [HPK.out, if_pos (by simp [hb, betterB, hm])]; rfl, hw3, hB4⟩
                        case measure => simp [intOf]; omega
                      · have hmb : decide (most * (spaceZ Y k + 1) < b * (spaceZ Y q + 1)) = false := by simpa using hm
                        go_wp2_with fail
                        refine (space29 Y q _ _ hq (CY3.out q hq)).mono ?_
                        rintro e w4 ⟨rfl, rfl⟩
                        go_wp2_with fail
                        refine (space29 Y k _ _ hlt (CY3.out k hlt)).mono ?_
                        rintro e w4 ⟨rfl, rfl⟩
                        go_wp2_with fail
                        go_roundw
                        case rel => exact ⟨k + 1, q, most, by omega, by go_num, rfl, rfl, by rw [HPK.out, if_neg (by simp [betterB, hm])]; rfl, hw3, hB4⟩
                        case measure => simp [intOf]; omega
                  · have hbb : decide (0 < b) = false := by simpa using hb
                    go_wp2_with fail
                    go_roundw
                    case rel => exact ⟨k + 1, best, most, by omega, by go_num, rfl, rfl, by rw [HPK.out, if_neg (by simp [hbb])]; rfl, hw3, hB4⟩
                    case measure => simp [intOf]; omega
              · have hskip : pickTo W R Y C out bud (k + 1) = (best, most) := by simp [pickTo, pickOne, hpick.out, skipB, ht]
                have HS := Lib.hid hskip; clear hskip
                have HT := Lib.hid ht; clear ht
                go_wp2_with (go_at_call 30; refine (contains30 _ _ _ _ _ hrow').mono ?_; rw [HT.out]; rintro e w' ⟨rfl, rfl⟩)
                go_roundw
                case rel => exact ⟨k + 1, best, most, by omega, by go_num, rfl, rfl, HS.out, hw, hB⟩
                case measure => simp [intOf]; omega
            · have hk64 : k = 64 := by omega
              rw [hk64] at hpick
              have hk2 : 64 ≤ k := by omega
              have hown' := owns_below hown hB (Nat.le_refl _)
              have hkb : decide ((k : Int) < 64) = false := by simp; omega
              clear hk64
              by_cases hl : best < 0
              · have hlb : decide (best < 0) = true := by simpa using hl
                have hend : chooseGo W R Y (n + 1) out bud C = out := by simp only [chooseGo]; rw [if_pos (by rw [hpick.out]; exact hl)]
                have hres : chooseL W R Y facts budget = out := hgo.out.symm.trans hend
                have HR := Lib.hid hres
                clear hend hres hgo
                go_wp2
                go_ret
                exact ⟨_, rfl, by rw [HR.out]; exact owns_base hown' (by omega), hw.below⟩
              · have hlb : decide (best < 0) = false := by simpa using hl
                obtain ⟨q, rfl⟩ := Int.eq_ofNat_of_zero_le (show 0 ≤ best by omega)
                have hq : q < 64 := by omega
                have sq := spaceZ_bd Y q
                have hfit := P6.out (by omega)
                simp only [Int.toNat_natCast] at hfit
                have hgo' : chooseGo W R Y n (out ++ [(q : Int)]) (bud - spaceZ Y q) (costNext R C q) = chooseL W R Y facts budget := by
                  rw [← hgo.out]
                  simp only [chooseGo]
                  rw [hpick.out, if_neg (by simp)]
                  simp
                have HG := Lib.hid hgo'
                clear hgo hgo'
                have cY3 : ∀ j, j < 64 → wr.cell? ⟨w.heap.size + 2, j, none⟩ = some (.int .i64 (Y.getD j 0)) := fun j hj => Arr.cell hw.aY (by omega)
                have CY3 := Lib.hid cY3
                clear cY3
                have hws := hw.size
                go_wp2_with (at_builtin; refine wpList_append_own _ rfl _ _ 26 rfl (w.heap.size + 4) 3 i0 (.int .i64 0) 1 8 Try.underlying26 hi hz0 hz1 hz2 rfl (by decide) _ _ _ rfl (hown'.alloc _) ⟨wr.heap.size, 0, none⟩ 1 1 [.int .i64 q] rfl rfl (cell_one_new' _ _ _) (by intro u hu; simp at hu; subst hu; rfl) (by unfold maxLen; omega) (by omega) (by simp; omega) ?_; intro v' w1 hown1 hgrow _)
                have hbw : Below (w.heap.size + 4) wr w1 := Below.appended (Below.refl _ _) hws hown' _ hgrow
                have hw1 := hw.mono hbw
                have hs1 := hw1.size
                have own1 : w1.ownsRow (w.heap.size + 4) 3 1 v' (out ++ [(q : Int)]).length ((out ++ [(q : Int)]).map (Value.int .i64)) := by simpa using hown1
                have cY1 : ∀ j, j < 64 → w1.cell? ⟨w.heap.size + 2, j, none⟩ = some (.int .i64 (Y.getD j 0)) := fun j hj => Arr.cell hw1.aY (by omega)
                have CY1 := Lib.hid cY1
                have hn1 : (out ++ [(q : Int)]).length + n = 16 := by simp; omega
                clear cY1 hown1 hgrow hbw hown' hown hrow hw hws
                refine (space29 Y q _ _ hq (CY1.out q hq)).mono ?_
                rintro e w4 ⟨rfl, rfl⟩
                go_wp2_with fail
                generalize out ++ [(q : Int)] = out1 at *
                go_loopw [19, 87] (fun _ i wr => ∃ j : Nat, j ≤ 64 ∧ i = .int .i64 j ∧ ChW w w.heap.size W R Y (costTo R C q j) wr ∧ wr.ownsRow (w.heap.size + 4) 3 1 v' out1.length (out1.map (Value.int .i64))) (fun _ i _ => 64 - (intOf i).toNat)
                case atStart => exact ⟨0, by omega, rfl, by rw [costTo_zero R C q hC]; exact hw1, own1⟩
                case round =>
                  obtain ⟨j, hj, rfl, hw, hown⟩ := hrel
                  by_cases hjt : j < 64
                  · cases hcov : coversB q j
                    · have hsk := costTo_skip R C q j hjt hcov
                      have HSK := Lib.hid hsk
                      have HCV := Lib.hid hcov
                      clear hsk hcov
                      go_wp2_with (go_at_call 16; refine (covers16 _ _ _).mono ?_; rw [HCV.out]; rintro e w' ⟨rfl, rfl⟩)
                      go_roundw
                      case rel => exact ⟨j + 1, by omega, by go_num, by rw [← HSK.out]; exact hw, hown⟩
                      case measure => simp [intOf]; omega
                    · have HCV := Lib.hid hcov
                      clear hcov
                      obtain ⟨r, hr, cR⟩ : ∃ r, Hid (R.getD q 0 = r) ∧ wr.cell? ⟨w.heap.size + 1, q, none⟩ = some (.int .i64 r) := ⟨_, rfl, Arr.cell hw.aR (by omega)⟩
                      obtain ⟨c, hc, cC⟩ : ∃ c, Hid (C.getD j 0 = c) ∧ wr.cell? ⟨w.heap.size + 3, j, none⟩ = some (.int .i64 c) := ⟨_, rfl, by rw [← costTo_at R C q j hjt]; exact Arr.cell hw.aC (by rw [costTo_len]; omega)⟩
                      have fC := Arr.free hw.aC j
                      have hqI : (q : Int) < 64 := by omega
                      have hjI : (j : Int) < 64 := by omega
                      go_wp2_with (go_at_call 16; refine (covers16 _ _ _).mono ?_; rw [HCV.out]; rintro e w' ⟨rfl, rfl⟩)
                      refine wp_region_still_tail 10 (by kernel_rfl) (by kernel_rfl) ?_
                      simp only [List.take_succ_cons, List.take_zero, List.drop_succ_cons, List.drop_zero]
                      repeat still_step
                      still_call (stillL (keep28 _ _ _ (by omega)))
                      repeat still_step
                      refine wpStill_nil ?_
                      change wpList _ _ _ _ _ wr.drew
                      go_wp2_with fail
                      have hx : (if keepZ r 16777216 < c then keepZ r 16777216 else c) = costOne R C q j := by
                        unfold costOne; rw [if_pos HCV.out, hr.out, hc.out]
                      have hws := hw.set j (if keepZ r 16777216 < c then keepZ r 16777216 else c)
                      rw [costTo_set R C q j hjt _ hx] at hws
                      have hws2 := hws.mono (Below.drew (Below.refl _ _))
                      have hos := ownsRow_setCell_below hown (a := ⟨w.heap.size + 3, j, none⟩) (by show w.heap.size + 3 < w.heap.size + 4; omega) (.int .i64 (if keepZ r 16777216 < c then keepZ r 16777216 else c))
                      go_roundw
                      case rel => exact ⟨j + 1, by omega, by go_num, hws2, hos⟩
                      case measure => simp [intOf]; omega
                  · have hj64 : j = 64 := by omega
                    subst hj64
                    rw [costTo_full] at hw
                    go_wp2_with fail
                    go_roundg n
                    case measure => omega
                    case rel => exact ⟨out1, bud - spaceZ Y q, costNext R C q, hn1, rfl, by omega, by omega, hown, costNext_len _ _ _, hw, HG.out⟩
end Go.Proofs.Ytfgnmcmkjfnogaa
