/- The reference's Choose tells what is chosen. -/
import Derived.Test.YtfgnmcmkjfnogaaD
namespace Go.Proofs.Ytfgnmcmkjfnogaa
open Go.RowKit
set_option linter.unusedVariables false
set_option linter.unusedSimpArgs false

set_option maxRecDepth 100000 in
set_option maxHeartbeats 4000000 in
theorem choose12 (W R Y : List Int) (facts budget : Int) (w : World) (hW : W.length = 64) (hR : R.length = 64) (hY : Y.length = 64)
    (hb0 : -9223372036854775808 ≤ budget) (hb1 : budget ≤ 9223372036854775807) :
    Calls Try.prog 12 #[.agg (ints W), .agg (ints R), .agg (ints Y), .int .i64 facts, .int .i64 budget] w fun e w' =>
      ∃ v, e = .returned v ∧ w'.ownsRow w.heap.size 3 1 v (chooseL W R Y facts budget).length ((chooseL W R Y facts budget).map (Value.int .i64)) ∧ Below w.heap.size w w' := by
  obtain ⟨i0, hi, hz0, hz1, hz2⟩ := info_parts Try.info3
  go_enter Try.func12, Try.ntmps12
  go_wp2
  go_loopw [12] (fun i wr => ∃ k : Nat, k ≤ 64 ∧ i = .int .i64 k ∧ ChW w w.heap.size W R Y (fillTo (keepZ facts 16777216) k) wr) (fun i _ => 64 - (intOf i).toNat)
  case atStart =>
    refine ⟨0, by omega, rfl, ⟨?_, ?_, ?_, ?_, (((((Below.refl _ _).alloc (Nat.le_refl _) _).alloc (by simp) _).alloc (by simp; omega) _).alloc (by simp; omega) _), by simp⟩⟩
    · exact (((Blk.newAt _ _ _ rfl).alloc _).alloc _).alloc _
    · exact ((Blk.newAt _ _ _ (by simp)).alloc _).alloc _
    · exact (Blk.newAt _ _ _ (by simp)).alloc _
    · exact Blk.newAt _ _ _ (by simp)
  case round =>
    obtain ⟨k, hk, rfl, hw⟩ := hrel
    by_cases hlt : k < 64
    · have hlen : (fillTo (keepZ facts 16777216) k).length = 64 := by simp [fillTo]; omega
      have c3 := Arr.cell hw.aC (j := k) (by omega)
      have f3 := Arr.free hw.aC k
      go_wp2_with (go_at_call 31; refine (keep31 _ _ _).mono ?_; rintro e w' ⟨rfl, rfl⟩)
      go_roundw
      case rel => exact ⟨k + 1, by omega, by go_num, by have := hw.set k (keepZ facts 16777216); rw [fill_set _ _ hlt] at this; exact this⟩
      case measure => simp [intOf]; omega
    · have hk' : k = 64 := by omega
      have hcost : fillTo (keepZ facts 16777216) k = cost0 facts := by subst hk'; simp [fillTo, cost0]
      rw [hcost] at hw
      have hk2 : 64 ≤ k := by omega
      have hk2b : decide ((k : Int) < 64) = false := by simp; omega
      clear hk' hcost
      go_wp2
      go_loopg [4, 13] 16 (fun n b v wr => ∃ (out : List Int) (bud : Int) (C : List Int), out.length + n = 16 ∧ b = .int .i64 bud ∧ -9223372036854775808 ≤ bud ∧ bud ≤ 9223372036854775807 ∧
        wr.ownsRow (w.heap.size + 4) 3 1 v out.length (out.map (Value.int .i64)) ∧ C.length = 64 ∧ ChW w w.heap.size W R Y C wr ∧ Hid (chooseGo W R Y n out bud C = chooseL W R Y facts budget))
      case atStart => exact ⟨[], budget, cost0 facts, rfl, rfl, hb0, hb1, World.ownsRow_nil _ _ _ _, by simp [cost0], hw, rfl⟩
      case round =>
        obtain ⟨out, bud, C, hn, rfl, hd0, hd1, hown, hC, hw, hgo⟩ := hrel
        have hsz := hw.size
        cases gk with
        | zero =>
          have hl16 : ¬ out.length < 16 := by omega
          obtain ⟨a, cap, rfl, hcap, hmax, hc⟩ := (RowI.of_owns hown).open
          go_wp2
          go_ret
          exact ⟨_, rfl, by rw [← hgo.out]; exact owns_base hown (by omega), hw.below⟩
        | succ n =>
          have hl16 : out.length < 16 := by omega
          have hl16b : decide ((out.length : Int) < 16) = true := by simp; omega
          have hrow := RowI.of_owns hown
          obtain ⟨v, rfl⟩ : ∃ x, x = u13 := ⟨_, rfl⟩
          have hv := hrow.open
          obtain ⟨a, cap, rfl, hcap, hmax, hc⟩ := hv
          clear hc
          obtain ⟨wo, rfl⟩ : ∃ wo : World, wo = wr := ⟨_, rfl⟩
          go_wp2
          go_loopw [14, 15, 16] (fun b m i wr => ∃ (k : Nat) (best most : Int), k ≤ 64 ∧ i = .int .i64 k ∧ b = .int .i64 best ∧ m = .int .i64 most ∧ Hid (pickTo W R Y C out bud k = (best, most)) ∧ ChW w w.heap.size W R Y C wr ∧ Below wo.heap.size wo wr) (fun _ _ i _ => 64 - (intOf i).toNat)
          case atStart => exact ⟨0, -1, 0, by omega, rfl, rfl, rfl, rfl, hw, Below.refl _ _⟩
          case round =>
            obtain ⟨k, best, most, hk, rfl, rfl, rfl, hpick, hw, hB⟩ := hrel
            have hok := pick_ok W R Y C out bud k
            rw [hpick.out] at hok
            obtain ⟨p1, p2, p3, p4, p5, p6, p7, p8, p9⟩ := hok
            dsimp only at p1 p2 p3 p4 p5 p6 p7 p8 p9
            have P5 := Lib.hid p5; have P6 := Lib.hid p6; have P7 := Lib.hid p7; have P8 := Lib.hid p8; have P9 := Lib.hid p9
            clear p5 p6 p7 p8 p9
            by_cases hlt : k < 64
            · have hrow' := RowI.mono hrow hB (Nat.le_refl _)
              obtain ⟨y, hy, cY⟩ : ∃ y, Hid (Y.getD k 0 = y) ∧ wr.cell? ⟨w.heap.size + 2, k, none⟩ = some (.int .i64 y) := ⟨_, rfl, Arr.cell hw.aY (j := k) (by omega)⟩
              obtain ⟨r, hr, cR⟩ : ∃ r, Hid (R.getD k 0 = r) ∧ wr.cell? ⟨w.heap.size + 1, k, none⟩ = some (.int .i64 r) := ⟨_, rfl, Arr.cell hw.aR (j := k) (by omega)⟩
              have sp := spaceZ_bd Y k
              have esp : spaceZ Y k = keepZ y 67108864 := by rw [spaceZ, hy.out]
              rw [esp] at sp
              have ESP := Lib.hid esp; clear esp
              have hkI : (k : Int) < 64 := by omega
              cases ht : hasZ out k
              · by_cases hd : bud < keepZ y 67108864
                · have hskip : pickTo W R Y C out bud (k + 1) = (best, most) := by simp [pickTo, pickOne, hpick.out, skipB, ESP.out, hd]
                  have HS := Lib.hid hskip; clear hskip
                  have HT := Lib.hid ht; clear ht
                  go_wp2_with (first | (go_at_call 32; refine (in32 _ _ _ _ _ hrow').mono ?_; rw [HT.out]; rintro e w' ⟨rfl, rfl⟩) | (go_at_call 31; refine (keep31 _ _ _).mono ?_; rintro e w' ⟨rfl, rfl⟩))
                  go_roundw
                  case rel => exact ⟨k + 1, best, most, by omega, by go_num, rfl, rfl, HS.out, hw, hB⟩
                  case measure => simp [intOf]; omega
                · have HT := Lib.hid ht; clear ht
                  go_wp2_with (first | (go_at_call 32; refine (in32 _ _ _ _ _ hrow').mono ?_; rw [HT.out]; rintro e w' ⟨rfl, rfl⟩) | (go_at_call 31; refine (keep31 _ _ _).mono ?_; rintro e w' ⟨rfl, rfl⟩))
                  refine wp_region_still_tail 6 (by kernel_rfl) (by kernel_rfl) ?_
                  simp only [List.take_succ_cons, List.take_zero, List.drop_succ_cons, List.drop_zero]
                  still_step
                  refine wpStill_load_at rfl 22 _ rfl _ _ rfl (ints W) _ (fun j _ => by rw [Nat.zero_add]; exact Blk.cell (Blk.drew hw.aW) j) Try.underlying22 rfl (by rw [size_ints, hW]; exact Try.info22) ?_
                  refine wpStill_load_at rfl 22 _ rfl _ _ rfl (ints C) _ (fun j _ => by rw [Nat.zero_add]; exact Blk.cell (Blk.drew hw.aC) j) Try.underlying22 rfl (by rw [size_ints, hC]; exact Try.info22) ?_
                  repeat still_step
                  refine wpStill_nil ?_
                  change wpList _ _ _ _ _ wr.drew
                  have hrow2 := RowI.mono hrow' (Below.drew (Below.refl _ wr)) (Nat.le_refl _)
                  have hw2 : ChW w w.heap.size W R Y C wr.drew := hw.mono (Below.drew (Below.refl _ _))
                  have hB2 : Below wo.heap.size wo wr.drew := hB.drew
                  have hsz2 : wo.heap.size ≤ wr.drew.heap.size := hB2.size
                  clear hrow' hw hB cY cR
                  generalize wr.drew = w2 at *
                  go_wp2_with fail
                  refine (benefit14 _ _ _ _ _ hW hC).mono ?_
                  rintro e w3 ⟨rfl, hB3⟩
                  have hw3 : ChW w w.heap.size W R Y C w3 := hw2.mono (hB3.mono hw2.size)
                  have hB4 : Below wo.heap.size wo w3 := hB2.trans (hB3.mono hsz2)
                  have cYk : w3.cell? ⟨w.heap.size + 2, k, none⟩ = some (.int .i64 y) := by rw [← hy.out]; exact Arr.cell hw3.aY (by omega)
                  have bb := benTo_bd k W C r 64
                  have hpk : pickTo W R Y C out bud (k + 1) = if decide (0 < benTo k W C r 64) && betterB Y best most k (benTo k W C r 64) then ((k : Int), benTo k W C r 64) else (best, most) := by
                    simp only [pickTo, pickOne, hpick.out, skipB, HT.out, hr.out, ESP.out]
                    rw [if_neg (by simp; omega)]
                  have HPK := Lib.hid hpk
                  clear hrow2 hw2 hB2 hB3 hpk hsz2
                  generalize benTo k W C r 64 = b at *
                  by_cases hb : 0 < b
                  · have hbb : decide (0 < b) = true := by simpa using hb
                    by_cases hl : best < 0
                    · have hlb : decide (best < 0) = true := by simpa using hl
                      go_wp2_with fail
                      go_quiet (fail)
                      go_wp2_with fail
                      go_roundw
                      case rel => exact ⟨k + 1, k, b, by omega, by go_num, rfl, rfl, by rw [HPK.out, if_pos (by simp [hb, betterB, hl])]; rfl, hw3.mono (Below.drewN (Below.refl _ _) _), Below.drewN hB4 _⟩
                      case measure => simp [intOf]; omega
                    · have hlb : decide (best < 0) = false := by simpa using hl
                      obtain ⟨q, rfl⟩ := Int.eq_ofNat_of_zero_le (show 0 ≤ best by omega)
                      have hq : q < 64 := by omega
                      have hqI : (q : Int) < 64 := by omega
                      obtain ⟨z, hz, cYq⟩ : ∃ y, Hid (Y.getD q 0 = y) ∧ w3.cell? ⟨w.heap.size + 2, q, none⟩ = some (.int .i64 y) := ⟨_, rfl, Arr.cell hw3.aY (by omega)⟩
                      have sq := spaceZ_bd Y q
                      have esq : spaceZ Y q = keepZ z 67108864 := by rw [spaceZ, hz.out]
                      rw [esq] at sq
                      have ESQ := Lib.hid esq; clear esq
                      have m1 : b * (keepZ z 67108864 + 1) ≤ 68719476736 * 67108865 := Int.mul_le_mul (by omega) (by omega) (by omega) (by omega)
                      have m2 : most * (keepZ y 67108864 + 1) ≤ 68719476736 * 67108865 := Int.mul_le_mul (by omega) (by omega) (by omega) (by omega)
                      have m3 : 0 ≤ b * (keepZ z 67108864 + 1) := Int.mul_nonneg (by omega) (by omega)
                      have m4 : 0 ≤ most * (keepZ y 67108864 + 1) := Int.mul_nonneg (by omega) (by omega)
                      by_cases hm : most * (keepZ y 67108864 + 1) < b * (keepZ z 67108864 + 1)
                      · have hmb : decide (most * (keepZ y 67108864 + 1) < b * (keepZ z 67108864 + 1)) = true := by simpa using hm
                        go_wp2_with fail
                        go_quiet ((go_at_call 31; exact quietL (keep31 _ _ _)))
                        go_wp2_with fail
                        go_roundw
                        case rel => exact ⟨k + 1, k, b, by omega, by go_num, rfl, rfl, by rw [HPK.out, if_pos (by simp [hb, betterB, ESP.out, ESQ.out, hm])]; rfl, hw3.mono (Below.drewN (Below.refl _ _) _), Below.drewN hB4 _⟩
                        case measure => simp [intOf]; omega
                      · have hmb : decide (most * (keepZ y 67108864 + 1) < b * (keepZ z 67108864 + 1)) = false := by simpa using hm
                        go_wp2_with fail
                        go_quiet ((go_at_call 31; exact quietL (keep31 _ _ _)))
                        go_wp2_with fail
                        go_roundw
                        case rel => exact ⟨k + 1, q, most, by omega, by go_num, rfl, rfl, by rw [HPK.out, if_neg (by simp [betterB, ESP.out, ESQ.out, hm])]; rfl, hw3.mono (Below.drewN (Below.refl _ _) _), Below.drewN hB4 _⟩
                        case measure => simp [intOf]; omega
                  · have hbb : decide (0 < b) = false := by simpa using hb
                    go_wp2_with fail
                    go_quiet (fail)
                    go_wp2_with fail
                    go_roundw
                    case rel => exact ⟨k + 1, best, most, by omega, by go_num, rfl, rfl, by rw [HPK.out, if_neg (by simp [hbb])]; rfl, hw3.mono (Below.drewN (Below.refl _ _) _), Below.drewN hB4 _⟩
                    case measure => simp [intOf]; omega
              · have hskip : pickTo W R Y C out bud (k + 1) = (best, most) := by simp [pickTo, pickOne, hpick.out, skipB, ht]
                have HS := Lib.hid hskip; clear hskip
                have HT := Lib.hid ht; clear ht
                go_wp2_with (go_at_call 32; refine (in32 _ _ _ _ _ hrow').mono ?_; rw [HT.out]; rintro e w' ⟨rfl, rfl⟩)
                go_roundw
                case rel => exact ⟨k + 1, best, most, by omega, by go_num, rfl, rfl, HS.out, hw, hB⟩
                case measure => simp [intOf]; omega
            · have hk64 : k = 64 := by omega
              rw [hk64] at hpick
              have hk2 : 64 ≤ k := by omega
              have hown' := owns_below hown hB (Nat.le_refl _)
              have hkb : decide ((k : Int) < 64) = false := by simp; omega
              clear hk64
              by_cases hl : best < 0
              · have hlb : decide (best < 0) = true := by simpa using hl
                have hend : chooseGo W R Y (n + 1) out bud C = out := by simp only [chooseGo]; rw [if_pos (by rw [hpick.out]; exact hl)]
                have hres : chooseL W R Y facts budget = out := hgo.out.symm.trans hend
                have HR := Lib.hid hres
                clear hend hres hgo
                go_wp2
                go_ret
                exact ⟨_, rfl, by rw [HR.out]; exact owns_base hown' (by omega), hw.below⟩
              · have hlb : decide (best < 0) = false := by simpa using hl
                obtain ⟨q, rfl⟩ := Int.eq_ofNat_of_zero_le (show 0 ≤ best by omega)
                have hq : q < 64 := by omega
                have hqI : (q : Int) < 64 := by omega
                have sq := spaceZ_bd Y q
                have hfit := P6.out (by omega)
                simp only [Int.toNat_natCast] at hfit
                obtain ⟨z, hz⟩ : ∃ z, Hid (Y.getD q 0 = z) := ⟨_, rfl⟩
                have esq : spaceZ Y q = keepZ z 67108864 := by rw [spaceZ, hz.out]
                have hgo' : chooseGo W R Y n (out ++ [(q : Int)]) (bud - spaceZ Y q) (costNext R C q) = chooseL W R Y facts budget := by
                  rw [← hgo.out]
                  simp only [chooseGo]
                  rw [hpick.out, if_neg (by simp)]
                  simp
                rw [esq] at sq hfit hgo'
                have HG := Lib.hid hgo'
                clear hgo hgo' esq
                have hws := hw.size
                go_wp2_with (at_builtin; refine wpList_append_own _ rfl _ _ 26 rfl (w.heap.size + 4) 3 i0 (.int .i64 0) 1 8 Try.underlying26 hi hz0 hz1 hz2 rfl (by decide) _ _ _ rfl (hown'.alloc _) ⟨wr.heap.size, 0, none⟩ 1 1 [.int .i64 q] rfl rfl (cell_one_new' _ _ _) (by intro u hu; simp at hu; subst hu; rfl) (by unfold maxLen; omega) (by omega) (by simp; omega) ?_; intro v' w1 hown1 hgrow _; have hbw : Below (w.heap.size + 4) wr w1 := Below.appended (Below.refl _ _) hws hown' _ hgrow; have cYq : w1.cell? ⟨w.heap.size + 2, q, none⟩ = some (.int .i64 z) := by rw [← hz.out]; exact Arr.cell (hw.mono hbw).aY (by omega))
                have hw1 := hw.mono hbw
                have hs1 := hw1.size
                have own1 : w1.ownsRow (w.heap.size + 4) 3 1 v' (out ++ [(q : Int)]).length ((out ++ [(q : Int)]).map (Value.int .i64)) := by simpa using hown1
                have hn1 : (out ++ [(q : Int)]).length + n = 16 := by simp; omega
                clear hown1 hgrow hbw hown' hown hrow hw hws
                refine (keep31 _ _ _).mono ?_
                rintro e w4 ⟨rfl, rfl⟩
                go_wp2_with fail
                generalize out ++ [(q : Int)] = out1 at *
                go_loopw [19] (fun i wr => ∃ j : Nat, j ≤ 64 ∧ i = .int .i64 j ∧ ChW w w.heap.size W R Y (costTo R C q j) wr ∧ wr.ownsRow (w.heap.size + 4) 3 1 v' out1.length (out1.map (Value.int .i64))) (fun i _ => 64 - (intOf i).toNat)
                case atStart => exact ⟨0, by omega, rfl, by rw [costTo_zero R C q hC]; exact hw1, own1⟩
                case round =>
                  obtain ⟨j, hj, rfl, hw, hown⟩ := hrel
                  by_cases hjt : j < 64
                  · obtain ⟨r, hr, cR⟩ : ∃ r, Hid (R.getD q 0 = r) ∧ wr.cell? ⟨w.heap.size + 1, q, none⟩ = some (.int .i64 r) := ⟨_, rfl, Arr.cell hw.aR (by omega)⟩
                    obtain ⟨c, hc, cC⟩ : ∃ c, Hid (C.getD j 0 = c) ∧ wr.cell? ⟨w.heap.size + 3, j, none⟩ = some (.int .i64 c) := ⟨_, rfl, by rw [← costTo_at R C q j hjt]; exact Arr.cell hw.aC (by rw [costTo_len]; omega)⟩
                    have hjI : (j : Int) < 64 := by omega
                    have hjb : decide ((j : Int) < 64) = true := by simp; omega
                    obtain ⟨t, ht⟩ : ∃ t, Hid (coversB q j = t) := ⟨_, rfl⟩
                    go_wp2_with fail
                    refine (covers33 _ _ _).mono ?_
                    rw [ht.out]
                    rintro e w2 ⟨rfl, hB2⟩
                    have hws := hw.size
                    have hsl : ∀ j : Nat, j < w.heap.size + 4 → j < wr.heap.size := fun j hj => by omega
                    have cR2 : w2.cell? ⟨w.heap.size + 1, q, none⟩ = some (.int .i64 r) := (hB2.cell (hsl _ (by show w.heap.size + 1 < _; omega))).trans cR
                    have cC2 : w2.cell? ⟨w.heap.size + 3, j, none⟩ = some (.int .i64 c) := (hB2.cell (hsl _ (by show w.heap.size + 3 < _; omega))).trans cC
                    have hw2 := hw.mono (hB2.mono hws)
                    have hown2 := owns_below hown hB2 (Nat.le_refl _)
                    have fC := Arr.free hw2.aC j
                    clear hw hown cR cC hB2 hsl hws
                    have hx : coversB q j = true → (if keepZ r 16777216 < c then keepZ r 16777216 else c) = costOne R C q j := fun h => by
                      unfold costOne; rw [if_pos h, hr.out, hc.out]
                    cases t
                    · have hsk := costTo_skip R C q j hjt ht.out
                      have HSK := Lib.hid hsk
                      clear hsk hx
                      go_wp2_with fail
                      go_quiet (fail)
                      go_wp2_with fail
                      go_roundw
                      case rel => exact ⟨j + 1, by omega, by go_num, by rw [← HSK.out]; exact hw2.mono (Below.drewN (Below.refl _ _) _), hown2⟩
                      case measure => simp [intOf]; omega
                    · have hx' := hx ht.out
                      clear hx
                      by_cases hlt : keepZ r 16777216 < c
                      · rw [if_pos hlt] at hx'
                        have HX := Lib.hid hx'
                        clear hx'
                        have hltb : decide (keepZ r 16777216 < c) = true := by simpa using hlt
                        go_wp2_with fail
                        go_quiet ((go_at_call 31; exact quietL (keep31 _ _ _)))
                        have hws := hw2.set j (keepZ r 16777216)
                        rw [costTo_set R C q j hjt _ HX.out] at hws
                        have hos := ownsRow_setCell_below hown2 (a := ⟨w.heap.size + 3, j, none⟩) (by show w.heap.size + 3 < w.heap.size + 4; omega) (.int .i64 (keepZ r 16777216))
                        go_wp2_with (go_at_call 31; refine (keep31 _ _ _).mono ?_; rintro e w' ⟨rfl, rfl⟩)
                        go_roundw
                        case rel => exact ⟨j + 1, by omega, by go_num, hws.mono (Below.drewN (Below.refl _ _) _), hos⟩
                        case measure => simp [intOf]; omega
                      · rw [if_neg hlt] at hx'
                        have hsk : costTo R C q j = costTo R C q (j + 1) := by
                          rw [← costTo_set R C q j hjt _ hx', ← hc.out, ← costTo_at R C q j hjt]
                          apply List.ext_getElem
                          · simp
                          · intro i h1 h2
                            simp only [List.getElem_set]
                            split
                            · rename_i e; subst e; simp [List.getD_eq_getElem?_getD, h1]
                            · rfl
                        have HSK := Lib.hid hsk
                        clear hsk hx'
                        have hltb : decide (keepZ r 16777216 < c) = false := by simpa using hlt
                        go_wp2_with fail
                        go_quiet ((go_at_call 31; exact quietL (keep31 _ _ _)))
                        go_wp2_with fail
                        go_roundw
                        case rel => exact ⟨j + 1, by omega, by go_num, by rw [← HSK.out]; exact hw2.mono (Below.drewN (Below.refl _ _) _), hown2⟩
                        case measure => simp [intOf]; omega
                  · have hj64 : j = 64 := by omega
                    subst hj64
                    rw [costTo_full] at hw
                    go_wp2_with fail
                    go_roundg n
                    case measure => omega
                    case rel => exact ⟨out1, bud - keepZ z 67108864, costNext R C q, hn1, rfl, by omega, by omega, hown, costNext_len _ _ _, hw, HG.out⟩
end Go.Proofs.Ytfgnmcmkjfnogaa
