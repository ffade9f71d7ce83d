/- The document's sums: added, negated, of a number; told as a number. -/
import Derived.Test.YtlhncphnhgbclaaC
namespace Go.Proofs.Ytlhncphnhgbclaa
open Go.RowKit
set_option linter.unusedVariables false
set_option linter.unusedSimpArgs false

theorem dig_mod (u i : Nat) (h : i < 16) : dig u i = dig (u % 340282366920938463463374607431768211456) i := by
  unfold dig
  have hi : i = 0 ∨ i = 1 ∨ i = 2 ∨ i = 3 ∨ i = 4 ∨ i = 5 ∨ i = 6 ∨ i = 7 ∨ i = 8 ∨ i = 9 ∨ i = 10 ∨ i = 11 ∨ i = 12 ∨ i = 13 ∨ i = 14 ∨ i = 15 := by omega
  rcases hi with rfl | rfl | rfl | rfl | rfl | rfl | rfl | rfl | rfl | rfl | rfl | rfl | rfl | rfl | rfl | rfl <;> omega
theorem digL_mod (u : Nat) : digL u = digL (u % 340282366920938463463374607431768211456) := by
  apply List.ext_getElem
  · simp [digL]
  · intro i h1 h2
    simp [digL] at h1
    simp only [digL, List.getElem_map, List.getElem_range]
    rw [dig_mod u i h1]
def z16 : List Int := List.replicate 16 0
theorem z16_len : z16.length = 16 := rfl
theorem zv60' : ∀ w, (zeroValue 60).run Try.prog w = .ok (.agg (ints z16)) w := zv60
theorem uns_lt (a : Int) : uns a < 340282366920938463463374607431768211456 := by unfold uns; omega
theorem w128_uns2 (a b : Int) : w128 (((uns a + uns b) % 340282366920938463463374607431768211456 : Nat) : Int) = w128 (a + b) := by unfold w128 uns; omega

set_option maxRecDepth 100000 in
set_option maxHeartbeats 4000000 in
theorem plus14 (a b : Int) (w : World) :
    Calls Try.prog 14 #[sumV a, sumV b] w fun e w' => e = .returned (sumV (w128 (a + b))) ∧ Below w.heap.size w w' := by
  have hzv := zv60'
  obtain ⟨s, hs⟩ : ∃ s, w128 (a + b) = s := ⟨_, rfl⟩
  rw [hs]
  have HS := Lib.hid hs
  clear hs
  obtain ⟨u, hu⟩ : ∃ u, uns a = u := ⟨_, rfl⟩
  obtain ⟨v, hv⟩ : ∃ u, uns b = u := ⟨_, rfl⟩
  have e35a := fun w => digits35 a w
  have e35b := fun w => digits35 b w
  rw [hu] at e35a
  rw [hv] at e35b
  have HU := Lib.hid hu
  have HV := Lib.hid hv
  clear hu hv
  unfold sumV at e35a e35b
  unfold sumV
  go_enter Try.func14, Try.ntmps14
  go_wp2_with fail
  refine (e35a _).mono ?_
  rintro e w1 ⟨rfl, hB1⟩
  have hb3 : Blk w1 (w.heap.size + 1) 24 #[.int .i64 (hiW b), .int .u64 (loW b)] := Blk.below (((Blk.newAt _ _ _ (by simp))).alloc _) hB1 (by simp)
  have hz0 : Blk w1 (w.heap.size + 1 + 1) 24 #[.int .i64 0, .int .u64 0] := Blk.below (Blk.newAt _ _ _ (by simp)) hB1 (by simp)
  have hBw : Below w.heap.size w w1 := Below.call (Below.al (Below.al (Below.al (Below.refl _ _) _) _) _) hB1
  have hs1 := Blk.lt hz0
  clear hB1
  go_upto_region 2 with (refine wpList_store_row rfl 60 _ _ rfl w1.heap.size (ints (digL u)) rfl rfl 60 _ (Blk.newAt _ _ _ rfl) (by rw [size_ints, digL_len]; exact info60) (by rw [size_ints, size_ints, digL_len, z16_len]) (ints_one _) ?_)
  have ha5 : Arr ((w1.alloc (Obj.cells (ints z16) 60)).setRow w1.heap.size (ints (digL u))) w1.heap.size 60 (digL u) := Blk.setRow (Blk.newAt _ _ _ rfl)
  have hB2 : Below w1.heap.size w1 ((w1.alloc (Obj.cells (ints z16) 60)).setRow w1.heap.size (ints (digL u))) := Below.setRow (Below.al (Below.refl _ _) _) (Nat.le_refl _) _
  generalize ((w1.alloc (Obj.cells (ints z16) 60)).setRow w1.heap.size (ints (digL u))) = w2 at *
  have hb3' : Blk w2 (w.heap.size + 1) 24 #[.int .i64 (hiW b), .int .u64 (loW b)] := Blk.below hb3 hB2 (by omega)
  have hz2 : Blk w2 (w.heap.size + 1 + 1) 24 #[.int .i64 0, .int .u64 0] := Blk.below hz0 hB2 hs1
  have hBw2 := Below.call hBw hB2
  obtain ⟨b5, hb5⟩ : ∃ b5, b5 = w1.heap.size := ⟨_, rfl⟩
  rw [← hb5] at ha5 ⊢ 
  have h5 : w.heap.size + 1 + 1 < b5 := by omega
  have l5 := Blk.lt ha5
  have hc0 : w2.cell? ⟨w.heap.size + 1, 0, none⟩ = some (.int .i64 (hiW b)) := Blk.cell hb3' 0
  have hc1 : w2.cell? ⟨w.heap.size + 1, 1, none⟩ = some (.int .u64 (loW b)) := Blk.cell hb3' 1
  clear hB2 hBw hz0 hb3 hb5 hs1 hb3'
  go_wp2_with fail
  refine (e35b _).mono ?_
  rintro e w3 ⟨rfl, hB3⟩
  have ha53 : Arr w3 b5 60 (digL u) := Blk.below ha5 hB3 l5
  have hz3 : Blk w3 (w.heap.size + 1 + 1) 24 #[.int .i64 0, .int .u64 0] := Blk.below hz2 hB3 (by omega)
  have hBw3 := Below.call hBw2 hB3
  have l53 := Blk.lt ha53
  clear ha5 hz2 hBw2 hB3 l5 hc0 hc1
  go_upto_region 3 with (refine wpList_store_row rfl 60 _ _ rfl w3.heap.size (ints (digL v)) rfl rfl 60 _ (Blk.newAt _ _ _ rfl) (by rw [size_ints, digL_len]; exact info60) (by rw [size_ints, size_ints, digL_len, z16_len]) (ints_one _) ?_)
  have ha6 : Arr ((w3.alloc (Obj.cells (ints z16) 60)).setRow w3.heap.size (ints (digL v))) w3.heap.size 60 (digL v) := Blk.setRow (Blk.newAt _ _ _ rfl)
  have hB4 : Below w3.heap.size w3 ((w3.alloc (Obj.cells (ints z16) 60)).setRow w3.heap.size (ints (digL v))) := Below.setRow (Below.al (Below.refl _ _) _) (Nat.le_refl _) _
  generalize ((w3.alloc (Obj.cells (ints z16) 60)).setRow w3.heap.size (ints (digL v))) = w4 at *
  have ha54 : Arr w4 b5 60 (digL u) := Blk.below ha53 hB4 l53
  have hz4 : Blk w4 (w.heap.size + 1 + 1) 24 #[.int .i64 0, .int .u64 0] := Blk.below hz3 hB4 (by omega)
  have hBw4 := Below.call hBw3 hB4
  obtain ⟨b6, hb6⟩ : ∃ b6, b6 = w3.heap.size := ⟨_, rfl⟩
  rw [← hb6] at ha6 ⊢ 
  have h6 : b5 < b6 := by omega
  clear ha53 hz3 hBw3 hB4 hb6 l53
  rw [← mixL_zero (dig (u + v)) u] at ha54
  go_wp2_with fail
  go_loopw [7, 8, 9] (fun c i _ wr => ∃ (k : Nat) (c0 : Int), k ≤ 16 ∧ i = .int .i64 k ∧ c = .int .i64 c0 ∧ Hid (((carN u v k : Nat) : Int) = c0) ∧
    Arr wr b5 60 (mixL (dig (u + v)) (dig u) k) ∧ Arr wr b6 60 (digL v) ∧ Blk wr (w.heap.size + 1 + 1) 24 #[.int .i64 0, .int .u64 0] ∧ Below w.heap.size w wr) (fun _ i _ _ => 16 - (intOf i).toNat)
  case atStart => exact ⟨0, 0, by omega, rfl, rfl, by rw [Hid]; simp [carN, Nat.mod_one], ha54, ha6, hz4, hBw4⟩
  case round =>
    obtain ⟨k, c0, hk, rfl, rfl, hc, hA, hD, hZ, hB⟩ := hrel
    by_cases hlt : k < 16
    · have hkI : (k : Int) < 16 := by omega
      obtain ⟨d1, h1, c1⟩ : ∃ d : Int, Hid (((dig u k : Nat) : Int) = d) ∧ wr.cell? ⟨b5, k, none⟩ = some (.int .i64 d) := ⟨_, rfl, by rw [Arr.cell hA (j := k) (by rw [mixL_len]; omega), mixL_at _ _ k k (by omega) (Nat.le_refl _)]⟩
      obtain ⟨d2, h2, c2⟩ : ∃ d : Int, Hid (((dig v k : Nat) : Int) = d) ∧ wr.cell? ⟨b6, k, none⟩ = some (.int .i64 d) := ⟨_, rfl, by rw [Arr.cell hD (j := k) (by rw [digL_len]; omega), digL_at v k (by omega)]⟩
      have b1 := dig_lt u k
      have b2 := dig_lt v k
      have b3 := car_le u v k
      have g1 := h1.out
      have g2 := h2.out
      have g3 := hc.out
      have q1 := car_dig u v k
      have q2 := car_step u v k
      have n1 : 0 ≤ d1 ∧ d1 < 256 := by omega
      have n2 : 0 ≤ d2 ∧ d2 < 256 := by omega
      have n3 : 0 ≤ c0 ∧ c0 ≤ 1 := by omega
      obtain ⟨e1, he1, rt⟩ : ∃ e : Int, Hid (((dig (u + v) k : Nat) : Int) = e) ∧ (d1 + d2 + c0).tmod 256 = e := ⟨_, rfl, by rw [Int.tmod_eq_emod_of_nonneg (by omega)]; omega⟩
      obtain ⟨e2, he2, qt⟩ : ∃ e : Int, Hid (((carN u v (k + 1) : Nat) : Int) = e) ∧ (d1 + d2 + c0).tdiv 256 = e := ⟨_, rfl, by rw [Int.tdiv_eq_ediv_of_nonneg (by omega)]; omega⟩
      have wq : wrap64 e2 = e2 := w64 (by have := he2.out; have := car_le u v (k + 1); omega)
      have f1 := Arr.free hA
      clear b1 b2 b3 g1 g2 g3 q1 q2
      go_wp2_with fail
      go_region
      go_wp2_with fail
      have hA1 := Arr.set hA k e1
      rw [← he1.out, mixL_step _ _ k hlt, he1.out] at hA1
      have hD1 := Blk.other hD (p := ⟨b5, k, none⟩) (by show b5 ≠ b6; omega) (.int .i64 e1)
      have hZ1 := Blk.other hZ (p := ⟨b5, k, none⟩) (by show b5 ≠ w.heap.size + 1 + 1; omega) (.int .i64 e1)
      go_roundw
      case rel => exact ⟨k + 1, e2, by omega, by go_num, by rw [wq], he2, hA1, hD1, hZ1, (Below.drew hB).setCell (p := ⟨b5, k, none⟩) (by show w.heap.size ≤ b5; omega) _⟩
      case measure => simp [intOf]; omega
    · obtain rfl : k = 16 := by omega
      rw [mixL_full, digL_mod] at hA
      have hm : (u + v) % 340282366920938463463374607431768211456 < 340282366920938463463374607431768211456 := Nat.mod_lt _ (by decide)
      have hw : w128 (((u + v) % 340282366920938463463374607431768211456 : Nat) : Int) = s := by rw [← HU.out, ← HV.out, w128_uns2, HS.out]
      obtain ⟨x, hx⟩ : ∃ x, (u + v) % 340282366920938463463374607431768211456 = x := ⟨_, rfl⟩
      rw [hx] at hA hm hw
      have e36 := fun w => sum36 x w hm
      rw [hw] at e36
      clear hx hw hm
      go_wp2_with (refine wpList_load_at rfl 60 _ rfl _ 0 rfl (ints (digL x)) _ (fun j _ => by rw [Nat.zero_add]; exact Blk.cell hA j) Try.underlying60 rfl (by rw [size_ints, digL_len]; exact info60) ?_)
      refine (e36 _).mono ?_
      rintro e w5 ⟨rfl, hB5⟩
      have hZ1 := Blk.below hZ hB5 (Blk.lt hZ)
      have hB6 := Below.call hB hB5
      go_wp2_with (refine wpList_store_row rfl 24 _ _ rfl (w.heap.size + 1 + 1) #[.int .i64 (hiW s), .int .u64 (loW s)] rfl rfl 24 _ hZ1 info24 rfl (by simp [Value.oneCell']) ?_)
      refine bodyPost_ret (results_cell_row rfl _ _ (w.heap.size + 1 + 1) 24 #[.int .i64 (hiW s), .int .u64 (loW s)] (0, 0) _ rfl (Blk.setRow hZ1) Try.underlying24 rfl info24) rfl ?_
      exact ⟨rfl, Below.setRow hB6 (by omega) _⟩

theorem of33 (n : Int) (w : World) (h : -9223372036854775808 ≤ n ∧ n ≤ 9223372036854775807) :
    Calls Try.prog 33 #[.int .i64 n] w fun e w' => e = .returned (sumV n) ∧ Below w.heap.size w w' := by
  have e2 : IntKind.u64.wrap n = loW n := by rw [IntKind.wrap_u64]; rfl
  by_cases h0 : n < 0
  · have d0 : decide (n < 0) = true := by simpa using h0
    have e1 : hiW n = -1 := by unfold hiW; omega
    have E1 := Lib.hid e1
    clear e1
    go_enter Try.func33, Try.ntmps33
    go_wp2_with fail
    refine bodyPost_ret (results_cell_row rfl _ _ w.heap.size 24 _ (0, 0) _ rfl (Blk.newAt _ _ _ rfl) Try.underlying24 rfl info24) rfl ?_
    exact ⟨sumV_eq E1.out rfl, Below.al (Below.refl _ _) _⟩
  · have d0 : decide (n < 0) = false := by simpa using h0
    have e1 : hiW n = 0 := by unfold hiW; omega
    have E1 := Lib.hid e1
    clear e1
    go_enter Try.func33, Try.ntmps33
    go_wp2_with fail
    refine bodyPost_ret (results_cell_row rfl _ _ w.heap.size 24 _ (0, 0) _ rfl (Blk.newAt _ _ _ rfl) Try.underlying24 rfl info24) rfl ?_
    exact ⟨sumV_eq E1.out rfl, Below.al (Below.refl _ _) _⟩

theorem add16 (a n : Int) (w : World) (h : -9223372036854775808 ≤ n ∧ n ≤ 9223372036854775807) :
    Calls Try.prog 16 #[sumV a, .int .i64 n] w fun e w' => e = .returned (sumV (w128 (a + n))) ∧ Below w.heap.size w w' := by
  go_enter Try.func16, Try.ntmps16
  unfold sumV
  go_wp2_with fail
  obtain ⟨w1, hw1⟩ : ∃ w1, w1 = (w.alloc (Obj.cells #[Value.int IntKind.i64 (hiW a), Value.int IntKind.u64 (loW a)] 24)).alloc (Obj.cells #[Value.int IntKind.i64 0, Value.int IntKind.u64 0] 24) := ⟨_, rfl⟩
  have hb1 : Blk w1 w.heap.size 24 #[Value.int IntKind.i64 (hiW a), Value.int IntKind.u64 (loW a)] := by rw [hw1]; exact (Blk.newAt _ _ _ rfl).alloc _
  have hb2 : Blk w1 (w.heap.size + 1) 24 #[Value.int IntKind.i64 0, Value.int IntKind.u64 0] := by rw [hw1]; exact Blk.newAt _ _ _ (by simp)
  have hB : Below w.heap.size w w1 := by rw [hw1]; exact Below.al (Below.al (Below.refl _ _) _) _
  rw [← hw1]
  clear hw1
  have hs1 := Blk.lt hb2
  refine hp_start (fun w' => Below (w.heap.size + 1) w1 w') 5 rfl (by kernel_rfl) (fun c a a' w hd h => ⟨hd ▸ h.1, h.2⟩) (fun hP => ?_)
  rw [show Array.replicate 5 false = #[false, false, false, false, false] from rfl]
  have HS0 : Below (w.heap.size + 1) w1 w1.drew := (Below.refl _ _).drew
  refine hp_load_at hP 0 (some 5) rfl rfl (by kernel_rfl) rfl 24 _ rfl w.heap.size 0 rfl #[Value.int IntKind.i64 (hiW a), Value.int IntKind.u64 (loW a)] _ (fun w' hS' j hj => (hS'.cell (by exact Nat.lt_succ_self _)).trans (by rw [Nat.zero_add]; exact Blk.cell hb1 j)) Try.underlying24 rfl info24 HS0 ?_
  simp only [Act.put, List.setIfInBounds_toArray, List.set_cons_zero, List.set_cons_succ]
  refine hp_take hP 1 (some 6) _ rfl rfl (by kernel_rfl) rfl (fun w' hS' => by go_simp; rfl) HS0 ?_
  simp only [Act.put, List.setIfInBounds_toArray, List.set_cons_zero, List.set_cons_succ]
  refine hp_call 2 (some 7) rfl rfl (by kernel_rfl) rfl 33 #[.int .i64 n] (by go_simp) ((of33 n _ h).mono ?_)
  rintro e w2 ⟨rfl, hB2⟩
  have HS1 : Below (w.heap.size + 1) w1 w2 := HS0.trans (hB2.mono (by exact Nat.le_of_lt hs1))
  refine ⟨_, rfl, HS1, ?_⟩
  simp only [Act.put, List.setIfInBounds_toArray, List.set_cons_zero, List.set_cons_succ]
  refine hp_call 3 (some 8) rfl rfl (by kernel_rfl) rfl 14 #[sumV a, sumV n] (by go_simp; rfl) ((plus14 a n _).mono ?_)
  rintro e w3 ⟨rfl, hB3⟩
  have HS2 : Below (w.heap.size + 1) w1 w3 := HS1.trans (hB3.mono (by have := hB2.size; have e : w1.drew.heap.size = w1.heap.size := rfl; omega))
  refine ⟨_, rfl, HS2, ?_⟩
  simp only [Act.put, List.setIfInBounds_toArray, List.set_cons_zero, List.set_cons_succ]
  have hb3 : Blk w3 (w.heap.size + 1) 24 #[Value.int IntKind.i64 0, Value.int IntKind.u64 0] := Blk.below (Blk.below (Blk.drew hb2) hB2 (by exact hs1)) hB3 (by have := hB2.size; have e : w1.drew.heap.size = w1.heap.size := rfl; omega)
  have hBw : Below w.heap.size w w3 := hB.trans (HS2.mono (Nat.le_succ _))
  refine hp_store_row 4 rfl rfl (by kernel_rfl) rfl 24 _ _ rfl (w.heap.size + 1) #[Value.int IntKind.i64 (hiW (w128 (a + n))), Value.int IntKind.u64 (loW (w128 (a + n)))] rfl rfl 24 _ hb3 info24 rfl (by simp [Value.oneCell']) (Below.setRow HS2 (Nat.le_refl _) _) ?_
  simp only [List.setIfInBounds_toArray, List.set_cons_zero, List.set_cons_succ]
  refine hk_done (by kernel_rfl) ?_
  go_wp2_with fail
  refine bodyPost_ret (results_cell_row rfl _ _ (w.heap.size + 1) 24 _ (0, 0) _ rfl (Blk.setRow hb3) Try.underlying24 rfl info24) rfl ?_
  exact ⟨rfl, Below.setRow hBw (Nat.le_succ _) _⟩
end Go.Proofs.Ytlhncphnhgbclaa
