/- Sums as texts: the document's. -/
import Derived.Test.YtlhncphnhgbclaaG
import Derived.Laws.Concat
namespace Go.Proofs.Ytlhncphnhgbclaa
open Go.RowKit
set_option linter.unusedVariables false
set_option linter.unusedSimpArgs false

theorem mixL_lo (f g : Nat → Nat) (k i : Nat) (h : i < 16) (hk : i < k) : (mixL f g k).getD i 0 = (f i : Nat) := by
  simp [mixL, List.getD_eq_getElem?_getD, h]; omega
theorem mixL_back (f g : Nat → Nat) (k : Nat) (h : k < 16) : (mixL f g (k + 1)).set k (g k : Nat) = mixL f g k := by
  apply List.ext_getElem
  · simp [mixL]
  · intro i h1 h2
    simp only [mixL, List.getElem_set, List.getElem_map, List.getElem_range]
    by_cases e : k = i
    · subst e; rw [if_pos rfl, if_neg (by omega)]
    · rw [if_neg e]
      by_cases h3 : i < k
      · rw [if_pos h3, if_pos (by omega)]
      · rw [if_neg h3, if_neg (by omega)]
theorem mixL_none (f : Nat → Nat) (u : Nat) : mixL f (dig u) 0 = digL u := by simp [mixL, digL]

/-- one step of the division by ten -/
theorem ten_step (N k : Nat) : ((N / 256 ^ (k + 1) % 10) * 256 + dig N k) / 10 = dig (N / 10) k ∧ ((N / 256 ^ (k + 1) % 10) * 256 + dig N k) % 10 = N / 256 ^ k % 10 := by
  have h1 : N / 10 / 256 ^ k = N / 256 ^ k / 10 := by rw [Nat.div_div_eq_div_mul, Nat.mul_comm, ← Nat.div_div_eq_div_mul]
  unfold dig
  rw [h1, pow_step]
  omega
theorem ten_zero (N k : Nat) : (N / 10 / 256 ^ k = 0) ↔ (N / 10 / 256 ^ (k + 1) = 0 ∧ dig (N / 10) k = 0) := by
  unfold dig
  rw [pow_step]
  omega
theorem ten_top (N : Nat) (h : N < 340282366920938463463374607431768211456) : N / 256 ^ 16 % 10 = 0 ∧ N / 10 / 256 ^ 16 = 0 := by
  have e : (256 : Nat) ^ 16 = 340282366920938463463374607431768211456 := by decide
  rw [e]; omega
theorem add_str (a b : List UInt8) (h : a.length + b.length ≤ 1000) (w : World) : (Op.stringOp .add ⟨a.toArray⟩ ⟨b.toArray⟩).run Try.prog w = .ok (.string ⟨(a ++ b).toArray⟩) w := by
  rw [run_string_add_sum w _ _ (by simp [ByteArray.size]; omega), ByteArray.mk_append_mk]

set_option maxRecDepth 100000 in
set_option maxHeartbeats 8000000 in
theorem text20_pos (a : Int) (w : World) (ha : In128 a) (h0 : ¬ a < 0) :
    Calls Try.prog 20 #[sumV a] w fun e w' => e = .returned (.string ⟨(txt a).toArray⟩) ∧ Below w.heap.size w w' := by
  have hzv := zv60'
  have hneg : decide (hiW a < 0) = false := by simp; unfold hiW; omega
  have e35 := fun w => digits35 a w
  have htx : txt a = decF 39 a.natAbs [] := by unfold txt; rw [if_neg h0]
  have HTX := Lib.hid htx
  have hlt39 := abs_lt a ha
  have hlt128 : a.natAbs < 340282366920938463463374607431768211456 := by unfold In128 at ha; omega
  have hun : uns a = a.natAbs := by unfold In128 at ha; unfold uns; omega
  rw [hun] at e35
  clear hun
  obtain ⟨N0, hN0⟩ : ∃ N0, a.natAbs = N0 := ⟨_, rfl⟩
  rw [hN0] at hlt39 hlt128 HTX e35
  obtain ⟨u, hu⟩ : ∃ u, N0 = u := ⟨_, rfl⟩
  rw [hu] at e35
  clear htx hN0
  unfold sumV at e35
  unfold sumV
  go_enter Try.func20, Try.ntmps20
  go_wp2_with fail
  refine (e35 _).mono ?_
  rintro e w1 ⟨rfl, hB1⟩
  have hb1 : Blk w1 w.heap.size 24 #[.int .i64 (hiW a), .int .u64 (loW a)] := Blk.below (Blk.newAt _ _ _ rfl) hB1 (by simp)
  have hBw : Below w.heap.size w w1 := Below.call (Below.al (Below.refl _ _) _) hB1
  have hl1 := Blk.lt hb1
  clear hB1
  go_upto_region 3 with (refine wpList_store_row rfl 60 _ _ rfl w1.heap.size (ints (digL u)) rfl rfl 60 _ (Blk.newAt _ _ _ rfl) (by rw [size_ints, digL_len]; exact info60) (by rw [size_ints, size_ints, digL_len, z16_len]) (ints_one _) ?_)
  have ha5 : Arr ((w1.alloc (Obj.cells (ints z16) 60)).setRow w1.heap.size (ints (digL u))) w1.heap.size 60 (digL u) := Blk.setRow (Blk.newAt _ _ _ rfl)
  have hB2 : Below w1.heap.size w1 ((w1.alloc (Obj.cells (ints z16) 60)).setRow w1.heap.size (ints (digL u))) := Below.setRow (Below.al (Below.refl _ _) _) (Nat.le_refl _) _
  generalize ((w1.alloc (Obj.cells (ints z16) 60)).setRow w1.heap.size (ints (digL u))) = w2 at *
  have hb2 := Blk.below hb1 hB2 hl1
  have hBw2 := Below.call hBw hB2
  obtain ⟨b4, hb4⟩ : ∃ b4, b4 = w1.heap.size := ⟨_, rfl⟩
  rw [← hb4] at ha5 ⊢
  have h4 : w.heap.size < b4 := by omega
  have k0 : w2.cell? ⟨w.heap.size, 0, none⟩ = some (.int .i64 (hiW a)) := Blk.cell hb2 0
  have k1 : w2.cell? ⟨w.heap.size, 1, none⟩ = some (.int .u64 (loW a)) := Blk.cell hb2 1
  clear hB2 hBw hb4 hl1 hb1 hb2
  subst hu
  have hA0 := ha5
  have hB0 := hBw2
  clear ha5 hBw2
  go_wp2_with fail
  have hs0 : (⟨#[]⟩ : ByteArray) = ⟨([] : List UInt8).toArray⟩ := rfl
  go_loopg [5, 6, 7, 8, 9] 39 (fun n sv _ _ _ _ wr => ∃ (N : Nat) (s : List UInt8) (S : ByteArray), 1 ≤ n ∧ N < 340282366920938463463374607431768211456 ∧ N < 10 ^ n ∧ s.length + n = 39 ∧ sv = .string S ∧ Hid (S = ⟨s.toArray⟩) ∧
    Hid (decF n N s = decF 39 N0 []) ∧ Arr wr b4 60 (digL N) ∧ Below w.heap.size w wr)
  case atStart => exact ⟨N0, [], _, by omega, hlt128, hlt39, rfl, rfl, rfl, rfl, hA0, hB0⟩
  case round =>
    obtain ⟨N, s, S, hn, hN128, hNn, hsl, rfl, hS, hdec, hA, hB⟩ := hrel
    obtain ⟨m, rfl⟩ : ∃ m, gk = m + 1 := ⟨gk - 1, by omega⟩
    have htop := ten_top N hN128
    rw [← mixL_full (dig (N / 10)) N] at hA
    have HN := Lib.hid hNn
    clear hNn
    go_wp2_with fail
    go_loopw [6, 7, 8, 9] (fun rv zv iv _ wq => ∃ (k : Nat) (R : Int) (z : Bool), k ≤ 16 ∧ iv = .int .i64 ((k : Int) - 1) ∧ rv = .int .i64 R ∧ zv = .bool z ∧ Hid (((N / 256 ^ k % 10 : Nat) : Int) = R) ∧ Hid (z = decide (N / 10 / 256 ^ k = 0)) ∧
      Arr wq b4 60 (mixL (dig N) (dig (N / 10)) k) ∧ Below w.heap.size w wq) (fun _ _ i _ _ => (intOf i + 1).toNat)
    case atStart => exact ⟨16, 0, true, by omega, by simp, rfl, rfl, by rw [Hid, htop.1]; rfl, by rw [Hid, htop.2]; rfl, hA, hB⟩
    case round =>
      obtain ⟨k, R, z, hk, rfl, rfl, rfl, hR, hz, hA, hB⟩ := hrel
      obtain ⟨wx, hwx⟩ : ∃ wx : World, wx = wr := ⟨_, rfl⟩
      rw [← hwx] at hA hB ⊢
      clear hwx
      cases k with
      | succ k =>
        have e0 : ((k + 1 : Nat) : Int) - 1 = k := by omega
        rw [e0]
        have hge : decide ((0 : Int) ≤ k) = true := by simp
        obtain ⟨d, hd, c1⟩ : ∃ d : Int, Hid (((dig N k : Nat) : Int) = d) ∧ wx.cell? ⟨b4, k, none⟩ = some (.int .i64 d) := ⟨_, rfl, by rw [Arr.cell hA (j := k) (by rw [mixL_len]; omega), mixL_lo _ _ (k + 1) k (by omega) (by omega)]⟩
        have hds := ten_step N k
        have hdl := dig_lt N k
        have hd2 := hd.out
        have hR2 := hR.out
        have n1 : 0 ≤ d ∧ d < 256 := by omega
        have n2 : 0 ≤ R ∧ R < 10 := by omega
        obtain ⟨q, hq, qt⟩ : ∃ q : Int, Hid (((dig (N / 10) k : Nat) : Int) = q) ∧ (R * 256 + d).tdiv 10 = q := ⟨_, rfl, by rw [Int.tdiv_eq_ediv_of_nonneg (by omega)]; omega⟩
        obtain ⟨r, hr, rt⟩ : ∃ r : Int, Hid (((N / 256 ^ k % 10 : Nat) : Int) = r) ∧ (R * 256 + d).tmod 10 = r := ⟨_, rfl, by rw [Int.tmod_eq_emod_of_nonneg (by omega)]; omega⟩
        have hql := dig_lt (N / 10) k
        have hq2 := hq.out
        have n3 : 0 ≤ q ∧ q < 256 := by omega
        have wq : wrap64 q = q := w64 (by omega)
        have f1 := Arr.free hA
        have hA1 := Arr.set hA k q
        rw [← hq.out, mixL_back _ _ k (by omega), hq.out] at hA1
        have hz0 := ten_zero N k
        have HA1 := Lib.hid hA1
        have c2 : (wx.setCell ⟨b4, k, none⟩ (.int .i64 q)).cell? ⟨b4, k, none⟩ = some (.int .i64 q) := by
          rw [Arr.cell hA1 (j := k) (by rw [mixL_len]; omega), mixL_at _ _ k k (by omega) (Nat.le_refl _), hq.out]
        clear hds hdl hd2 hR2 hql hq2 hA1
        cases z with
        | true =>
          obtain ⟨zb, hzb, hzq⟩ : ∃ zb, Hid (zb = decide (N / 10 / 256 ^ k = 0)) ∧ (q == 0) = zb := by
            refine ⟨_, rfl, ?_⟩
            have h1 : N / 10 / 256 ^ (k + 1) = 0 := by have := hz.out; simpa using this.symm
            have h2 := hq.out
            by_cases h3 : dig (N / 10) k = 0
            · have h4 : q = 0 := by omega
              have h5 := hz0.2 ⟨h1, h3⟩
              simp [h4, h5]
            · have h4 : q ≠ 0 := by omega
              have h5 : ¬ (N / 10 / 256 ^ k = 0) := fun h => h3 (hz0.1 h).2
              simp [h4, h5]
          clear hz0
          go_wp2_with fail
          go_roundw
          case rel => exact ⟨k, r, zb, by omega, rfl, rfl, rfl, hr, hzb, HA1.out, hB.setCell (p := ⟨b4, k, none⟩) (by show w.heap.size ≤ b4; omega) _⟩
          case measure => simp [intOf]
        | false =>
          have hzb : Hid (false = decide (N / 10 / 256 ^ k = 0)) := by
            have h1 : ¬ (N / 10 / 256 ^ (k + 1) = 0) := by have := hz.out; simpa using this.symm
            have h5 : ¬ (N / 10 / 256 ^ k = 0) := fun h => h1 (hz0.1 h).1
            rw [Hid]; simp [h5]
          clear hz0
          go_wp2_with fail
          go_roundw
          case rel => exact ⟨k, r, false, by omega, rfl, rfl, rfl, hr, hzb, HA1.out, hB.setCell (p := ⟨b4, k, none⟩) (by show w.heap.size ≤ b4; omega) _⟩
          case measure => simp [intOf]
      | zero =>
        rw [show ((0 : Nat) : Int) - 1 = -1 from rfl]
        rw [mixL_none] at hA
        have hR2 := hR.out
        rw [Nat.pow_zero, Nat.div_one] at hR2
        have hz2 := hz.out
        rw [Nat.pow_zero, Nat.div_one] at hz2
        have n2 : 0 ≤ R ∧ R < 10 := by omega
        have hd : 48 + R = (((dgt N).toNat : Nat) : Int) := by rw [dgt_nat]; omega
        have r2 : IntKind.u8.wrap (48 + R) = 48 + R := by rw [IntKind.wrap_u8']; omega
        obtain ⟨S1, hS1, hcv⟩ : ∃ S1 : ByteArray, Hid (⟨([dgt N] : List UInt8).toArray⟩ = S1) ∧ (convert 64 9 (.slice (some ⟨wx.heap.size, 0, none⟩) 1 1)).run Try.prog (wx.alloc (Obj.cells #[.int .u8 (48 + R)] 5)) = .ok (.string S1) (wx.alloc (Obj.cells #[.int .u8 (48 + R)] 5)) := by
          refine ⟨_, rfl, ?_⟩
          refine run_convert_bytes_back _ 64 9 5 _ _ [dgt N] Try.underlying64 Try.underlying5 Try.underlying9 (fun j hj => ?_)
          have hj0 : j = 0 := by simpa using hj
          subst hj0
          have hb := Blk.cell (Blk.new wx 5 #[.int .u8 (48 + R)]) 0
          have ea : (⟨wx.heap.size, 0, none⟩ : Addr).add 0 = ⟨wx.heap.size, 0, none⟩ := by unfold Addr.add; split <;> simp_all
          rw [ea, hb, hd]
          rfl
        obtain ⟨S2, hS2, had⟩ : ∃ S2 : ByteArray, Hid (⟨(dgt N :: s).toArray⟩ = S2) ∧ ∀ w, (Op.stringOp .add S1 S).run Try.prog w = .ok (.string S2) w := by
          refine ⟨_, rfl, fun w => ?_⟩
          rw [← hS1.out, hS.out, add_str [dgt N] s (by simp; omega) w]
          rfl
        have hA1 := Blk.alloc hA (Obj.cells #[.int .u8 (48 + R)] 5)
        have hB1 := Below.al hB (Obj.cells #[.int .u8 (48 + R)] 5)
        have HA1 := Lib.hid hA1
        have HB1 := Lib.hid hB1
        clear hd hA1 hB1 hA hB hR2
        by_cases hz3 : N / 10 = 0
        · obtain rfl : z = true := by rw [hz2]; simpa using hz3
          have hres : decF 39 N0 [] = dgt N :: s := by rw [← hdec.out, decF, if_pos hz3]
          obtain ⟨S3, hS3, had3⟩ : ∃ S3 : ByteArray, Hid (⟨(txt a).toArray⟩ = S3) ∧ ∀ w, (Op.stringOp .add ⟨#[]⟩ S2).run Try.prog w = .ok (.string S3) w := by
            refine ⟨_, rfl, fun w => ?_⟩
            rw [← hS2.out, HTX.out, hres]
            exact add_str [] (dgt N :: s) (by simp; omega) w
          have HS3 := Lib.hid hS3
          clear hres hz3 hz2
          go_wp2_with (first | simp only [hcv] | simp only [had] | simp only [had3])
          go_ret
          exact ⟨by rw [← hS3.out] <;> rfl, HB1.out⟩
        · obtain rfl : z = false := by rw [hz2]; simpa using hz3
          have hres : decF m (N / 10) (dgt N :: s) = decF 39 N0 [] := by rw [← hdec.out, decF, if_neg hz3]
          have hNn := HN.out
          have hlt' : N / 10 < 10 ^ m := by rw [Nat.pow_succ] at hNn; omega
          have hm1 : 1 ≤ m := by
            rcases Nat.eq_zero_or_pos m with h | h
            · subst h; simp at hlt'; omega
            · exact h
          have HRES := Lib.hid hres
          have HLT := Lib.hid hlt'
          clear hres hlt' hNn hz3 hz2
          go_wp2_with (first | simp only [hcv] | simp only [had])
          go_roundg m
          case measure => omega
          case rel => exact ⟨N / 10, dgt N :: s, S2, hm1, by omega, HLT.out, by simp; omega, rfl, hS2.out.symm, HRES.out, HA1.out, HB1.out⟩

set_option maxRecDepth 100000 in
set_option maxHeartbeats 8000000 in
theorem text20_neg (a : Int) (w : World) (ha : In128 a) (h0 : a < 0) :
    Calls Try.prog 20 #[sumV a] w fun e w' => e = .returned (.string ⟨(txt a).toArray⟩) ∧ Below w.heap.size w w' := by
  have hzv := zv60'
  have hneg : decide (hiW a < 0) = true := by simp; unfold hiW; omega
  have e35 := fun w => digits35 a w
  have htx : txt a = 45 :: decF 39 a.natAbs [] := by unfold txt; rw [if_pos h0]
  have HTX := Lib.hid htx
  have hlt39 := abs_lt a ha
  have hlt128 : a.natAbs < 340282366920938463463374607431768211456 := by unfold In128 at ha; omega
  have hun : uns (w128 (-a)) = a.natAbs := by unfold In128 at ha; unfold uns w128; omega
  have e18 := fun w => minus18 a w
  have e35b := fun w => digits35 (w128 (-a)) w
  rw [hun] at e35b
  obtain ⟨c, hc⟩ : ∃ c, w128 (-a) = c := ⟨_, rfl⟩
  rw [hc] at e18 e35b
  clear hc hun
  obtain ⟨N0, hN0⟩ : ∃ N0, a.natAbs = N0 := ⟨_, rfl⟩
  rw [hN0] at hlt39 hlt128 HTX e35b
  obtain ⟨u, hu⟩ : ∃ u, uns a = u := ⟨_, rfl⟩
  rw [hu] at e35
  clear htx hN0
  unfold sumV at e35 e18 e35b
  unfold sumV
  go_enter Try.func20, Try.ntmps20
  go_wp2_with fail
  refine (e35 _).mono ?_
  rintro e w1 ⟨rfl, hB1⟩
  have hb1 : Blk w1 w.heap.size 24 #[.int .i64 (hiW a), .int .u64 (loW a)] := Blk.below (Blk.newAt _ _ _ rfl) hB1 (by simp)
  have hBw : Below w.heap.size w w1 := Below.call (Below.al (Below.refl _ _) _) hB1
  have hl1 := Blk.lt hb1
  clear hB1
  go_upto_region 3 with (refine wpList_store_row rfl 60 _ _ rfl w1.heap.size (ints (digL u)) rfl rfl 60 _ (Blk.newAt _ _ _ rfl) (by rw [size_ints, digL_len]; exact info60) (by rw [size_ints, size_ints, digL_len, z16_len]) (ints_one _) ?_)
  have ha5 : Arr ((w1.alloc (Obj.cells (ints z16) 60)).setRow w1.heap.size (ints (digL u))) w1.heap.size 60 (digL u) := Blk.setRow (Blk.newAt _ _ _ rfl)
  have hB2 : Below w1.heap.size w1 ((w1.alloc (Obj.cells (ints z16) 60)).setRow w1.heap.size (ints (digL u))) := Below.setRow (Below.al (Below.refl _ _) _) (Nat.le_refl _) _
  generalize ((w1.alloc (Obj.cells (ints z16) 60)).setRow w1.heap.size (ints (digL u))) = w2 at *
  have hb2 := Blk.below hb1 hB2 hl1
  have hBw2 := Below.call hBw hB2
  obtain ⟨b4, hb4⟩ : ∃ b4, b4 = w1.heap.size := ⟨_, rfl⟩
  rw [← hb4] at ha5 ⊢
  have h4 : w.heap.size < b4 := by omega
  have k0 : w2.cell? ⟨w.heap.size, 0, none⟩ = some (.int .i64 (hiW a)) := Blk.cell hb2 0
  have k1 : w2.cell? ⟨w.heap.size, 1, none⟩ = some (.int .u64 (loW a)) := Blk.cell hb2 1
  clear hB2 hBw hb4 hl1 hb1 hb2
  go_wp2_with fail
  refine (e18 _).mono ?_
  rintro e w3 ⟨rfl, hB3⟩
  have ha6 : Arr w3 b4 60 (digL u) := Blk.below ha5 hB3 (Blk.lt ha5)
  have hBw3 := Below.call hBw2 hB3
  clear hB3 ha5 hBw2 k0 k1
  go_wp2_with fail
  refine (e35b _).mono ?_
  rintro e w4 ⟨rfl, hB4⟩
  have ha7 : Arr w4 b4 60 (digL u) := Blk.below ha6 hB4 (Blk.lt ha6)
  have hBw4 := Below.call hBw3 hB4
  clear hB4 ha6 hBw3
  go_upto_region 6 with (refine wpList_store_row rfl 60 _ _ rfl b4 (ints (digL N0)) rfl rfl 60 _ ha7 (by rw [size_ints, digL_len]; exact info60) (by rw [size_ints, size_ints, digL_len, digL_len]) (ints_one _) ?_)
  have hA0 : Arr (w4.setRow b4 (ints (digL N0))) b4 60 (digL N0) := Blk.setRow ha7
  have hB0 : Below w.heap.size w (w4.setRow b4 (ints (digL N0))) := Below.setRow hBw4 (Nat.le_of_lt h4) _
  generalize w4.setRow b4 (ints (digL N0)) = w5 at *
  clear ha7 hBw4
  go_wp2_with fail
  have hs0 : (⟨#[]⟩ : ByteArray) = ⟨([] : List UInt8).toArray⟩ := rfl
  go_loopg [5, 6, 7, 8, 9] 39 (fun n sv _ _ _ _ wr => ∃ (N : Nat) (s : List UInt8) (S : ByteArray), 1 ≤ n ∧ N < 340282366920938463463374607431768211456 ∧ N < 10 ^ n ∧ s.length + n = 39 ∧ sv = .string S ∧ Hid (S = ⟨s.toArray⟩) ∧
    Hid (decF n N s = decF 39 N0 []) ∧ Arr wr b4 60 (digL N) ∧ Below w.heap.size w wr)
  case atStart => exact ⟨N0, [], _, by omega, hlt128, hlt39, rfl, rfl, rfl, rfl, hA0, hB0⟩
  case round =>
    obtain ⟨N, s, S, hn, hN128, hNn, hsl, rfl, hS, hdec, hA, hB⟩ := hrel
    obtain ⟨m, rfl⟩ : ∃ m, gk = m + 1 := ⟨gk - 1, by omega⟩
    have htop := ten_top N hN128
    rw [← mixL_full (dig (N / 10)) N] at hA
    have HN := Lib.hid hNn
    clear hNn
    go_wp2_with fail
    go_loopw [6, 7, 8, 9] (fun rv zv iv _ wq => ∃ (k : Nat) (R : Int) (z : Bool), k ≤ 16 ∧ iv = .int .i64 ((k : Int) - 1) ∧ rv = .int .i64 R ∧ zv = .bool z ∧ Hid (((N / 256 ^ k % 10 : Nat) : Int) = R) ∧ Hid (z = decide (N / 10 / 256 ^ k = 0)) ∧
      Arr wq b4 60 (mixL (dig N) (dig (N / 10)) k) ∧ Below w.heap.size w wq) (fun _ _ i _ _ => (intOf i + 1).toNat)
    case atStart => exact ⟨16, 0, true, by omega, by simp, rfl, rfl, by rw [Hid, htop.1]; rfl, by rw [Hid, htop.2]; rfl, hA, hB⟩
    case round =>
      obtain ⟨k, R, z, hk, rfl, rfl, rfl, hR, hz, hA, hB⟩ := hrel
      obtain ⟨wx, hwx⟩ : ∃ wx : World, wx = wr := ⟨_, rfl⟩
      rw [← hwx] at hA hB ⊢
      clear hwx
      cases k with
      | succ k =>
        have e0 : ((k + 1 : Nat) : Int) - 1 = k := by omega
        rw [e0]
        have hge : decide ((0 : Int) ≤ k) = true := by simp
        obtain ⟨d, hd, c1⟩ : ∃ d : Int, Hid (((dig N k : Nat) : Int) = d) ∧ wx.cell? ⟨b4, k, none⟩ = some (.int .i64 d) := ⟨_, rfl, by rw [Arr.cell hA (j := k) (by rw [mixL_len]; omega), mixL_lo _ _ (k + 1) k (by omega) (by omega)]⟩
        have hds := ten_step N k
        have hdl := dig_lt N k
        have hd2 := hd.out
        have hR2 := hR.out
        have n1 : 0 ≤ d ∧ d < 256 := by omega
        have n2 : 0 ≤ R ∧ R < 10 := by omega
        obtain ⟨q, hq, qt⟩ : ∃ q : Int, Hid (((dig (N / 10) k : Nat) : Int) = q) ∧ (R * 256 + d).tdiv 10 = q := ⟨_, rfl, by rw [Int.tdiv_eq_ediv_of_nonneg (by omega)]; omega⟩
        obtain ⟨r, hr, rt⟩ : ∃ r : Int, Hid (((N / 256 ^ k % 10 : Nat) : Int) = r) ∧ (R * 256 + d).tmod 10 = r := ⟨_, rfl, by rw [Int.tmod_eq_emod_of_nonneg (by omega)]; omega⟩
        have hql := dig_lt (N / 10) k
        have hq2 := hq.out
        have n3 : 0 ≤ q ∧ q < 256 := by omega
        have wq : wrap64 q = q := w64 (by omega)
        have f1 := Arr.free hA
        have hA1 := Arr.set hA k q
        rw [← hq.out, mixL_back _ _ k (by omega), hq.out] at hA1
        have hz0 := ten_zero N k
        have HA1 := Lib.hid hA1
        have c2 : (wx.setCell ⟨b4, k, none⟩ (.int .i64 q)).cell? ⟨b4, k, none⟩ = some (.int .i64 q) := by
          rw [Arr.cell hA1 (j := k) (by rw [mixL_len]; omega), mixL_at _ _ k k (by omega) (Nat.le_refl _), hq.out]
        clear hds hdl hd2 hR2 hql hq2 hA1
        cases z with
        | true =>
          obtain ⟨zb, hzb, hzq⟩ : ∃ zb, Hid (zb = decide (N / 10 / 256 ^ k = 0)) ∧ (q == 0) = zb := by
            refine ⟨_, rfl, ?_⟩
            have h1 : N / 10 / 256 ^ (k + 1) = 0 := by have := hz.out; simpa using this.symm
            have h2 := hq.out
            by_cases h3 : dig (N / 10) k = 0
            · have h4 : q = 0 := by omega
              have h5 := hz0.2 ⟨h1, h3⟩
              simp [h4, h5]
            · have h4 : q ≠ 0 := by omega
              have h5 : ¬ (N / 10 / 256 ^ k = 0) := fun h => h3 (hz0.1 h).2
              simp [h4, h5]
          clear hz0
          go_wp2_with fail
          go_roundw
          case rel => exact ⟨k, r, zb, by omega, rfl, rfl, rfl, hr, hzb, HA1.out, hB.setCell (p := ⟨b4, k, none⟩) (by show w.heap.size ≤ b4; omega) _⟩
          case measure => simp [intOf]
        | false =>
          have hzb : Hid (false = decide (N / 10 / 256 ^ k = 0)) := by
            have h1 : ¬ (N / 10 / 256 ^ (k + 1) = 0) := by have := hz.out; simpa using this.symm
            have h5 : ¬ (N / 10 / 256 ^ k = 0) := fun h => h1 (hz0.1 h).1
            rw [Hid]; simp [h5]
          clear hz0
          go_wp2_with fail
          go_roundw
          case rel => exact ⟨k, r, false, by omega, rfl, rfl, rfl, hr, hzb, HA1.out, hB.setCell (p := ⟨b4, k, none⟩) (by show w.heap.size ≤ b4; omega) _⟩
          case measure => simp [intOf]
      | zero =>
        rw [show ((0 : Nat) : Int) - 1 = -1 from rfl]
        rw [mixL_none] at hA
        have hR2 := hR.out
        rw [Nat.pow_zero, Nat.div_one] at hR2
        have hz2 := hz.out
        rw [Nat.pow_zero, Nat.div_one] at hz2
        have n2 : 0 ≤ R ∧ R < 10 := by omega
        have hd : 48 + R = (((dgt N).toNat : Nat) : Int) := by rw [dgt_nat]; omega
        have r2 : IntKind.u8.wrap (48 + R) = 48 + R := by rw [IntKind.wrap_u8']; omega
        obtain ⟨S1, hS1, hcv⟩ : ∃ S1 : ByteArray, Hid (⟨([dgt N] : List UInt8).toArray⟩ = S1) ∧ (convert 64 9 (.slice (some ⟨wx.heap.size, 0, none⟩) 1 1)).run Try.prog (wx.alloc (Obj.cells #[.int .u8 (48 + R)] 5)) = .ok (.string S1) (wx.alloc (Obj.cells #[.int .u8 (48 + R)] 5)) := by
          refine ⟨_, rfl, ?_⟩
          refine run_convert_bytes_back _ 64 9 5 _ _ [dgt N] Try.underlying64 Try.underlying5 Try.underlying9 (fun j hj => ?_)
          have hj0 : j = 0 := by simpa using hj
          subst hj0
          have hb := Blk.cell (Blk.new wx 5 #[.int .u8 (48 + R)]) 0
          have ea : (⟨wx.heap.size, 0, none⟩ : Addr).add 0 = ⟨wx.heap.size, 0, none⟩ := by unfold Addr.add; split <;> simp_all
          rw [ea, hb, hd]
          rfl
        obtain ⟨S2, hS2, had⟩ : ∃ S2 : ByteArray, Hid (⟨(dgt N :: s).toArray⟩ = S2) ∧ ∀ w, (Op.stringOp .add S1 S).run Try.prog w = .ok (.string S2) w := by
          refine ⟨_, rfl, fun w => ?_⟩
          rw [← hS1.out, hS.out, add_str [dgt N] s (by simp; omega) w]
          rfl
        have hA1 := Blk.alloc hA (Obj.cells #[.int .u8 (48 + R)] 5)
        have hB1 := Below.al hB (Obj.cells #[.int .u8 (48 + R)] 5)
        have HA1 := Lib.hid hA1
        have HB1 := Lib.hid hB1
        clear hd hA1 hB1 hA hB hR2
        by_cases hz3 : N / 10 = 0
        · obtain rfl : z = true := by rw [hz2]; simpa using hz3
          have hres : decF 39 N0 [] = dgt N :: s := by rw [← hdec.out, decF, if_pos hz3]
          obtain ⟨S3, hS3, had3⟩ : ∃ S3 : ByteArray, Hid (⟨(txt a).toArray⟩ = S3) ∧ ∀ w, (Op.stringOp .add ⟨#[45]⟩ S2).run Try.prog w = .ok (.string S3) w := by
            refine ⟨_, rfl, fun w => ?_⟩
            rw [← hS2.out, HTX.out, hres]
            exact add_str [45] (dgt N :: s) (by simp; omega) w
          have HS3 := Lib.hid hS3
          clear hres hz3 hz2
          go_wp2_with (first | simp only [hcv] | simp only [had] | simp only [had3])
          go_ret
          exact ⟨by rw [← hS3.out] <;> rfl, HB1.out⟩
        · obtain rfl : z = false := by rw [hz2]; simpa using hz3
          have hres : decF m (N / 10) (dgt N :: s) = decF 39 N0 [] := by rw [← hdec.out, decF, if_neg hz3]
          have hNn := HN.out
          have hlt' : N / 10 < 10 ^ m := by rw [Nat.pow_succ] at hNn; omega
          have hm1 : 1 ≤ m := by
            rcases Nat.eq_zero_or_pos m with h | h
            · subst h; simp at hlt'; omega
            · exact h
          have HRES := Lib.hid hres
          have HLT := Lib.hid hlt'
          clear hres hlt' hNn hz3 hz2
          go_wp2_with (first | simp only [hcv] | simp only [had])
          go_roundg m
          case measure => omega
          case rel => exact ⟨N / 10, dgt N :: s, S2, hm1, by omega, HLT.out, by simp; omega, rfl, hS2.out.symm, HRES.out, HA1.out, HB1.out⟩

theorem text20 (a : Int) (w : World) (ha : In128 a) : Calls Try.prog 20 #[sumV a] w fun e w' => e = .returned (.string ⟨(txt a).toArray⟩) ∧ Below w.heap.size w w' := by
  by_cases h : a < 0
  · exact text20_neg a w ha h
  · exact text20_pos a w ha h
end Go.Proofs.Ytlhncphnhgbclaa
