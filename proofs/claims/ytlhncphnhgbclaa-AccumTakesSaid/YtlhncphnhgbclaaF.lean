/- math/bits.Div64 by ten. -/
import Derived.Test.YtlhncphnhgbclaaE
import Derived.Laws.Bits64
import Derived.Laws.Bits64b
namespace Go.Proofs.Ytlhncphnhgbclaa
open Go.RowKit
set_option linter.unusedVariables false
set_option linter.unusedSimpArgs false

set_option maxRecDepth 100000 in
theorem len48 (w : World) : Calls Try.prog 48 #[.int .u64 10] w fun e w' => e = .returned (.int .i64 4) ∧ w = w' := by
  go_enter Try.func48, Try.ntmps48
  go_wp2_with fail
  go_ret
  refine ⟨?_, rfl⟩
  kernel_rfl
theorem lz46 (w : World) : Calls Try.prog 46 #[.int .u64 10] w fun e w' => e = .returned (.int .i64 60) ∧ w = w' := by
  go_enter Try.func46, Try.ntmps46
  go_wp2_with fail
  refine (len48 _).mono ?_
  rintro e w1 ⟨rfl, rfl⟩
  go_wp2_with fail
  go_ret
  exact ⟨rfl, rfl⟩

theorem div38_0 (lo : Int) (w : World) (h0 : 0 ≤ lo) (h1 : lo < 18446744073709551616) :
    Calls Try.prog 38 #[.int .u64 0, .int .u64 lo, .int .u64 10] w fun e w' => e = .returned (.tuple #[.int .u64 (lo / 10), .int .u64 (lo % 10)]) ∧ ∃ n, w' = w.drewN n := by
  go_enter Try.func38, Try.ntmps38
  go_wp2_with fail
  go_region
  go_wp2_with fail
  go_ret2
  exact ⟨rfl, 1, rfl⟩

theorem or_hi (hi x : Int) (h2 : 0 ≤ hi) (h3 : hi < 16) (h0 : 0 ≤ x) (h1 : x < 1152921504606846976) : bits .or .u64 (hi * 1152921504606846976) x = hi * 1152921504606846976 + x := by
  obtain ⟨h, rfl⟩ := Int.eq_ofNat_of_zero_le h2
  obtain ⟨y, rfl⟩ := Int.eq_ofNat_of_zero_le h0
  have e : (h : Int) * 1152921504606846976 = ((2 ^ 60 * h : Nat) : Int) := by omega
  rw [e, bits_or_u64_nat _ _ (by omega) (by omega), ← Nat.two_pow_add_eq_or_of_lt (by omega)]
  omega
theorem and_lo (r : Int) (h2 : 0 ≤ r) (h3 : r < 16) : bits .and .u64 (r * 1152921504606846976) 4294967295 = 0 := by
  obtain ⟨h, rfl⟩ := Int.eq_ofNat_of_zero_le h2
  have e : (h : Int) * 1152921504606846976 = ((2 ^ 60 * h : Nat) : Int) := by omega
  have e2 : (4294967295 : Int) = ((2 ^ 32 - 1 : Nat) : Int) := by decide
  rw [e, e2, bits_and_u64_nat _ _ (by omega) (by decide), Nat.and_two_pow_sub_one_eq_mod]
  omega

theorem div_arith (hi lo U r q s V p s2 : Int) (hU : hi * 1152921504606846976 + lo / 16 = U) (hr : lo % 16 = r) (hs : U - q * 2684354560 = s) (hV : 4294967296 * s + r * 268435456 = V) (hs2 : V - p * 2684354560 = s2) (s0 : 0 ≤ s2 ∧ s2 < 2684354560) (h0 : 0 ≤ lo) :
    (hi * 18446744073709551616 + lo) / 10 = q * 4294967296 + p ∧ (hi * 18446744073709551616 + lo) % 10 = s2 * 4294967296 / 1152921504606846976 := by
  have e1 : hi * 18446744073709551616 + lo = 16 * U + r := by omega
  rw [e1]
  clear hU hr e1 h0
  subst hs
  subst hV
  subst hs2
  omega

set_option maxRecDepth 100000 in
set_option maxHeartbeats 4000000 in
theorem div38_n (hi lo : Int) (w : World) (h0 : 0 ≤ lo) (h1 : lo < 18446744073709551616) (h2 : 0 < hi) (h3 : hi < 10) :
    Calls Try.prog 38 #[.int .u64 hi, .int .u64 lo, .int .u64 10] w fun e w' => e = .returned (.tuple #[.int .u64 ((hi * 18446744073709551616 + lo) / 10), .int .u64 ((hi * 18446744073709551616 + lo) % 10)]) ∧ ∃ n, w' = w.drewN n := by
  have d1 : decide ((10 : Int) ≤ hi) = false := by simpa using h3
  have d2 : (hi == 0) = false := by simp; omega
  have a1 : bits .and .u64 11529215046068469760 4294967295 = 0 := by kernel_rfl
  obtain ⟨U, hU, a2⟩ : ∃ U, Hid (hi * 1152921504606846976 + lo / 16 = U) ∧ bits .or .u64 (hi * 1152921504606846976) (lo / 16) = U := ⟨_, rfl, or_hi hi (lo / 16) (by omega) (by omega) (by omega) (by omega)⟩
  obtain ⟨r, hr, a3⟩ : ∃ r, Hid (lo % 16 = r) ∧ IntKind.u64.wrap (lo * 1152921504606846976) = r * 1152921504606846976 := ⟨_, rfl, by rw [IntKind.wrap_u64]; omega⟩
  have r0 : 0 ≤ r ∧ r < 16 := by have := hr.out; omega
  have a4 := and_lo r r0.1 r0.2
  have a5 : r * 1152921504606846976 / 4294967296 = r * 268435456 := by omega
  have u0 : 0 ≤ U ∧ U < 11529215046068469760 := by have := hU.out; omega
  obtain ⟨q, hq, b1⟩ : ∃ q, Hid (U / 2684354560 = q) ∧ U / 2684354560 = q := ⟨_, rfl, rfl⟩
  have q0 : 0 ≤ q ∧ q < 4294967296 := by have := hq.out; omega
  have b2 : IntKind.u64.wrap (q * 2684354560) = q * 2684354560 := by rw [IntKind.wrap_u64]; have := hq.out; omega
  obtain ⟨s, hs, b3⟩ : ∃ s, Hid (U - q * 2684354560 = s) ∧ U - q * 2684354560 = s := ⟨_, rfl, rfl⟩
  have s0 : 0 ≤ s ∧ s < 2684354560 := by have := hs.out; have := hq.out; omega
  have d3 : decide (4294967296 ≤ q) = false := by simp; omega
  go_enter Try.func38, Try.ntmps38
  go_wp2_with fail
  refine (lz46 _).mono ?_
  rintro e w1 ⟨rfl, rfl⟩
  go_upto_region 17 with (fail)
  rw [b1]
  have V0 : 0 ≤ 4294967296 * s + r * 268435456 ∧ 4294967296 * s + r * 268435456 < 11529215046068469760 := by omega
  have c1 : IntKind.u64.wrap (4294967296 * s) = 4294967296 * s := by rw [IntKind.wrap_u64]; omega
  obtain ⟨V, hV, c2⟩ : ∃ V, Hid (4294967296 * s + r * 268435456 = V) ∧ 4294967296 * s + r * 268435456 = V := ⟨_, rfl, rfl⟩
  rw [c2] at V0
  have c3 : IntKind.u64.wrap V = V := by rw [IntKind.wrap_u64]; omega
  have d4 : decide (V < 0) = false := by simp; omega
  obtain ⟨X1, hX1, c4⟩ : ∃ X, Hid (U * 4294967296 % 18446744073709551616 = X) ∧ IntKind.u64.wrap (U * 4294967296) = X := ⟨_, rfl, by rw [IntKind.wrap_u64]⟩
  obtain ⟨X2, hX2, c5⟩ : ∃ X, Hid ((X1 + r * 268435456) % 18446744073709551616 = X) ∧ IntKind.u64.wrap (X1 + r * 268435456) = X := ⟨_, rfl, by rw [IntKind.wrap_u64]⟩
  obtain ⟨X3, hX3, c6⟩ : ∃ X, Hid (q * 11529215046068469760 % 18446744073709551616 = X) ∧ IntKind.u64.wrap (q * 11529215046068469760) = X := ⟨_, rfl, by rw [IntKind.wrap_u64]⟩
  have c7 : IntKind.u64.wrap (X2 - X3) = V := by
    have g1 := hX1.out
    have g2 := hX2.out
    have g3 := hX3.out
    have g4 := hs.out
    rw [IntKind.wrap_u64]; omega
  obtain ⟨p, hp, c8⟩ : ∃ p, Hid (V / 2684354560 = p) ∧ V / 2684354560 = p := ⟨_, rfl, rfl⟩
  have p0 : 0 ≤ p ∧ p < 4294967296 := by have := hp.out; omega
  have c9 : IntKind.u64.wrap (p * 2684354560) = p * 2684354560 := by rw [IntKind.wrap_u64]; have := hp.out; omega
  obtain ⟨s2, hs2, c10⟩ : ∃ s, Hid (V - p * 2684354560 = s) ∧ V - p * 2684354560 = s := ⟨_, rfl, rfl⟩
  have s20 : 0 ≤ s2 ∧ s2 < 2684354560 := by have := hs2.out; have := hp.out; omega
  have d5 : decide (4294967296 ≤ p) = false := by simp; omega
  have c11 : IntKind.u64.wrap (4294967296 * s2) = 4294967296 * s2 := by rw [IntKind.wrap_u64]; omega
  have d6 : decide (4294967296 * s2 < 0) = false := by simp; omega
  clear b1 b2 b3 c3
  go_loopw [15, 16] (fun a b wr => a = .int .u64 q ∧ b = .int .u64 s ∧ wr = w) (fun _ _ _ => 0)
  case atStart => exact ⟨rfl, rfl, rfl⟩
  case round =>
    obtain ⟨rfl, rfl, rfl⟩ := hrel
    go_wp2_with fail
    rw [c8]
    go_loopw [18, 16] (fun a b wq => a = .int .u64 p ∧ b = .int .u64 s2 ∧ wq = wr) (fun _ _ _ => 0)
    case atStart => exact ⟨rfl, rfl, rfl⟩
    case round =>
      obtain ⟨rfl, rfl, rfl⟩ := hrel
      go_upto_region 28 with (fail)
      have hN := div_arith hi lo U r q s V p s2 hU.out hr.out hs.out hV.out hs2.out s20 h0
      obtain ⟨Q, hQ, g1⟩ : ∃ Q, Hid ((hi * 18446744073709551616 + lo) / 10 = Q) ∧ IntKind.u64.wrap (q * 4294967296 + p) = Q := ⟨_, rfl, by rw [IntKind.wrap_u64, hN.1]; omega⟩
      have g2 : IntKind.u64.wrap (q * 4294967296) = q * 4294967296 := by rw [IntKind.wrap_u64]; omega
      obtain ⟨Y1, hY1, g3⟩ : ∃ X, Hid (V * 4294967296 % 18446744073709551616 = X) ∧ IntKind.u64.wrap (V * 4294967296) = X := ⟨_, rfl, by rw [IntKind.wrap_u64]⟩
      obtain ⟨Y3, hY3, g4⟩ : ∃ X, Hid (p * 11529215046068469760 % 18446744073709551616 = X) ∧ IntKind.u64.wrap (p * 11529215046068469760) = X := ⟨_, rfl, by rw [IntKind.wrap_u64]⟩
      have g6 : IntKind.u64.wrap Y1 = Y1 := by rw [IntKind.wrap_u64]; have := hY1.out; omega
      have g5 : IntKind.u64.wrap (Y1 - Y3) = s2 * 4294967296 := by
        have k1 := hY1.out
        have k2 := hY3.out
        have k3 := hs2.out
        rw [IntKind.wrap_u64]; omega
      obtain ⟨R, hR, g7⟩ : ∃ R, Hid ((hi * 18446744073709551616 + lo) % 10 = R) ∧ s2 * 4294967296 / 1152921504606846976 = R := ⟨_, rfl, hN.2.symm⟩
      clear hN c4 c5 c6 c7
      go_wp2_with fail
      go_ret2
      exact ⟨by rw [hQ.out, hR.out]; rfl, 0, rfl⟩

theorem div38 (hi lo : Int) (w : World) (h0 : 0 ≤ lo) (h1 : lo < 18446744073709551616) (h2 : 0 ≤ hi) (h3 : hi < 10) :
    Calls Try.prog 38 #[.int .u64 hi, .int .u64 lo, .int .u64 10] w fun e w' => e = .returned (.tuple #[.int .u64 ((hi * 18446744073709551616 + lo) / 10), .int .u64 ((hi * 18446744073709551616 + lo) % 10)]) ∧ ∃ n, w' = w.drewN n := by
  by_cases h : hi = 0
  · subst h
    rw [Int.zero_mul, Int.zero_add]
    exact div38_0 lo w h0 h1
  · exact div38_n hi lo w h0 h1 (by omega) h3
end Go.Proofs.Ytlhncphnhgbclaa
