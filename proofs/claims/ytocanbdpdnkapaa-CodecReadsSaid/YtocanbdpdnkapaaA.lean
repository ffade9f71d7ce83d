/- The check: plain words; the reference's Sum. -/
import Derived.Test.YtocanbdpdnkapaaRows
import Derived.Test.YtocanbdpdnkapaaBase15
import Derived.Laws.BitsAllLaws
namespace Go.Proofs.Ytocanbdpdnkapaa
open Go.RowKit
set_option linter.unusedVariables false
set_option linter.unusedSimpArgs false

/-- one turn of the check -/
def stepC (c : Nat) : Nat := (c / 2) ^^^ (if c % 2 = 1 then 3988292384 else 0)
def stepN : Nat → Nat → Nat
  | 0, c => c
  | n + 1, c => stepC (stepN n c)
theorem stepC_lt {c : Nat} (h : c < 4294967296) : stepC c < 4294967296 := by
  unfold stepC
  refine Nat.xor_lt_two_pow (n := 32) (by omega) ?_
  split <;> decide
theorem stepN_lt (n : Nat) {c : Nat} (h : c < 4294967296) : stepN n c < 4294967296 := by
  induction n with
  | zero => exact h
  | succ n ih => exact stepC_lt ih
def byteC (c b : Nat) : Nat := stepN 8 (c ^^^ b)
/-- the check of k bytes -/
def crcTo (s : ByteArray) (k : Nat) : Nat := (s.data.toList.take k).foldl (fun c b => byteC c b.toNat) 4294967295
def crc (s : ByteArray) : Nat := crcTo s s.size ^^^ 4294967295
theorem take_snoc (s : ByteArray) (k : Nat) (h : k < s.size) : s.data.toList.take (k + 1) = s.data.toList.take k ++ [s[k]] := by
  rw [List.take_succ_eq_append_getElem (by simpa using h)]; rfl
theorem crcTo_step (s : ByteArray) (k : Nat) (h : k < s.size) : crcTo s (k + 1) = byteC (crcTo s k) s[k].toNat := by
  unfold crcTo
  rw [take_snoc s k h, List.foldl_append]
  rfl
theorem byte_lt (b : UInt8) : b.toNat < 256 := b.toNat_lt
theorem xor_lt32 {a b : Nat} (ha : a < 4294967296) (hb : b < 4294967296) : a ^^^ b < 4294967296 := Nat.xor_lt_two_pow (n := 32) ha hb
theorem crcTo_lt (s : ByteArray) (k : Nat) : crcTo s k < 4294967296 := by
  unfold crcTo
  have : ∀ (l : List UInt8) (c : Nat), c < 4294967296 → l.foldl (fun c b => byteC c b.toNat) c < 4294967296 := by
    intro l
    induction l with
    | nil => intro c h; exact h
    | cons x r ih => intro c h; exact ih _ (stepN_lt 8 (xor_lt32 h (by have := byte_lt x; omega)))
  exact this _ _ (by omega)
theorem crc_lt (s : ByteArray) : crc s < 4294967296 := xor_lt32 (crcTo_lt s _) (by omega)

theorem stepC_even (x y : Nat) (hy : y % 2 = 0) : stepC (x ^^^ y) = stepC x ^^^ (y / 2) := by
  unfold stepC
  have h1 : (x ^^^ y) % 2 = x % 2 := by
    have := Nat.xor_mod_two_eq_one (a := x) (b := y)
    omega
  rw [h1, Nat.xor_div_two]
  rw [Nat.xor_assoc, Nat.xor_assoc, Nat.xor_comm (y / 2)]
theorem stepN_even (n : Nat) (x y : Nat) (hy : y % 2 ^ n = 0) : stepN n (x ^^^ y) = stepN n x ^^^ (y / 2 ^ n) := by
  induction n with
  | zero => simp [stepN]
  | succ n ih =>
    have h1 : y % 2 ^ n = 0 := Nat.mod_eq_zero_of_dvd (Nat.dvd_trans (Nat.pow_dvd_pow 2 (Nat.le_succ n)) (Nat.dvd_of_mod_eq_zero hy))
    have h2 : y / 2 ^ n % 2 = 0 := by
      obtain ⟨q, hq⟩ := Nat.dvd_of_mod_eq_zero hy
      rw [hq, Nat.pow_succ, Nat.mul_assoc, Nat.mul_div_cancel_left _ (Nat.two_pow_pos n)]
      omega
    show stepC (stepN n (x ^^^ y)) = stepC (stepN n x) ^^^ (y / 2 ^ (n + 1))
    rw [ih h1, stepC_even _ _ h2, Nat.div_div_eq_div_mul, Nat.pow_succ]
theorem split_byte (c : Nat) : c = (c % 256) ^^^ (c / 256 * 256) := by
  apply Nat.eq_of_testBit_eq
  intro i
  rw [Nat.testBit_xor, show (256 : Nat) = 2 ^ 8 from rfl, Nat.testBit_mod_two_pow, Nat.testBit_mul_two_pow, Nat.testBit_div_two_pow]
  by_cases h : i < 8
  · simp [h, show ¬ 8 ≤ i by omega]
  · simp [h, show 8 ≤ i by omega, show i - 8 + 8 = i by omega]
/-- by the table -/
def tabC (i : Nat) : Nat := stepN 8 i
theorem byteC_tab (c b : Nat) : byteC c b = tabC ((c % 256) ^^^ b) ^^^ (c / 256) := by
  unfold byteC tabC
  have e : c ^^^ b = ((c % 256) ^^^ b) ^^^ (c / 256 * 256) := by
    conv => lhs; rw [split_byte c]
    rw [Nat.xor_assoc, Nat.xor_assoc, Nat.xor_comm _ b]
  rw [e, stepN_even 8 _ _ (by simp)]
  simp
theorem tabC_lt {i : Nat} (h : i < 256) : tabC i < 4294967296 := stepN_lt 8 (by omega)

set_option maxHeartbeats 4000000 in
theorem sum11 (s : ByteArray) (w : World) (hs : s.size ≤ 140737488351232) : Calls Try.prog 11 #[.string s] w fun e w' => e = .returned (.int .u32 (crc s : Nat)) ∧ w = w' := by
  go_enter Try.func11, Try.ntmps11
  go_wp2
  go_loop [3, 4] (fun c i => ∃ k : Nat, k ≤ s.size ∧ i = .int .i64 k ∧ c = .int .u32 (crcTo s k : Nat)) (fun _ i => s.size - (intOf i).toNat)
  case atStart => exact ⟨0, by omega, rfl, rfl⟩
  case round =>
    obtain ⟨k, hk, rfl, rfl⟩ := hrel
    have hc := crcTo_lt s k
    by_cases hlt : k < s.size
    · have hst := crcTo_step s k hlt
      have hb := byte_lt s[k]
      obtain ⟨c, hce⟩ : ∃ c, crcTo s k = c := ⟨_, rfl⟩
      rw [hce] at hst hc ⊢
      have hx := u32_xor_nat c s[k].toNat hc (by omega)
      unfold byteC at hst
      obtain ⟨x, hxe⟩ : ∃ x, c ^^^ s[k].toNat = x := ⟨_, rfl⟩
      have hxl : x < 4294967296 := by rw [← hxe]; exact xor_lt32 hc (by omega)
      rw [hxe] at hst hx
      have HST := Lib.hid hst
      clear hst hce hxe
      go_wp2
      go_loop [3, 5] (fun c i => ∃ m : Nat, m ≤ 8 ∧ i = .int .i64 m ∧ c = .int .u32 (stepN m x : Nat)) (fun _ i => 8 - (intOf i).toNat)
      case atStart => exact ⟨0, by omega, rfl, rfl⟩
      case round =>
        obtain ⟨m, hm, rfl, rfl⟩ := hrel
        have hl := stepN_lt m hxl
        by_cases hm8 : m < 8
        · have hs2 : stepN (m + 1) x = stepC (stepN m x) := rfl
          obtain ⟨y, hy⟩ : ∃ y, stepN m x = y := ⟨_, rfl⟩
          rw [hy] at hs2 hl ⊢
          unfold stepC at hs2
          by_cases ho : y % 2 = 1
          · rw [if_pos ho] at hs2
            have ha : bits .and .u32 (y : Int) 1 = 1 := by
              have := u32_and_nat y 1 hl (by omega)
              rw [Nat.and_one_is_mod, ho] at this
              exact this
            have hz : bits .xor .u32 ((y : Int) / 2) 3988292384 = ((y / 2 ^^^ 3988292384 : Nat) : Int) := u32_xor_nat (y / 2) 3988292384 (by omega) (by omega)
            obtain ⟨z, hz2⟩ : ∃ z, y / 2 ^^^ 3988292384 = z := ⟨_, rfl⟩
            rw [hz2] at hs2 hz
            have HS := Lib.hid hs2
            clear hs2 hz2 ho
            go_wp2
            go_round
            case rel => exact ⟨m + 1, by omega, by go_num, by rw [HS.out]⟩
            case measure => simp [intOf]; omega
          · rw [if_neg ho, Nat.xor_zero] at hs2
            have ha : bits .and .u32 (y : Int) 1 = 0 := by
              have := u32_and_nat y 1 hl (by omega)
              rw [Nat.and_one_is_mod, show y % 2 = 0 by omega] at this
              exact this
            have HS := Lib.hid hs2
            clear hs2 ho
            go_wp2
            go_round
            case rel => exact ⟨m + 1, by omega, by go_num, by rw [HS.out]; rfl⟩
            case measure => simp [intOf]; omega
        · obtain rfl : m = 8 := by omega
          go_wp2
          go_round
          case rel => exact ⟨k + 1, by omega, by go_num, by rw [HST.out]⟩
          case measure => simp [intOf]; omega
    · obtain rfl : k = s.size := by omega
      have hx : bits .xor .u32 ((crcTo s s.size : Nat) : Int) 4294967295 = ((crc s : Nat) : Int) := u32_xor_nat (crcTo s s.size) 4294967295 hc (by omega)
      go_wp2
      go_ret
      exact ⟨rfl, rfl⟩
end Go.Proofs.Ytocanbdpdnkapaa
