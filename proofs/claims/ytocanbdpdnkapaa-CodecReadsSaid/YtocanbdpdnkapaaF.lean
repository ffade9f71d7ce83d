/- Bytes as numbers, the lowest first: number, of. -/
import Derived.Test.YtocanbdpdnkapaaE
import Derived.Laws.Bits64b
namespace Go.Proofs.Ytocanbdpdnkapaa
open Go.RowKit
set_option linter.unusedVariables false
set_option linter.unusedSimpArgs false

/-- the number of bytes, the lowest first -/
def deL : List UInt8 → Nat
  | [] => 0
  | b :: r => b.toNat + 256 * deL r
def deS (s : ByteArray) : Nat := deL s.data.toList
theorem deL_lt (l : List UInt8) : deL l < 256 ^ l.length := by
  induction l with
  | nil => simp [deL]
  | cons b r ih =>
    have hb := byte_lt b
    simp only [deL, List.length_cons, Nat.pow_succ]
    omega
theorem deL_snoc (l : List UInt8) (b : UInt8) : deL (l ++ [b]) = deL l + b.toNat * 256 ^ l.length := by
  induction l with
  | nil => simp [deL]
  | cons x r ih =>
    simp only [List.cons_append, deL, ih, List.length_cons, Nat.pow_succ]
    rw [Nat.mul_add, ← Nat.mul_assoc 256, Nat.mul_comm 256 b.toNat, Nat.mul_assoc b.toNat, Nat.mul_comm 256 (256 ^ r.length)]
    omega
def deTo (s : ByteArray) (k : Nat) : Nat := deL (s.data.toList.take k)
theorem deTo_step (s : ByteArray) (k : Nat) (h : k < s.size) : deTo s (k + 1) = deTo s k + s[k].toNat * 256 ^ k := by
  unfold deTo
  rw [take_snoc s k h, deL_snoc, List.length_take]
  have : s.data.toList.length = s.size := by rw [Array.length_toList]; rfl
  rw [Nat.min_eq_left (by omega)]
theorem deTo_lt (s : ByteArray) (k : Nat) : deTo s k < 256 ^ k := by
  unfold deTo
  refine Nat.lt_of_lt_of_le (deL_lt _) (Nat.pow_le_pow_right (by omega) (List.length_take_le _ _))
theorem pow256_le {k : Nat} (h : k ≤ 8) : 256 ^ k ≤ 18446744073709551616 := by
  have : 256 ^ k ≤ 256 ^ 8 := Nat.pow_le_pow_right (by omega) h
  omega
theorem or_add (a b k : Nat) (ha : a < 256 ^ k) : a ||| b * 256 ^ k = a + b * 256 ^ k := by
  have e : (256 : Nat) ^ k = 2 ^ (8 * k) := by rw [Nat.pow_mul]
  rw [e] at ha ⊢
  rw [Nat.or_comm, Nat.mul_comm, ← Nat.two_pow_add_eq_or_of_lt ha]
  omega
theorem step_lt {a b k : Nat} (ha : a < 256 ^ k) (hb : b < 256) : a + b * 256 ^ k < 256 ^ (k + 1) := by
  rw [Nat.pow_succ]
  have : b * 256 ^ k + 256 ^ k ≤ 256 * 256 ^ k := by
    have : (b + 1) * 256 ^ k ≤ 256 * 256 ^ k := Nat.mul_le_mul_right _ hb
    rw [Nat.add_mul, Nat.one_mul] at this
    exact this
  omega

set_option maxRecDepth 100000 in
set_option maxHeartbeats 4000000 in
theorem number40 (s : ByteArray) (w : World) (hs : s.size ≤ 8) : Calls Try.prog 40 #[.string s] w fun e w' => e = .returned (.int .u64 (deS s : Nat)) ∧ w = w' := by
  go_enter Try.func40, Try.ntmps40
  go_wp2_with fail
  go_loop [3, 7] (fun n i => ∃ k : Nat, k ≤ s.size ∧ i = .int .i64 k ∧ n = .int .u64 (deTo s k : Nat)) (fun _ i => s.size - (intOf i).toNat)
  case atStart => exact ⟨0, by omega, rfl, rfl⟩
  case round =>
    obtain ⟨k, hk, rfl, rfl⟩ := hrel
    by_cases hlt : k < s.size
    · have hst := deTo_step s k hlt
      have hb := byte_lt s[k]
      have ha := deTo_lt s k
      have h1 := step_lt ha hb
      have h2 := pow256_le (k := k + 1) (by omega)
      have hor := or_add (deTo s k) s[k].toNat k ha
      obtain ⟨p, hp⟩ : ∃ p, 256 ^ k = p := ⟨_, rfl⟩
      obtain ⟨n, hne⟩ : ∃ n, deTo s k = n := ⟨_, rfl⟩
      obtain ⟨q, hq⟩ : ∃ q, s[k].toNat * 256 ^ k = q := ⟨_, rfl⟩
      rw [hne] at hst ha h1 hor ⊢
      rw [hq] at hst h1 hor
      have hbits := bits_or_u64_nat n q (by omega) (by omega)
      rw [hor] at hbits
      have hsh : IntKind.u64.wrap ((s[k].toNat : Int) * 2 ^ (8 * k)) = (q : Int) := by
        rw [pow256, ← Int.natCast_mul, hq, IntKind.wrap_u64]
        omega
      have HST := Lib.hid hst
      have hkI : (k : Int) < s.size := by omega
      clear hst hor h1 h2 ha hne hq hp
      go_wp2_with fail
      go_round
      case rel => exact ⟨k + 1, by omega, by go_num, by rw [HST.out]; go_num⟩
      case measure => simp [intOf]; omega
    · obtain rfl : k = s.size := by omega
      have he : deTo s s.size = deS s := by
        unfold deTo deS
        rw [List.take_of_length_le (by rw [Array.length_toList]; exact Nat.le_refl _)]
      rw [he]
      go_wp2_with fail
      go_ret
      exact ⟨rfl, rfl⟩

def deFrom (s : ByteArray) (k : Nat) : Nat := deL (s.data.toList.drop k)
theorem deFrom_step (s : ByteArray) (k : Nat) (h : k < s.size) : deFrom s k = deFrom s (k + 1) * 256 + s[k].toNat := by
  unfold deFrom
  rw [List.drop_eq_getElem_cons (by rw [Array.length_toList]; exact h)]
  show s[k].toNat + 256 * _ = _
  omega
theorem deFrom_lt (s : ByteArray) (k : Nat) : deFrom s k < 256 ^ (s.size - k) := by
  unfold deFrom
  have h := deL_lt (s.data.toList.drop k)
  rw [List.length_drop, Array.length_toList] at h
  exact h

set_option maxRecDepth 100000 in
set_option maxHeartbeats 4000000 in
theorem of41 (s : ByteArray) (w : World) (hs : s.size ≤ 8) : Calls Try.prog 41 #[.string s] w fun e w' => e = .returned (.int .u64 (deS s : Nat)) ∧ w = w' := by
  go_enter Try.func41, Try.ntmps41
  go_wp2_with fail
  go_loop [3, 4] (fun n i => ∃ k : Nat, k ≤ s.size ∧ i = .int .i64 ((k : Int) - 1) ∧ n = .int .u64 (deFrom s k : Nat)) (fun _ i => (intOf i + 1).toNat)
  case atStart => exact ⟨s.size, by omega, rfl, by unfold deFrom; rw [List.drop_of_length_le (by rw [Array.length_toList]; exact Nat.le_refl _)]; rfl⟩
  case round =>
    obtain ⟨k, hk, rfl, rfl⟩ := hrel
    cases k with
    | zero =>
      have e0 : ((0 : Nat) : Int) - 1 = -1 := by omega
      rw [e0]
      have he : deFrom s 0 = deS s := rfl
      rw [he]
      go_wp2_with fail
      go_ret
      exact ⟨rfl, rfl⟩
    | succ k =>
      have ek : ((k + 1 : Nat) : Int) - 1 = k := by omega
      rw [ek]
      have hst := deFrom_step s k (by omega)
      have hb := byte_lt s[k]
      have ha := deFrom_lt s (k + 1)
      have h1 := deFrom_lt s k
      have h2 := pow256_le (k := s.size - k) (by omega)
      obtain ⟨n, hne⟩ : ∃ n, deFrom s (k + 1) = n := ⟨_, rfl⟩
      rw [hne] at hst ha ⊢
      have h3 : n * 256 + s[k].toNat < 18446744073709551616 := by rw [← hst]; omega
      have HST := Lib.hid (And.intro hst ek)
      have hkI : (k : Int) < s.size := by omega
      have hk0 : (0 : Int) ≤ k := by omega
      have h4 : (n : Int) * 256 + (s[k].toNat : Int) < 18446744073709551616 := by omega
      have h5 : (n : Int) * 256 < 18446744073709551616 := by omega
      clear hst ha h1 h2 hne ek
      go_wp2_with fail
      go_round
      case rel => exact ⟨k, by omega, by go_num, by rw [HST.out.1]; go_num⟩
      case measure => simp [intOf]
end Go.Proofs.Ytocanbdpdnkapaa
