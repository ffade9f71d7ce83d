/- Sets of dimensions: the reference's small functions, Of, List. -/
import Derived.Test.YtbcnmkdlaoaoeaaRows
import Derived.Test.YtbcnmkdlaoaoeaaBase11
import Derived.Deep.DeepCutAuto
namespace Go.Proofs.Ytbcnmkdlaoaoeaa
open Go.RowKit
set_option linter.unusedVariables false
set_option linter.unusedSimpArgs false

theorem pow6 {k : Nat} (h : k ≤ 6) : 1 ≤ 2 ^ k ∧ 2 ^ k ≤ 64 := by
  match k, h with
  | 0, _ | 1, _ | 2, _ | 3, _ | 4, _ | 5, _ | 6, _ => decide

theorem bit31 (k : Nat) (w : World) (hk : k < 6) : Calls Try.prog 31 #[.int .i64 k] w fun e w' => e = .returned (.int .i64 ((2 ^ k : Nat) : Int)) ∧ w = w' := by
  go_enter Try.func31, Try.ntmps31
  go_wp2
  go_loop [3, 4] (fun n i => ∃ m : Nat, m ≤ k ∧ i = .int .i64 m ∧ n = .int .i64 ((2 ^ m : Nat) : Int)) (fun _ i => k - (intOf i).toNat)
  case atStart => exact ⟨0, by omega, rfl, rfl⟩
  case round =>
    obtain ⟨m, hm, rfl, rfl⟩ := hrel
    obtain ⟨x, hx⟩ : ∃ x, 2 ^ m = x := ⟨_, rfl⟩
    have h6 := pow6 (k := m) (by omega)
    have hs : 2 ^ (m + 1) = x * 2 := by rw [Nat.pow_succ, hx]
    rw [hx] at h6 ⊢
    have HS := Lib.hid hs
    have HX := Lib.hid hx
    clear hs hx
    by_cases hlt : m < k
    · have hI : (m : Int) < k := by omega
      have hx2 : (x : Int) ≤ 64 := by omega
      go_wp2
      go_round
      case rel => exact ⟨m + 1, by omega, by go_num, by rw [HS.out]; go_num⟩
      case measure => simp [intOf]; omega
    · have : m = k := by omega
      subst this
      go_wp2
      go_ret
      exact ⟨ret_int (congrArg (fun n : Nat => (n : Int)) HX.out.symm), rfl⟩

/-- is a dimension in a set? -/
def hasB (set : Int) (k : Nat) : Bool := decide ((set.tdiv ((2 ^ k : Nat) : Int)).tmod 2 = 1)
theorem has29 (set : Int) (k : Nat) (w : World) (hk : k < 6) (hs : -9223372036854775808 ≤ set ∧ set ≤ 9223372036854775807) :
    Calls Try.prog 29 #[.int .i64 set, .int .i64 k] w fun e w' => e = .returned (.bool (hasB set k)) ∧ w = w' := by
  unfold hasB
  have h6 := pow6 (k := k) (by omega)
  have hc := bit31 k w hk
  obtain ⟨x, hx⟩ : ∃ x, 2 ^ k = x := ⟨_, rfl⟩
  rw [hx] at h6 hc ⊢
  have HC := Lib.hid hc
  clear hc hx
  have hx0 : ((x : Int) == 0) = false := by simp; omega
  have hq : -9223372036854775808 ≤ set.tdiv (x : Int) ∧ set.tdiv (x : Int) ≤ 9223372036854775807 := by
    have h3 : (set.tdiv (x : Int)).natAbs ≤ set.natAbs := by rw [Int.natAbs_tdiv]; exact Nat.div_le_self _ _
    have h4 : set ≠ -9223372036854775808 ∨ set = -9223372036854775808 := by omega
    have h5 : 0 < set → 0 ≤ set.tdiv (x : Int) := fun h => Int.tdiv_nonneg (by omega) (by omega)
    have h7 : set < 0 → set.tdiv (x : Int) ≤ 0 := fun h => by have := Int.neg_tdiv set (x : Int); have := Int.tdiv_nonneg (show 0 ≤ -set by omega) (show (0 : Int) ≤ x by omega); omega
    omega
  have hw := w64 hq
  go_enter Try.func29, Try.ntmps29
  go_wp2_with (go_at_call 31; refine HC.out.mono ?_; rintro e w' ⟨rfl, rfl⟩)
  go_ret
  refine ⟨ret_bool ?_, rfl⟩
  by_cases h : (set.tdiv (x : Int)).tmod 2 = 1 <;> simp [h]

theorem mod_step (x k : Nat) : x % 2 ^ (k + 1) = x % 2 ^ k + (if x.testBit k then 2 ^ k else 0) := by
  rw [Nat.pow_succ, Nat.mod_mul, Nat.testBit_eq_decide_div_mod_eq]
  have h : x / 2 ^ k % 2 = 0 ∨ x / 2 ^ k % 2 = 1 := by omega
  rcases h with h | h <;> simp [h]
theorem has_test (a k : Nat) : hasB a k = a.testBit k := by
  unfold hasB
  rw [Nat.testBit_eq_decide_div_mod_eq, ← Int.ofNat_tdiv, show (2 : Int) = ((2 : Nat) : Int) from rfl, ← Int.ofNat_tmod]
  have e : ((a / 2 ^ k % 2 : Nat) : Int) = 1 ↔ a / 2 ^ k % 2 = 1 := by omega
  simp only [e]

set_option maxHeartbeats 8000000 in
theorem union30 (a b : Nat) (w : World) (ha : a < 64) (hb : b < 64) : Calls Try.prog 30 #[.int .i64 a, .int .i64 b] w fun e w' => e = .returned (.int .i64 ((a ||| b : Nat) : Int)) ∧ w = w' := by
  have hu : a ||| b < 2 ^ 6 := Nat.or_lt_two_pow ha hb
  have ht : ∀ m, (a ||| b).testBit m = (a.testBit m || b.testBit m) := fun m => Nat.testBit_or a b m
  obtain ⟨o, ho⟩ : ∃ o, a ||| b = o := ⟨_, rfl⟩
  rw [ho] at hu ht ⊢
  clear ho
  have hu : o < 64 := hu
  have HU := Lib.hid hu
  have HTB := Lib.hid ht
  clear hu ht
  have hba : -9223372036854775808 ≤ (a : Int) ∧ (a : Int) ≤ 9223372036854775807 := by omega
  have hbb : -9223372036854775808 ≤ (b : Int) ∧ (b : Int) ≤ 9223372036854775807 := by omega
  go_enter Try.func30, Try.ntmps30
  go_wp2
  go_loop [5, 6] (fun n i => ∃ m : Nat, m ≤ 6 ∧ i = .int .i64 m ∧ n = .int .i64 ((o % 2 ^ m : Nat) : Int)) (fun _ i => 6 - (intOf i).toNat)
  case atStart => exact ⟨0, by omega, rfl, by simp [Nat.mod_one]⟩
  case round =>
    obtain ⟨m, hm, rfl, rfl⟩ := hrel
    have hst := mod_step o m
    have hle : o % 2 ^ m < 64 := Nat.lt_of_le_of_lt (Nat.mod_le _ _) HU.out
    obtain ⟨x, hx⟩ : ∃ x, o % 2 ^ m = x := ⟨_, rfl⟩
    rw [hx] at hst hle ⊢
    by_cases hlt : m < 6
    · have hI : (m : Int) < 6 := by omega
      have h6 := pow6 (k := m) (by omega)
      have hc := bit31 m
      obtain ⟨y, hy⟩ : ∃ y, 2 ^ m = y := ⟨_, rfl⟩
      rw [hy] at h6 hst hc
      rw [HTB.out] at hst
      have c1 := has_test a m
      have c2 := has_test b m
      obtain ⟨p, hp⟩ : ∃ p, a.testBit m = p := ⟨_, rfl⟩
      obtain ⟨q, hq⟩ : ∃ q, b.testBit m = q := ⟨_, rfl⟩
      rw [hp] at c1 hst
      rw [hq] at c2 hst
      have d1 := has29 a m
      have d2 := has29 b m
      rw [c1] at d1
      rw [c2] at d2
      have D1 := Lib.hid d1
      have D2 := Lib.hid d2
      have HC := Lib.hid hc
      have HST := Lib.hid hst
      clear d1 d2 hc hst c1 c2 hp hq hx hy
      have hx2 : (x : Int) ≤ 64 := by omega
      have hy2 : (y : Int) ≤ 64 := by omega
      cases p <;> cases q
      all_goals
        have hif := HST.out
        simp only [Bool.or_self, Bool.or_true, Bool.true_or, Bool.or_false, Bool.false_or, if_true, Bool.false_eq_true, if_false] at hif
        have HIF := Lib.hid hif
        clear hif
        go_wp2_with fail
        refine (D1.out _ hlt hba).mono ?_
        rintro e w' ⟨rfl, rfl⟩
        go_wp2_with fail
        refine (D2.out _ hlt hbb).mono ?_
        rintro e w' ⟨rfl, rfl⟩
        go_wp2_with (go_at_call 31; refine (HC.out _ hlt).mono ?_; rintro e w' ⟨rfl, rfl⟩)
        go_round
        case rel => exact ⟨m + 1, by omega, by go_num, by rw [HIF.out]; go_num⟩
        case measure => simp [intOf]; omega
    · have : m = 6 := by omega
      subst this
      go_wp2
      go_ret
      exact ⟨ret_int (congrArg (fun n : Nat => (n : Int)) (hx.symm.trans (Nat.mod_eq_of_lt HU.out))), rfl⟩
end Go.Proofs.Ytbcnmkdlaoaoeaa
