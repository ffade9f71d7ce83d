/- Of and the reference's Of: the set of some dimensions. -/
import Derived.Test.YtbcnmkdlaoaoeaaA
namespace Go.Proofs.Ytbcnmkdlaoaoeaa
open Go.RowKit
set_option linter.unusedVariables false
set_option linter.unusedSimpArgs false

theorem or64' : ∀ a : Fin 64, ∀ b : Fin 64, bits .or .i64 ((a.val : Nat) : Int) ((b.val : Nat) : Int) = ((a.val ||| b.val : Nat) : Int) := by decide +kernel
theorem or64 (a b : Nat) (ha : a < 64) (hb : b < 64) : bits .or .i64 (a : Int) (b : Int) = ((a ||| b : Nat) : Int) := or64' ⟨a, ha⟩ ⟨b, hb⟩
theorem or_lt {a b : Nat} (ha : a < 64) (hb : b < 64) : a ||| b < 64 := Nat.or_lt_two_pow (n := 6) ha hb

def ofStep (o : Nat) (i : Int) : Nat := if 0 ≤ i ∧ i < 6 then o ||| 2 ^ i.toNat else o
/-- the set of some dimensions -/
def ofN (l : List Int) : Nat := l.foldl ofStep 0
theorem ofStep_lt {o : Nat} (h : o < 64) (i : Int) : ofStep o i < 64 := by
  unfold ofStep
  split
  · exact or_lt h (by have := pow6 (k := i.toNat) (by omega); have : i.toNat = 0 ∨ i.toNat = 1 ∨ i.toNat = 2 ∨ i.toNat = 3 ∨ i.toNat = 4 ∨ i.toNat = 5 := by omega
                      rcases this with e | e | e | e | e | e <;> rw [e] <;> decide)
  · exact h
theorem foldl_lt (l : List Int) (o : Nat) (h : o < 64) : l.foldl ofStep o < 64 := by
  induction l generalizing o with
  | nil => exact h
  | cons x r ih => exact ih _ (ofStep_lt h x)
theorem ofN_lt (l : List Int) : ofN l < 64 := foldl_lt l 0 (by omega)
theorem ofN_step (l : List Int) (k : Nat) (h : k < l.length) : ofN (l.take (k + 1)) = ofStep (ofN (l.take k)) (l.getD k 0) := by
  unfold ofN
  rw [List.take_add_one, List.getElem?_eq_getElem h, List.foldl_append, List.getD_eq_getElem?_getD, List.getElem?_eq_getElem h]
  rfl

set_option maxHeartbeats 4000000 in
theorem of14 (B : Nat) (v : Value) (l : List Int) (w : World) (hr : RowI B w v l) :
    Calls Try.prog 14 #[v] w fun e w' => e = .returned (.int .i64 (ofN l : Nat)) ∧ w = w' := by
  obtain ⟨a, cap, rfl, hcap, hmax, hc⟩ := hr.open
  have HCC := Lib.hid hc
  clear hc hr
  go_enter Try.func14, Try.ntmps14
  go_wp2
  go_loop [3, 8] (fun s i => ∃ k : Nat, k ≤ l.length ∧ i = .int .i64 k ∧ s = .int .i64 (ofN (l.take k) : Nat)) (fun _ i => l.length - (intOf i).toNat)
  case atStart => exact ⟨0, by omega, rfl, by simp [ofN]⟩
  case round =>
    obtain ⟨k, hk, rfl, rfl⟩ := hrel
    by_cases hlt : k < l.length
    · obtain ⟨b, off, rfl, hb, hcell⟩ := HCC.out (by omega)
      obtain ⟨y, hy, hcy⟩ : ∃ y, Hid (l.getD k 0 = y) ∧ w.cell? ⟨b, off + k, none⟩ = some (.int .i64 y) := ⟨_, rfl, hcell k hlt⟩
      clear hcell HCC
      have hst := ofN_step l k hlt
      have ho := ofN_lt (l.take k)
      obtain ⟨o, hoe⟩ : ∃ o, ofN (l.take k) = o := ⟨_, rfl⟩
      rw [hoe, hy.out] at hst
      rw [hoe] at ho ⊢
      have HST := Lib.hid hst
      clear hst hoe hy
      have hI : (k : Int) < l.length := by omega
      by_cases h0 : 0 ≤ y
      · by_cases h6 : y < 6
        · have hs : ofN (l.take (k + 1)) = o ||| 2 ^ y.toNat := by rw [HST.out]; simp [ofStep, h0, h6]
          rcases (by omega : y = 0 ∨ y = 1 ∨ y = 2 ∨ y = 3 ∨ y = 4 ∨ y = 5) with rfl | rfl | rfl | rfl | rfl | rfl
          all_goals
            have HS := Lib.hid hs
            clear hs HST
            go_wp2
            go_round
            case rel => exact ⟨k + 1, by omega, by go_num, congrArg (Value.int .i64) ((or64 o _ ho (by decide)).trans (by rw [HS.out]; rfl))⟩
            case measure => simp [intOf]; omega
        · have hs : ofN (l.take (k + 1)) = o := by rw [HST.out]; simp [ofStep, h6]
          have d0 : decide (0 ≤ y) = true := by simpa using h0
          have d6 : decide (y < 6) = false := by simpa using h6
          go_wp2
          go_round
          case rel => exact ⟨k + 1, by omega, by go_num, by rw [hs]⟩
          case measure => simp [intOf]; omega
      · have hs : ofN (l.take (k + 1)) = o := by rw [HST.out]; simp [ofStep, h0]
        have d0 : decide (0 ≤ y) = false := by simpa using h0
        go_wp2
        go_round
        case rel => exact ⟨k + 1, by omega, by go_num, by rw [hs]⟩
        case measure => simp [intOf]; omega
    · have : k = l.length := by omega
      subst this
      go_wp2
      go_ret
      exact ⟨rfl, rfl⟩

set_option maxHeartbeats 4000000 in
theorem of15 (B : Nat) (v : Value) (l : List Int) (w : World) (hr : RowI B w v l) :
    Calls Try.prog 15 #[v] w fun e w' => e = .returned (.int .i64 (ofN l : Nat)) ∧ w = w' := by
  obtain ⟨a, cap, rfl, hcap, hmax, hc⟩ := hr.open
  have HCC := Lib.hid hc
  clear hc hr
  go_enter Try.func15, Try.ntmps15
  go_wp2
  go_loop [3, 4] (fun s i => ∃ k : Nat, k ≤ l.length ∧ i = .int .i64 k ∧ s = .int .i64 (ofN (l.take k) : Nat)) (fun _ i => l.length - (intOf i).toNat)
  case atStart => exact ⟨0, by omega, rfl, by simp [ofN]⟩
  case round =>
    obtain ⟨k, hk, rfl, rfl⟩ := hrel
    by_cases hlt : k < l.length
    · obtain ⟨b, off, rfl, hb, hcell⟩ := HCC.out (by omega)
      obtain ⟨y, hy, hcy⟩ : ∃ y, Hid (l.getD k 0 = y) ∧ w.cell? ⟨b, off + k, none⟩ = some (.int .i64 y) := ⟨_, rfl, hcell k hlt⟩
      clear hcell HCC
      have hst := ofN_step l k hlt
      have ho := ofN_lt (l.take k)
      obtain ⟨o, hoe⟩ : ∃ o, ofN (l.take k) = o := ⟨_, rfl⟩
      rw [hoe, hy.out] at hst
      rw [hoe] at ho ⊢
      have HST := Lib.hid hst
      clear hst hoe hy
      have hI : (k : Int) < l.length := by omega
      by_cases h0 : 0 ≤ y
      · by_cases h6 : y < 6
        · have hs : ofN (l.take (k + 1)) = o ||| 2 ^ y.toNat := by rw [HST.out]; simp [ofStep, h0, h6]
          obtain ⟨m, rfl⟩ : ∃ m : Nat, y = m := ⟨y.toNat, by omega⟩
          have hm : m < 6 := by omega
          have hp : 2 ^ m < 64 := by match m, hm with | 0, _ | 1, _ | 2, _ | 3, _ | 4, _ | 5, _ => decide
          have HB := Lib.hid (bit31 m)
          rw [Int.toNat_natCast] at hs
          obtain ⟨p, hpe⟩ : ∃ p, 2 ^ m = p := ⟨_, rfl⟩
          rw [hpe] at hs hp HB
          have HS := Lib.hid hs
          clear hs HST hpe
          go_wp2_with (first | (go_at_call 31; refine (HB.out _ hm).mono ?_; rintro e w' ⟨rfl, rfl⟩) | (go_at_call 30; refine (union30 o p _ ho hp).mono ?_; rintro e w' ⟨rfl, rfl⟩))
          go_round
          case rel => exact ⟨k + 1, by omega, by go_num, by rw [HS.out]⟩
          case measure => simp [intOf]; omega
        · have hs : ofN (l.take (k + 1)) = o := by rw [HST.out]; simp [ofStep, h6]
          have d0 : decide (0 ≤ y) = true := by simpa using h0
          have d6 : decide (y < 6) = false := by simpa using h6
          go_wp2
          go_round
          case rel => exact ⟨k + 1, by omega, by go_num, by rw [hs]⟩
          case measure => simp [intOf]; omega
      · have hs : ofN (l.take (k + 1)) = o := by rw [HST.out]; simp [ofStep, h0]
        have d0 : decide (0 ≤ y) = false := by simpa using h0
        go_wp2
        go_round
        case rel => exact ⟨k + 1, by omega, by go_num, by rw [hs]⟩
        case measure => simp [intOf]; omega
    · have : k = l.length := by omega
      subst this
      go_wp2
      go_ret
      exact ⟨rfl, rfl⟩
end Go.Proofs.Ytbcnmkdlaoaoeaa
