/- Contracts of small functions of the advise seat: keep, isSet, Covers. -/
import Derived.Test.YtfgnmcmkjfnogaaRows
import Derived.Test.YtfgnmcmkjfnogaaBase
namespace Go.Proofs.Ytfgnmcmkjfnogaa
open Go.RowKit
set_option linter.unusedVariables false
set_option linter.unusedSimpArgs false

/-- a number kept from 0 to most -/
def keepZ (n most : Int) : Int := if n < 0 then 0 else if most < n then most else n
theorem keepZ_ge {n most : Int} (h : 0 ≤ most) : 0 ≤ keepZ n most := by unfold keepZ; split <;> (try split) <;> omega
theorem keepZ_le {n most : Int} (h : 0 ≤ most) : keepZ n most ≤ most := by unfold keepZ; split <;> (try split) <;> omega

theorem keep28 (n most : Int) (w : World) (h : 0 ≤ most) :
    Calls Try.prog 28 #[.int .i64 n, .int .i64 most] w fun e w' => e = .returned (.int .i64 (keepZ n most)) ∧ w = w' := by
  unfold keepZ
  go_enter Try.func28, Try.ntmps28
  go_wp2
  all_goals go_ret
  all_goals refine ⟨ret_int ?_, rfl⟩
  all_goals (repeat' split) <;> omega

theorem keep31 (n most : Int) (w : World) :
    Calls Try.prog 31 #[.int .i64 n, .int .i64 most] w fun e w' => e = .returned (.int .i64 (keepZ n most)) ∧ w = w' := by
  unfold keepZ
  go_enter Try.func31, Try.ntmps31
  go_wp2
  all_goals go_ret
  all_goals refine ⟨ret_int ?_, rfl⟩
  all_goals (repeat' split) <;> omega

theorem keep15 (n most : Int) (w : World) :
    Calls Try.prog 15 #[.int .i64 n, .int .i64 most] w fun e w' => e = .returned (.int .i64 (keepZ n most)) ∧ w = w' := by
  unfold keepZ
  go_enter Try.func15, Try.ntmps15
  go_wp2
  all_goals go_ret
  all_goals refine ⟨ret_int ?_, rfl⟩
  all_goals (repeat' split) <;> omega

/-- is it a set? -/
def isSetB (n : Int) : Bool := decide (0 ≤ n) && decide (n ≤ 63)

theorem isSet34 (n : Int) (w : World) :
    Calls Try.prog 34 #[.int .i64 n] w fun e w' => e = .returned (.bool (isSetB n)) ∧ w = w' := by
  unfold isSetB
  by_cases h : 0 ≤ n
  · go_enter Try.func34, Try.ntmps34
    go_wp2
    go_ret
    exact ⟨ret_bool (by simp [h]), rfl⟩
  · have h' : decide (0 ≤ n) = false := by simpa using h
    go_enter Try.func34, Try.ntmps34
    go_wp2
    go_ret
    exact ⟨ret_bool (by simp [h]), rfl⟩

theorem isSet39 (n : Int) (w : World) :
    Calls Try.prog 39 #[.int .i64 n] w fun e w' => e = .returned (.bool (isSetB n)) ∧ w = w' := by
  unfold isSetB
  by_cases h : 0 ≤ n
  · go_enter Try.func39, Try.ntmps39
    go_wp2
    go_ret
    exact ⟨ret_bool (by simp [h]; omega), rfl⟩
  · have h' : decide (0 ≤ n) = false := by simpa using h
    go_enter Try.func39, Try.ntmps39
    go_wp2
    go_ret
    exact ⟨ret_bool (by simp [h]), rfl⟩

/-- does a set have all of another one's? -/
def coversB (view need : Int) : Bool := isSetB view && isSetB need && (bits .andNot .i64 need view == 0)

theorem covers16 (view need : Int) (w : World) :
    Calls Try.prog 16 #[.int .i64 view, .int .i64 need] w fun e w' => e = .returned (.bool (coversB view need)) ∧ w = w' := by
  unfold coversB
  have c1 := isSet34 view
  have c2 := isSet34 need
  cases h1 : isSetB view
  · go_enter Try.func16, Try.ntmps16
    go_wp2_with (go_at_call 34; refine (isSet34 _ _).mono ?_; rintro e w' ⟨rfl, rfl⟩)
    go_ret
    exact ⟨ret_bool (by simp), rfl⟩
  · cases h2 : isSetB need
    · go_enter Try.func16, Try.ntmps16
      go_wp2_with (go_at_call 34; refine (isSet34 _ _).mono ?_; rintro e w' ⟨rfl, rfl⟩)
      go_ret
      exact ⟨ret_bool (by simp), rfl⟩
    · go_enter Try.func16, Try.ntmps16
      go_wp2_with (go_at_call 34; refine (isSet34 _ _).mono ?_; rintro e w' ⟨rfl, rfl⟩)
      go_ret
      exact ⟨ret_bool (by simp), rfl⟩

theorem index38 (B : Nat) (v : Value) (l : List Int) (x : Int) (w : World) (hr : RowI B w v l) :
    Calls Try.prog 38 #[v, .int .i64 x] w fun e w' => e = .returned (.int .i64 (indexZ l x)) ∧ w = w' := by
  obtain ⟨a, cap, rfl, hcap, hmax, hc⟩ := hr.open
  go_enter Try.func38, Try.ntmps38
  go_wp2
  go_loop [8] (fun i => ∃ k : Nat, k ≤ l.length ∧ i = .int .i64 k ∧ ∀ j, j < k → l.getD j 0 ≠ x) (fun i => l.length - (intOf i).toNat)
  case atStart => exact ⟨0, by omega, rfl, fun j h => absurd h (by omega)⟩
  case round =>
    obtain ⟨k, hk, rfl, hn⟩ := hrel
    have HN := Lib.hid hn
    clear hn
    by_cases hlt : k < l.length
    · obtain ⟨b, off, rfl, hb, hcell⟩ := hc (by omega)
      obtain ⟨y, hy, hcy⟩ : ∃ y, Hid (l.getD k 0 = y) ∧ w.cell? ⟨b, off + k, none⟩ = some (.int .i64 y) := ⟨_, rfl, hcell k hlt⟩
      clear hcell hc
      by_cases hxy : x = y
      · subst hxy
        go_wp2
        go_ret
        exact ⟨ret_int (indexZ_at hlt hy.out.symm HN.out).symm, rfl⟩
      · have hxy' : (x == y) = false := by simpa using hxy
        go_wp2
        go_round
        case rel =>
          refine ⟨k + 1, by omega, by go_num, fun j hj => ?_⟩
          by_cases e : j = k
          · subst e; rw [hy.out]; exact fun h => hxy h.symm
          · exact HN.out j (by omega)
        case measure => simp [intOf]; omega
    · go_wp2
      go_ret
      exact ⟨ret_int (indexZ_none fun j hj => HN.out j (by omega)).symm, rfl⟩

theorem contains30 (B : Nat) (v : Value) (l : List Int) (x : Int) (w : World) (hr : RowI B w v l) :
    Calls Try.prog 30 #[v, .int .i64 x] w fun e w' => e = .returned (.bool (hasZ l x)) ∧ w = w' := by
  go_enter Try.func30, Try.ntmps30
  go_wp2_with (go_at_call 38; refine (index38 B _ _ _ _ hr).mono ?_; rintro e w' ⟨rfl, rfl⟩)
  go_ret
  exact ⟨ret_bool (by rw [← indexZ_contains]), rfl⟩

theorem in32 (B : Nat) (v : Value) (l : List Int) (x : Int) (w : World) (hr : RowI B w v l) :
    Calls Try.prog 32 #[v, .int .i64 x] w fun e w' => e = .returned (.bool (hasZ l x)) ∧ w = w' := by
  obtain ⟨a, cap, rfl, hcap, hmax, hc⟩ := hr.open
  go_enter Try.func32, Try.ntmps32
  go_wp2
  go_loop [5] (fun i => ∃ k : Nat, k ≤ l.length ∧ i = .int .i64 k ∧ ∀ j, j < k → l.getD j 0 ≠ x) (fun i => l.length - (intOf i).toNat)
  case atStart => exact ⟨0, by omega, rfl, fun j h => absurd h (by omega)⟩
  case round =>
    obtain ⟨k, hk, rfl, hn⟩ := hrel
    have HN := Lib.hid hn
    clear hn
    by_cases hlt : k < l.length
    · obtain ⟨b, off, rfl, hb, hcell⟩ := hc (by omega)
      obtain ⟨y, hy, hcy⟩ : ∃ y, Hid (l.getD k 0 = y) ∧ w.cell? ⟨b, off + k, none⟩ = some (.int .i64 y) := ⟨_, rfl, hcell k hlt⟩
      clear hcell hc
      by_cases hxy : y = x
      · subst hxy
        go_wp2
        go_ret
        exact ⟨ret_bool (contains_at hlt hy.out).symm, rfl⟩
      · have hxy' : (y == x) = false := by simpa using hxy
        go_wp2
        go_round
        case rel =>
          refine ⟨k + 1, by omega, by go_num, fun j hj => ?_⟩
          by_cases e : j = k
          · subst e; rw [hy.out]; exact hxy
          · exact HN.out j (by omega)
        case measure => simp [intOf]; omega
    · go_wp2
      go_ret
      exact ⟨ret_bool (contains_none fun j hj => HN.out j (by omega)).symm, rfl⟩

/-- are two lists the same? (its contract: true where they are) -/
theorem same11 (B : Nat) (v1 v2 : Value) (l : List Int) (w : World) (h1 : RowI B w v1 l) (h2 : RowI B w v2 l) :
    Calls Try.prog 11 #[v1, v2] w fun e w' => e = .returned (.bool true) ∧ ∃ n, w' = w.drewN n := by
  obtain ⟨a1, cap1, rfl, hcap1, hmax1, hc1⟩ := h1.open
  obtain ⟨a2, cap2, rfl, hcap2, hmax2, hc2⟩ := h2.open
  go_enter Try.func11, Try.ntmps11
  go_wp2
  go_loopw [5] (fun i wr => ∃ k n : Nat, k ≤ l.length ∧ i = .int .i64 k ∧ wr = w.drewN n) (fun i _ => l.length - (intOf i).toNat)
  case atStart => exact ⟨0, 0, by omega, rfl, rfl⟩
  case round =>
    obtain ⟨k, n, hk, rfl, rfl⟩ := hrel
    by_cases hlt : k < l.length
    · obtain ⟨b1, off1, rfl, hb1, hcell1⟩ := hc1 (by omega)
      obtain ⟨b2, off2, rfl, hb2, hcell2⟩ := hc2 (by omega)
      have g1 := hcell1 k hlt
      have g2 := hcell2 k hlt
      generalize l.getD k 0 = y at g1 g2
      clear hcell1 hcell2 hc1 hc2
      go_wp2
      go_quiet (fail)
      go_wp2
      go_roundw
      case rel => exact ⟨k + 1, _, by omega, by go_num, rfl⟩
      case measure => simp [intOf]; omega
    · go_wp2
      go_ret
      exact ⟨rfl, n, rfl⟩

end Go.Proofs.Ytfgnmcmkjfnogaa
