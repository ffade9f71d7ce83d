/- The kinds of bytes; a run of bytes. -/
import Derived.Test.YtofjifhnkcghpaaDoorRows
import Derived.Test.YtofjifhnkcghpaaDoorD
import Derived.Test.YtofjifhnkcghpaaDoorBase16
namespace Go.Proofs.YtofjifhnkcghpaaDoor
open Go.RowKit
set_option linter.unusedVariables false
set_option linter.unusedSimpArgs false
set_option maxRecDepth 100000
def kindL (c : UInt8) : Nat := if isBlank c then 1 else if isLetter c then 2 else if isDigit c then 3 else if c = 39 then 4 else if isSign c then 5 else 0
/-- the table of the kinds of bytes lies in the first variable -/
def KT (w : World) : Prop := ∀ c : UInt8, c.toNat < 128 → w.cell? ⟨0, c.toNat, none⟩ = some (.int .u8 (kindL c : Int))
theorem KT.below {w w' : World} (h : KT w) {B : Nat} (hb : Below B w w') (hB : 0 < B) : KT w' := fun c hc => (hb.cell (by exact hB)).trans (h c hc)
theorem kind_high : ∀ c : UInt8, 128 ≤ c.toNat → kindL c = 0 := u8all (p := fun c => 128 ≤ c.toNat → kindL c = 0) (by decide)
theorem kind23 (c : UInt8) (w : World) (h : KT w) : Calls Tryd.prog 23 #[.int .u8 (c.toNat : Int)] w fun e w' => e = .returned (.int .u8 (kindL c : Int)) ∧ w = w' := by
  have hlt := c.toNat_lt
  by_cases hc : c.toNat < 128
  · have hcell := h c hc
    have hd : decide ((128 : Int) ≤ (c.toNat : Int)) = false := decide_eq_false (by omega)
    generalize c.toNat = n at *
    generalize kindL c = k at *
    clear h
    go_enter Tryd.func23, Tryd.ntmps23
    go_wp2_with fail
    go_ret
    exact ⟨rfl, rfl⟩
  · have hd : decide ((128 : Int) ≤ (c.toNat : Int)) = true := decide_eq_true (by omega)
    rw [kind_high c (by omega)]
    generalize c.toNat = n at *
    clear h
    go_enter Tryd.func23, Tryd.ntmps23
    go_wp2_with fail
    go_ret
    exact ⟨rfl, rfl⟩
theorem close25 (k : Nat) (w : World) : Calls Tryd.prog 25 #[.int .u8 (k : Int)] w fun e w' => e = .returned (.bool (decide (k = 2) || decide (k = 3))) ∧ w = w' := by
  have e2 : ((k : Int) == 2) = decide (k = 2) := by rw [Bool.eq_iff_iff]; simp; omega
  have e3 : ((k : Int) == 3) = decide (k = 3) := by rw [Bool.eq_iff_iff]; simp; omega
  rw [← e2, ← e3]
  clear e2 e3
  by_cases h2 : ((k : Int) == 2) = true
  · go_enter Tryd.func25, Tryd.ntmps25
    go_wp2_with fail
    go_ret
    exact ⟨by rw [h2]; rfl, rfl⟩
  · have h2 : ((k : Int) == 2) = false := by simpa using h2
    go_enter Tryd.func25, Tryd.ntmps25
    go_wp2_with fail
    go_ret
    exact ⟨by rw [h2]; rfl, rfl⟩
theorem close27 (k : Nat) (w : World) : Calls Tryd.prog 27 #[.int .u8 (k : Int)] w fun e w' => e = .returned (.bool (decide (k = 3))) ∧ w = w' := by
  have e3 : ((k : Int) == 3) = decide (k = 3) := by rw [Bool.eq_iff_iff]; simp; omega
  rw [← e3]
  clear e3
  go_enter Tryd.func27, Tryd.ntmps27
  go_wp2_with fail
  go_ret
  exact ⟨rfl, rfl⟩
theorem str_drop (s : ByteArray) {q : Nat} (h : q < s.size) : s.data.toList.drop q = s[q] :: s.data.toList.drop (q + 1) := by
  have h1 : q < s.data.toList.length := h
  rw [List.drop_eq_getElem_cons h1]
  rfl
theorem str_end (s : ByteArray) {q : Nat} (h : s.size ≤ q) : s.data.toList.drop q = [] := List.drop_eq_nil_of_le (by exact h)
theorem str_len (s : ByteArray) : s.data.toList.length = s.size := rfl
theorem run25 (s : ByteArray) (p : Nat) (w : World) (h : KT w) (hp : p ≤ s.size) (hs : s.size ≤ 140737488355328) :
    Calls Tryd.prog 24 #[.string s, .int .i64 p, .func (.func 25) #[] #[]] w fun e w' => e = .returned (.int .i64 ((p + ((s.data.toList.drop p).takeWhile fun c => (decide (kindL c = 2) || decide (kindL c = 3))).length : Nat) : Int)) ∧ w = w' := by
  have HK := Lib.hid h
  clear h
  obtain ⟨N, hN⟩ : ∃ N, N = p + ((s.data.toList.drop p).takeWhile fun c => (decide (kindL c = 2) || decide (kindL c = 3))).length := ⟨_, rfl⟩
  rw [← hN]
  have HN := Lib.hid hN
  clear hN
  go_enter Tryd.func24, Tryd.ntmps24
  go_wp2_with fail
  go_loopw [1] (fun a wr => ∃ q : Nat, q ≤ s.size ∧ a = .int .i64 q ∧ N = q + ((s.data.toList.drop q).takeWhile fun c => (decide (kindL c = 2) || decide (kindL c = 3))).length ∧ w = wr) (fun a _ => s.size - (intOf a).toNat)
  case atStart => exact ⟨p, hp, rfl, HN.out, rfl⟩
  case round =>
    obtain ⟨q, hq, rfl, hqe, rfl⟩ := hrel
    by_cases hlt : q < s.size
    · have hd : decide ((q : Int) < (s.size : Int)) = true := decide_eq_true (by omega)
      have HQ := Lib.hid hqe
      clear hqe
      go_wp2_with fail
      refine (kind23 s[q] w HK.out).mono ?_
      rintro e w' ⟨rfl, rfl⟩
      obtain ⟨k, hk⟩ : ∃ k, k = kindL s[q] := ⟨_, rfl⟩
      rw [← hk]
      have HKQ := Lib.hid hk
      clear hk
      go_wp2_with fail
      refine (close25 k w).mono ?_
      rintro e w' ⟨rfl, rfl⟩
      by_cases hfk : ((decide (k = 2) || decide (k = 3))) = true
      · rw [hfk]
        go_wp2_with fail
        go_roundw
        case rel =>
          refine ⟨q + 1, by omega, by go_num, ?_, by first | rfl | trivial⟩
          have := HQ.out
          rw [str_drop s hlt, List.takeWhile_cons, if_pos (by rw [← HKQ.out]; exact hfk), List.length_cons] at this
          omega
        case measure => simp [intOf]; omega
      · have hff : ((decide (k = 2) || decide (k = 3))) = false := by simpa using hfk
        rw [hff]
        go_wp2_with fail
        go_ret
        refine ⟨?_, rfl⟩
        have := HQ.out
        rw [str_drop s hlt, List.takeWhile_cons, if_neg (by rw [← HKQ.out]; exact hfk)] at this
        simp at this
        rw [this]; rfl
    · have hd : decide ((q : Int) < (s.size : Int)) = false := decide_eq_false (by omega)
      have HQ := Lib.hid hqe
      clear hqe
      go_wp2_with fail
      go_ret
      refine ⟨?_, rfl⟩
      have := HQ.out
      rw [str_end s (by omega)] at this
      simp at this
      rw [this]; rfl
theorem run27 (s : ByteArray) (p : Nat) (w : World) (h : KT w) (hp : p ≤ s.size) (hs : s.size ≤ 140737488355328) :
    Calls Tryd.prog 24 #[.string s, .int .i64 p, .func (.func 27) #[] #[]] w fun e w' => e = .returned (.int .i64 ((p + ((s.data.toList.drop p).takeWhile fun c => decide (kindL c = 3)).length : Nat) : Int)) ∧ w = w' := by
  have HK := Lib.hid h
  clear h
  obtain ⟨N, hN⟩ : ∃ N, N = p + ((s.data.toList.drop p).takeWhile fun c => decide (kindL c = 3)).length := ⟨_, rfl⟩
  rw [← hN]
  have HN := Lib.hid hN
  clear hN
  go_enter Tryd.func24, Tryd.ntmps24
  go_wp2_with fail
  go_loopw [1] (fun a wr => ∃ q : Nat, q ≤ s.size ∧ a = .int .i64 q ∧ N = q + ((s.data.toList.drop q).takeWhile fun c => decide (kindL c = 3)).length ∧ w = wr) (fun a _ => s.size - (intOf a).toNat)
  case atStart => exact ⟨p, hp, rfl, HN.out, rfl⟩
  case round =>
    obtain ⟨q, hq, rfl, hqe, rfl⟩ := hrel
    by_cases hlt : q < s.size
    · have hd : decide ((q : Int) < (s.size : Int)) = true := decide_eq_true (by omega)
      have HQ := Lib.hid hqe
      clear hqe
      go_wp2_with fail
      refine (kind23 s[q] w HK.out).mono ?_
      rintro e w' ⟨rfl, rfl⟩
      obtain ⟨k, hk⟩ : ∃ k, k = kindL s[q] := ⟨_, rfl⟩
      rw [← hk]
      have HKQ := Lib.hid hk
      clear hk
      go_wp2_with fail
      refine (close27 k w).mono ?_
      rintro e w' ⟨rfl, rfl⟩
      by_cases hfk : (decide (k = 3)) = true
      · rw [hfk]
        go_wp2_with fail
        go_roundw
        case rel =>
          refine ⟨q + 1, by omega, by go_num, ?_, by first | rfl | trivial⟩
          have := HQ.out
          rw [str_drop s hlt, List.takeWhile_cons, if_pos (by rw [← HKQ.out]; exact hfk), List.length_cons] at this
          omega
        case measure => simp [intOf]; omega
      · have hff : (decide (k = 3)) = false := by simpa using hfk
        rw [hff]
        go_wp2_with fail
        go_ret
        refine ⟨?_, rfl⟩
        have := HQ.out
        rw [str_drop s hlt, List.takeWhile_cons, if_neg (by rw [← HKQ.out]; exact hfk)] at this
        simp at this
        rw [this]; rfl
    · have hd : decide ((q : Int) < (s.size : Int)) = false := decide_eq_false (by omega)
      have HQ := Lib.hid hqe
      clear hqe
      go_wp2_with fail
      go_ret
      refine ⟨?_, rfl⟩
      have := HQ.out
      rw [str_end s (by omega)] at this
      simp at this
      rw [this]; rfl
theorem kind_letter : ∀ c : UInt8, decide (kindL c = 2) = isLetter c := u8all (by decide)
theorem kind_digit : ∀ c : UInt8, decide (kindL c = 3) = isDigit c := u8all (by decide)
theorem runW (s : ByteArray) (p : Nat) (w : World) (h : KT w) (hp : p ≤ s.size) (hs : s.size ≤ 140737488355328) :
    Calls Tryd.prog 24 #[.string s, .int .i64 p, .func (.func 25) #[] #[]] w fun e w' => e = .returned (.int .i64 ((p + ((s.data.toList.drop p).takeWhile isW).length : Nat) : Int)) ∧ w = w' := by
  have e : (fun c => (decide (kindL c = 2) || decide (kindL c = 3))) = isW := by funext c; rw [kind_letter, kind_digit]; rfl
  have := run25 s p w h hp hs
  rw [e] at this
  exact this
theorem runD (s : ByteArray) (p : Nat) (w : World) (h : KT w) (hp : p ≤ s.size) (hs : s.size ≤ 140737488355328) :
    Calls Tryd.prog 24 #[.string s, .int .i64 p, .func (.func 27) #[] #[]] w fun e w' => e = .returned (.int .i64 ((p + ((s.data.toList.drop p).takeWhile isDigit).length : Nat) : Int)) ∧ w = w' := by
  have e : (fun c => decide (kindL c = 3)) = isDigit := by funext c; rw [kind_digit]
  have := run27 s p w h hp hs
  rw [e] at this
  exact this
end Go.Proofs.YtofjifhnkcghpaaDoor
