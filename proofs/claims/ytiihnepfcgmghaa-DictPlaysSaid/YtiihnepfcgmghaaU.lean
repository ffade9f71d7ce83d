/- The document's dictionary: Less. -/
import Derived.Test.YtiihnepfcgmghaaS
namespace Go.Proofs.Ytiihnepfcgmghaa
open Go.RowKit Go.Maps
set_option linter.unusedVariables false
set_option linter.unusedSimpArgs false

theorem bl_at : ∀ (x y : List UInt8) (i : Nat), x.take i = y.take i → (hx : i < x.length) → (hy : i < y.length) → x[i] ≠ y[i] → Op.bytesLess x y = decide (x[i] < y[i])
  | [], _, i, _, hx, _, _ => by simp at hx
  | _ :: _, [], i, _, _, hy, _ => by simp at hy
  | a :: x, b :: y, 0, _, _, _, hne => by
    simp only [List.getElem_cons_zero] at hne ⊢
    unfold Op.bytesLess
    have : (a == b) = false := by simpa using hne
    rw [this]; simp
  | a :: x, b :: y, i + 1, h, hx, hy, hne => by
    simp only [List.take_succ_cons, List.cons.injEq] at h
    simp only [List.getElem_cons_succ] at hne ⊢
    unfold Op.bytesLess
    rw [bl_at x y i h.2 (by simpa using hx) (by simpa using hy) hne, h.1]
    simp
theorem bl_end : ∀ (x y : List UInt8) (i : Nat), x.take i = y.take i → i ≤ x.length → i ≤ y.length → (x.length ≤ i ∨ y.length ≤ i) → Op.bytesLess x y = decide (x.length < y.length)
  | [], [], i, _, _, _, _ => rfl
  | [], _ :: _, i, _, _, _, _ => by simp [Op.bytesLess]
  | _ :: _, [], i, _, _, _, _ => by simp [Op.bytesLess]
  | a :: x, b :: y, 0, _, _, _, h => by simp at h
  | a :: x, b :: y, i + 1, h, hx, hy, hor => by
    simp only [List.take_succ_cons, List.cons.injEq] at h
    unfold Op.bytesLess
    rw [bl_end x y i h.2 (by simpa using hx) (by simpa using hy) (by simpa using hor), h.1]
    simp
set_option maxRecDepth 100000 in
theorem less39 (a b : ByteArray) (ha : a.size ≤ maxLen) (hb : b.size ≤ maxLen) (w : World) : Calls Try.prog 39 #[.string a, .string b] w fun e w' => e = .returned (.bool (ltS a b)) ∧ ∃ n, w' = w.drewN n := by
  have hE := ltS_eq a b
  have hMa : a.size ≤ 9223372036854775807 := ha
  have hMb : b.size ≤ 9223372036854775807 := hb
  have HE := Lib.hid hE
  clear hE
  go_enter Try.func39, Try.ntmps39
  go_wp2_with fail
  go_loopw [5] (fun s wr => ∃ i : Nat, i ≤ a.size ∧ i ≤ b.size ∧ s = .int .i64 i ∧ a.data.toList.take i = b.data.toList.take i ∧ ∃ n, wr = w.drewN n) (fun s _ => a.size - (intOf s).toNat)
  case atStart => exact ⟨0, by omega, by omega, rfl, rfl, 0, rfl⟩
  case round =>
    obtain ⟨i, hi, hi2, rfl, hp, nn, rfl⟩ := hrel
    have HP := Lib.hid (And.intro hp trivial)
    clear hp
    by_cases h1 : i < a.size
    · have hd1 : decide ((i : Int) < a.size) = true := decide_eq_true (by omega)
      by_cases h2 : i < b.size
      · have hd2 : decide ((i : Int) < b.size) = true := decide_eq_true (by omega)
        by_cases he : a[i].toNat = b[i].toNat
        · go_wp2_with fail
          go_quiet (fail)
          go_wp2_with fail
          go_roundw
          case rel =>
            refine ⟨i + 1, by omega, by omega, by go_num, ?_, _, rfl⟩
            rw [List.take_succ_eq_append_getElem (by simpa using h1), List.take_succ_eq_append_getElem (by simpa using h2), HP.out.1]
            have : a[i] = b[i] := UInt8.toNat_inj.1 he
            congr 2
          case measure => simp [intOf]; omega
        · have hn : decide ((a[i].toNat : Int) = b[i].toNat) = false := decide_eq_false (by omega)
          have hx : Op.bytesLess a.data.toList b.data.toList = decide (a[i] < b[i]) := bl_at _ _ i HP.out.1 (by simpa using h1) (by simpa using h2) (fun e => he (congrArg UInt8.toNat e))
          go_wp2_with fail
          go_quiet (fail)
          go_wp2_with fail
          go_quiet (fail)
          go_wp2_with fail
          go_ret
          refine ⟨?_, _, by rw [World.drewN_drewN, World.drewN_drewN]⟩
          rw [HE.out, hx]
          congr 2
      · have hd2 : decide ((i : Int) < b.size) = false := decide_eq_false (by omega)
        go_wp2_with fail
        go_ret
        have hx : Op.bytesLess a.data.toList b.data.toList = decide (a.data.toList.length < b.data.toList.length) := bl_end _ _ i HP.out.1 (by simpa using hi) (by simpa using hi2) (.inr (by have h : b.data.toList.length = b.size := (by simp); omega))
        rw [HE.out, hx]
        refine ⟨?_, _, rfl⟩
        simp
    · have hd1 : decide ((i : Int) < a.size) = false := decide_eq_false (by omega)
      go_wp2_with fail
      go_ret
      have hx : Op.bytesLess a.data.toList b.data.toList = decide (a.data.toList.length < b.data.toList.length) := bl_end _ _ i HP.out.1 (by simpa using hi) (by simpa using hi2) (.inl (by have h : a.data.toList.length = a.size := (by simp); omega))
      rw [HE.out, hx]
      refine ⟨?_, _, rfl⟩
      simp
end Go.Proofs.Ytiihnepfcgmghaa
