/- What each call answers where the connection is not to be had; and what it does where it is. -/
import Derived.Test.YtalcmaphndfcfaaE
namespace Go.Proofs.Ytalcmaphndfcfaa
open Go.RowKit Go.Maps
set_option linter.unusedVariables false
set_option linter.unusedSimpArgs false

/-- the error of a side's connection, and what is left of the connections -/
def askE (L : List Cn) (x s : Int) : Int := if s < 0 ∨ 1 < s then 14 else match findC L x with | none => 14 | some c => if c.cut then 17 else 0
def askL (L : List Cn) (x s : Int) : List Cn := if s < 0 ∨ 1 < s then L else match findC L x with | none => L | some c => if c.cut then leaveC (updC L (c.tell s)) (c.tell s) else L

theorem ask18_err {F : Nat → Prop} {w : World} {bn : Nat} {made : Int} {L : List Cn} (h : NetAt F w bn made L) (x s : Int) (hx : (Lit.int .i64 x).wf = true) (he : askE L x s ≠ 0) :
    Calls Try.prog 18 #[.pointer (some ⟨bn, 0, none⟩), .int .i64 x, .int .i64 s] w fun e w' => e = askR (.pointer none) (askE L x s) ∧ NetAt F w' bn made (askL L x s) ∧ Turn F w w' := by
  unfold askE askL at *
  by_cases hs : s < 0 ∨ 1 < s
  · rw [if_pos hs, if_pos hs]
    refine (ask18_none h x s hx (.inr hs)).mono ?_
    rintro e w' ⟨rfl, rfl⟩
    exact ⟨rfl, h, Turn.refl _ _⟩
  · rw [if_neg hs] at he ⊢
    rw [if_neg hs]
    cases hc : findC L x with
    | none =>
      refine (ask18_none h x s hx (.inl hc)).mono ?_
      rintro e w' ⟨rfl, rfl⟩
      exact ⟨rfl, h, Turn.refl _ _⟩
    | some c =>
      rw [hc] at he
      simp only at he ⊢
      cases hcut : c.cut
      · rw [hcut] at he; simp at he
      · refine (ask18_cut h x s hx hc (by omega) hcut).mono ?_
        rintro e w' ⟨rfl, h1, h2⟩
        exact ⟨rfl, h1, h2⟩
theorem askE_ok {L : List Cn} {x s : Int} (h : askE L x s = 0) : ∃ c, findC L x = some c ∧ (s = 0 ∨ s = 1) ∧ c.cut = false := by
  unfold askE at h
  split at h
  · cases h
  · split at h
    · cases h
    · rename_i c hc
      refine ⟨c, hc, by omega, ?_⟩
      cases hcut : c.cut
      · rfl
      · rw [hcut] at h; simp at h

section
variable {F : Nat → Prop} {w : World} {bn : Nat} {made : Int} {L : List Cn}

theorem send10_err (h : NetAt F w bn made L) (x s : Int) (d : ByteArray) (hx : (Lit.int .i64 x).wf = true) (he : askE L x s ≠ 0) :
    Calls Try.prog 10 #[.pointer (some ⟨bn, 0, none⟩), .int .i64 x, .int .i64 s, .string d] w fun e w' => e = .returned (.tuple #[.int .i64 0, .int .i64 (askE L x s)]) ∧ NetAt F w' bn made (askL L x s) ∧ Turn F w w' := by
  have hc := ask18_err h x s hx he
  unfold askR at hc
  obtain ⟨q, hq⟩ : ∃ q, askE L x s = q := ⟨_, rfl⟩
  rw [hq] at hc he ⊢
  have HC := Lib.hid hc
  clear hc hq h hx
  go_enter Try.func10, Try.ntmps10
  go_wp2_with (go_at_call 18; refine HC.out.mono ?_; rintro e w1 ⟨rfl, hR⟩; have HR := Lib.hid hR; clear hR)
  go_ret2
  exact ⟨rfl, HR.out⟩
theorem move11_err (h : NetAt F w bn made L) (x s m : Int) (hx : (Lit.int .i64 x).wf = true) (he : askE L x s ≠ 0) :
    Calls Try.prog 11 #[.pointer (some ⟨bn, 0, none⟩), .int .i64 x, .int .i64 s, .int .i64 m] w fun e w' => e = .returned (.tuple #[.int .i64 0, .int .i64 (askE L x s)]) ∧ NetAt F w' bn made (askL L x s) ∧ Turn F w w' := by
  have hc := ask18_err h x s hx he
  unfold askR at hc
  obtain ⟨q, hq⟩ : ∃ q, askE L x s = q := ⟨_, rfl⟩
  rw [hq] at hc he ⊢
  have HC := Lib.hid hc
  clear hc hq h hx
  go_enter Try.func11, Try.ntmps11
  go_wp2_with (go_at_call 18; refine HC.out.mono ?_; rintro e w1 ⟨rfl, hR⟩; have HR := Lib.hid hR; clear hR)
  go_ret2
  exact ⟨rfl, HR.out⟩
theorem take12_err (h : NetAt F w bn made L) (x s m : Int) (hx : (Lit.int .i64 x).wf = true) (he : askE L x s ≠ 0) :
    Calls Try.prog 12 #[.pointer (some ⟨bn, 0, none⟩), .int .i64 x, .int .i64 s, .int .i64 m] w fun e w' => e = .returned (.tuple #[.string ⟨#[]⟩, .int .i64 (askE L x s)]) ∧ NetAt F w' bn made (askL L x s) ∧ Turn F w w' := by
  have hc := ask18_err h x s hx he
  unfold askR at hc
  obtain ⟨q, hq⟩ : ∃ q, askE L x s = q := ⟨_, rfl⟩
  rw [hq] at hc he ⊢
  have HC := Lib.hid hc
  clear hc hq h hx
  go_enter Try.func12, Try.ntmps12
  go_wp2_with (go_at_call 18; refine HC.out.mono ?_; rintro e w1 ⟨rfl, hR⟩; have HR := Lib.hid hR; clear hR)
  go_ret2
  exact ⟨rfl, HR.out⟩
theorem shut14_err (h : NetAt F w bn made L) (x s : Int) (hx : (Lit.int .i64 x).wf = true) (he : askE L x s ≠ 0) :
    Calls Try.prog 14 #[.pointer (some ⟨bn, 0, none⟩), .int .i64 x, .int .i64 s] w fun e w' => e = .returned (.int .i64 (askE L x s)) ∧ NetAt F w' bn made (askL L x s) ∧ Turn F w w' := by
  have hc := ask18_err h x s hx he
  unfold askR at hc
  obtain ⟨q, hq⟩ : ∃ q, askE L x s = q := ⟨_, rfl⟩
  rw [hq] at hc he ⊢
  have HC := Lib.hid hc
  clear hc hq h hx
  go_enter Try.func14, Try.ntmps14
  go_wp2_with (go_at_call 18; refine HC.out.mono ?_; rintro e w1 ⟨rfl, hR⟩; have HR := Lib.hid hR; clear hR)
  go_ret
  exact ⟨rfl, HR.out⟩

/-! of no net -/
theorem send10_nil (w : World) (x s : Int) (d : ByteArray) : Calls Try.prog 10 #[.pointer none, .int .i64 x, .int .i64 s, .string d] w fun e w' => e = .returned (.tuple #[.int .i64 0, .int .i64 1]) ∧ w = w' := by
  go_enter Try.func10, Try.ntmps10
  go_wp2_with (go_at_call 18; refine (ask18_nil _ _ _).mono ?_; unfold askR; rintro e w1 ⟨rfl, rfl⟩)
  go_ret2
  exact ⟨rfl, rfl⟩
theorem move11_nil (w : World) (x s m : Int) : Calls Try.prog 11 #[.pointer none, .int .i64 x, .int .i64 s, .int .i64 m] w fun e w' => e = .returned (.tuple #[.int .i64 0, .int .i64 1]) ∧ w = w' := by
  go_enter Try.func11, Try.ntmps11
  go_wp2_with (go_at_call 18; refine (ask18_nil _ _ _).mono ?_; unfold askR; rintro e w1 ⟨rfl, rfl⟩)
  go_ret2
  exact ⟨rfl, rfl⟩
theorem take12_nil (w : World) (x s m : Int) : Calls Try.prog 12 #[.pointer none, .int .i64 x, .int .i64 s, .int .i64 m] w fun e w' => e = .returned (.tuple #[.string ⟨#[]⟩, .int .i64 1]) ∧ w = w' := by
  go_enter Try.func12, Try.ntmps12
  go_wp2_with (go_at_call 18; refine (ask18_nil _ _ _).mono ?_; unfold askR; rintro e w1 ⟨rfl, rfl⟩)
  go_ret2
  exact ⟨rfl, rfl⟩
theorem shut14_nil (w : World) (x s : Int) : Calls Try.prog 14 #[.pointer none, .int .i64 x, .int .i64 s] w fun e w' => e = .returned (.int .i64 1) ∧ w = w' := by
  go_enter Try.func14, Try.ntmps14
  go_wp2_with (go_at_call 18; refine (ask18_nil _ _ _).mono ?_; unfold askR; rintro e w1 ⟨rfl, rfl⟩)
  go_ret
  exact ⟨rfl, rfl⟩
theorem cut13_nil (w : World) (x : Int) : Calls Try.prog 13 #[.pointer none, .int .i64 x] w fun e w' => e = .returned (.int .i64 1) ∧ w = w' := by
  go_enter Try.func13, Try.ntmps13
  go_wp2_with fail
  go_ret
  exact ⟨rfl, rfl⟩
theorem waits15_nil (w : World) (x s : Int) : Calls Try.prog 15 #[.pointer none, .int .i64 x, .int .i64 s] w fun e w' => e = .returned (.tuple #[.int .i64 0, .int .i64 0]) ∧ w = w' := by
  go_enter Try.func15, Try.ntmps15
  go_wp2_with fail
  go_ret2
  exact ⟨rfl, rfl⟩
theorem open9_nil (w : World) : Calls Try.prog 9 #[.pointer none] w fun e w' => e = .returned (.tuple #[.int .i64 0, .int .i64 1]) ∧ w = w' := by
  go_enter Try.func9, Try.ntmps9
  go_wp2_with fail
  go_ret2
  exact ⟨rfl, rfl⟩
end
end Go.Proofs.Ytalcmaphndfcfaa
