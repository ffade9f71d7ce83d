/- Texts compared. -/
import Derived.Test.YtiihnepfcgmghaaB
import Derived.Test.YtiihnepfcgmghaaL
import Derived.Shelf.SlSorted.Search
namespace Go.Proofs.Ytiihnepfcgmghaa
open Go.RowKit Go.Maps
set_option linter.unusedVariables false
set_option linter.unusedSimpArgs false

theorem isNaN38 (s : ByteArray) (w : World) : Calls Try.prog 38 #[.string s] w fun e w' => e = .returned (.bool false) ∧ w = w' := by
  go_enter Try.func38, Try.ntmps38
  go_wp2
  go_ret
  exact ⟨rfl, rfl⟩
/-- is a text below another one? -/
def ltS (s t : ByteArray) : Bool := Op.bytesLess s.toList t.toList
def cmpS (s t : ByteArray) : Int := if ltS s t then -1 else if s.toList == t.toList then 0 else 1
theorem cmp26 (s t : ByteArray) (w : World) : Calls Try.prog 26 #[.string s, .string t] w fun e w' => e = .returned (.int .i64 (cmpS s t)) ∧ w = w' := by
  have H1 := Lib.hid (fun w => isNaN38 s w)
  have H2 := Lib.hid (fun w => isNaN38 t w)
  have HC := Lib.hid (show cmpS s t = if Op.bytesLess s.toList t.toList then -1 else if s.toList == t.toList then 0 else 1 from rfl)
  cases h1 : Op.bytesLess s.toList t.toList
  · cases h2 : (s.toList == t.toList)
    all_goals
      go_enter Try.func26, Try.ntmps26
      go_wp2_with fail
      refine (H1.out w).mono ?_
      rintro e w1 ⟨rfl, rfl⟩
      go_wp2_with fail
      refine (H2.out w).mono ?_
      rintro e w1 ⟨rfl, rfl⟩
      go_wp2_with fail
      go_ret
      exact ⟨ret_int (by rw [HC.out, h1, h2]; rfl), rfl⟩
  · go_enter Try.func26, Try.ntmps26
    go_wp2_with fail
    refine (H1.out w).mono ?_
    rintro e w1 ⟨rfl, rfl⟩
    go_wp2_with fail
    refine (H2.out w).mono ?_
    rintro e w1 ⟨rfl, rfl⟩
    go_wp2_with fail
    go_ret
    exact ⟨ret_int (by rw [HC.out, h1]; rfl), rfl⟩
/-- the comparing of two numbers by their texts, in whatever world the texts lie -/
theorem closure37 (x D bt off n c : Nat) (a b : Nat) (s t : ByteArray) (w : World) (hx : w.cell? ⟨x, 0, none⟩ = some (.pointer (some ⟨D, 0, none⟩))) (hD : w.cell? ⟨D, 0, none⟩ = some (.slice (some ⟨bt, off, none⟩) n c)) (ha : a < n) (hb : b < n) (hn : n ≤ 4096)
    (hs : w.cell? ⟨bt, off + a, none⟩ = some (.string s)) (ht : w.cell? ⟨bt, off + b, none⟩ = some (.string t)) :
    Calls Try.prog 37 #[.int .i64 (a : Int), .int .i64 (b : Int), .pointer (some ⟨x, 0, none⟩)] w fun e w' => e = .returned (.int .i64 (cmpS s t)) ∧ ∃ q, w' = w.drewN q := by
  have HC := Lib.hid (fun w => cmp26 s t w)
  go_enter Try.func37, Try.ntmps37
  go_wp2_with fail
  go_quiet ((go_at_call 26; exact quietL (HC.out _)))
  go_wp2_with fail
  go_ret
  exact ⟨rfl, _, rfl⟩
theorem closure25 (x D bt off n c : Nat) (a : Nat) (s t : ByteArray) (w : World) (hx : w.cell? ⟨x, 0, none⟩ = some (.pointer (some ⟨D, 0, none⟩))) (hD : w.cell? ⟨D, 0, none⟩ = some (.slice (some ⟨bt, off, none⟩) n c)) (ha : a < n) (hn : n ≤ 4096)
    (hs : w.cell? ⟨bt, off + a, none⟩ = some (.string s)) :
    Calls Try.prog 25 #[.int .i64 (a : Int), .string t, .pointer (some ⟨x, 0, none⟩)] w fun e w' => e = .returned (.int .i64 (cmpS s t)) ∧ w = w' := by
  have HC := Lib.hid (cmp26 s t w)
  go_enter Try.func25, Try.ntmps25
  go_wp2_with fail
  refine HC.out.mono ?_
  rintro e w1 ⟨rfl, rfl⟩
  go_wp2_with fail
  go_ret
  exact ⟨rfl, rfl⟩
end Go.Proofs.Ytiihnepfcgmghaa
