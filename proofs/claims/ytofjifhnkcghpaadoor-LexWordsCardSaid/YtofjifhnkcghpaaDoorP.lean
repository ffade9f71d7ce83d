/- same: two lists of the same words. -/
import Derived.Test.YtofjifhnkcghpaaDoorO
namespace Go.Proofs.YtofjifhnkcghpaaDoor
open Go.RowKit
set_option linter.unusedVariables false
set_option linter.unusedSimpArgs false
set_option maxRecDepth 100000
set_option maxHeartbeats 4000000 in
theorem same12 (ws : List Wd) (v1 v2 : Value) (B1 B2 : Nat) (w : World) (h1 : HasW w B1 v1 ws) (h2 : HasW w B2 v2 ws) (hn : ws.length ≤ 100000) : Calls Tryd.prog 12 #[v1, v2] w fun e w' => e = .returned (.bool true) ∧ Below w.heap.size w w' := by
  obtain ⟨a1, c1, hv1⟩ := h1.form
  obtain ⟨a2, c2, hv2⟩ := h2.form
  obtain ⟨n, hne⟩ : ∃ n, n = ws.length := ⟨_, rfl⟩
  have HH := Lib.hid (And.intro h1 h2)
  rw [← hne] at hv1 hv2 hn
  have HV := Lib.hid (And.intro hv1 (And.intro hv2 hne))
  clear h1 h2
  subst hv1 hv2
  clear hne
  go_enter Tryd.func12, Tryd.ntmps12
  go_wp2_with fail
  go_loopw [5] (fun x wr => ∃ i : Nat, i ≤ n ∧ x = .int .i64 i ∧ Below w.heap.size w wr) (fun x _ => n - (intOf x).toNat)
  case atStart => exact ⟨0, by omega, rfl, Below.refl _ _⟩
  case round =>
    obtain ⟨i, hi, rfl, hb⟩ := hrel
    by_cases hin : i < n
    · have hdi : decide ((i : Int) < (n : Int)) = true := decide_eq_true (by omega)
      have hil : i < ws.length := by rw [← HV.out.2.2]; exact hin
      have hne : ws ≠ [] := by rintro rfl; simp at hil
      obtain ⟨g1, d1, e1, -, hg1, -, -, hc1⟩ := HH.out.1.open hne
      obtain ⟨g2, d2, e2, -, hg2, -, -, hc2⟩ := HH.out.2.open hne
      injection e1 with e1 e3 e4
      injection e2 with e2 e5 e6
      subst e1 e2
      have hwd : ws[i]? = some ws[i] := List.getElem?_eq_getElem hil
      obtain ⟨x0, x1, x2⟩ := hc1 i _ hwd
      obtain ⟨y0, y1, y2⟩ := hc2 i _ hwd
      have x0 := (hb.cell (by exact hg1)).trans x0
      have x1 := (hb.cell (by exact hg1)).trans x1
      have x2 := (hb.cell (by exact hg1)).trans x2
      have y0 := (hb.cell (by exact hg2)).trans y0
      have y1 := (hb.cell (by exact hg2)).trans y1
      have y2 := (hb.cell (by exact hg2)).trans y2
      obtain ⟨wd, hwe⟩ : ∃ wd, wd = ws[i] := ⟨_, rfl⟩
      rw [← hwe] at x0 x1 x2 y0 y1 y2
      obtain ⟨T, hT⟩ : ∃ T : ByteArray, T = ⟨wd.text.toArray⟩ := ⟨_, rfl⟩
      rw [← hT] at x1 y1
      have HB := Lib.hid hb
      clear hc1 hc2 hg1 hg2 hwd hwe hT hb e3 e4 e5 e6
      go_wp2_with fail
      go_quiet (fail)
      go_wp2_with fail
      exact ⟨⟨i + 1, by omega, by first | rfl | go_num, Below.drewN HB.out _⟩, by simp [intOf]; omega⟩
    · have hdi : decide ((i : Int) < (n : Int)) = false := decide_eq_false (by omega)
      have HB := Lib.hid hb
      clear hb
      go_wp2_with fail
      go_ret
      exact ⟨rfl, HB.out⟩
end Go.Proofs.YtofjifhnkcghpaaDoor
