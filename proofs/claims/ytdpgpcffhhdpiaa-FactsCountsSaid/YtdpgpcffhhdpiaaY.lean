/- same: two readings of one list of facts are the same. -/
import Derived.Test.YtdpgpcffhhdpiaaV
namespace Go.Proofs.Ytdpgpcffhhdpiaa
open Go.RowKit Go.Maps
set_option linter.unusedVariables false
set_option linter.unusedSimpArgs false

theorem RowF.form {A : Nat} {w : World} {v : Value} {l : List FactT} (h : RowF A w v l) : ∃ a c, v = .slice a l.length c := by
  obtain ⟨ps, hps, ⟨a, c, rfl, -⟩, -⟩ := h
  exact ⟨a, c, by rw [hps]⟩
set_option maxRecDepth 100000 in
set_option maxHeartbeats 8000000 in
theorem same13 (A A2 : Nat) (v v2 : Value) (l : List FactT) (w : World) (h1 : RowF A w v l) (h2 : RowF A2 w v2 l) (hl : l.length ≤ 4294967296) : Calls Try.prog 13 #[v, v2] w fun e w' => e = .returned (.bool true) ∧ ∃ n, w' = w.drewN n := by
  obtain ⟨a1, c1, rfl⟩ := h1.form
  obtain ⟨a2, c2, rfl⟩ := h2.form
  have H1 := Lib.hid h1
  have H2 := Lib.hid h2
  clear h1 h2
  go_enter Try.func13, Try.ntmps13
  go_wp2
  go_loopw [5] (fun i wr => ∃ k n : Nat, k ≤ l.length ∧ i = .int .i64 k ∧ wr = w.drewN n) (fun i _ => l.length - (intOf i).toNat)
  case atStart => exact ⟨0, 0, by omega, rfl, rfl⟩
  case round =>
    obtain ⟨k, n, hk, rfl, rfl⟩ := hrel
    by_cases hlt : k < l.length
    · obtain ⟨f, hf⟩ : ∃ f, l[k]? = some f := ⟨_, List.getElem?_eq_getElem hlt⟩
      obtain ⟨b1, o1, x1, e1, -, ad1, cd1, am1, cm1, k0, k1, i1, i2, i3, i4, hD1, hM1⟩ := open_fact H1.out hf
      obtain ⟨b2, o2, x2, e2, -, ad2, cd2, am2, cm2, j0, j1, i5, i6, i7, i8, hD2, hM2⟩ := open_fact H2.out hf
      injection e1 with e11 e12 e13
      injection e2 with e21 e22 e23
      subst e11 e13 e21 e23
      have HX := Lib.hid (And.intro hD1 (And.intro hM1 (And.intro hD2 hM2)))
      have hkI : decide ((k : Int) < (l.length : Int)) = true := decide_eq_true (by omega)
      rw [← Nat.add_assoc] at k1 j1
      clear hD1 hM1 hD2 hM2 e12 e22 hf
      generalize f.dims.length = D at *
      generalize f.meas.length = M at *
      go_upto_region 6 with fail
      go_quiet (fail)
      go_wp2
      go_loopw [6] (fun j wr => ∃ (q n2 : Nat), q ≤ D ∧ j = .int .i64 q ∧ wr = w.drewN n2) (fun j _ => D - (intOf j).toNat)
      case atStart => exact ⟨0, _, by omega, rfl, by first | rfl | exact World.drewN_drewN _ _ _⟩
      case round =>
        obtain ⟨q, n2, hq, rfl, rfl⟩ := hrel
        by_cases hlq : q < D
        · obtain ⟨bd1, od1, rfl, -, hc1⟩ := HX.out.1 (by omega)
          obtain ⟨bd2, od2, rfl, -, hc2⟩ := HX.out.2.2.1 (by omega)
          have g1 := hc1 q hlq
          have g2 := hc2 q hlq
          generalize f.dims.getD q ByteArray.empty = t at g1 g2
          have hqI : decide ((q : Int) < (D : Int)) = true := decide_eq_true (by omega)
          clear hc1 hc2
          go_wp2
          go_quiet (fail)
          go_wp2
          go_roundw
          case rel => exact ⟨q + 1, _, by omega, by go_num, by first | rfl | exact World.drewN_drewN _ _ _⟩
          case measure => simp [intOf]; omega
        · obtain rfl : q = D := by omega
          go_wp2
          go_loopw [7] (fun j wr => ∃ (q n2 : Nat), q ≤ M ∧ j = .int .i64 q ∧ wr = w.drewN n2) (fun j _ => M - (intOf j).toNat)
          case atStart => exact ⟨0, _, by omega, rfl, by first | rfl | exact World.drewN_drewN _ _ _⟩
          case round =>
            obtain ⟨q, n2, hq, rfl, rfl⟩ := hrel
            by_cases hlq : q < M
            · obtain ⟨bd1, od1, rfl, -, hc1⟩ := HX.out.2.1 (by omega)
              obtain ⟨bd2, od2, rfl, -, hc2⟩ := HX.out.2.2.2 (by omega)
              have g1 := hc1 q hlq
              have g2 := hc2 q hlq
              generalize f.meas.getD q 0 = t at g1 g2
              have hqI : decide ((q : Int) < (M : Int)) = true := decide_eq_true (by omega)
              clear hc1 hc2
              go_wp2
              go_quiet (fail)
              go_wp2
              go_roundw
              case rel => exact ⟨q + 1, _, by omega, by go_num, by first | rfl | exact World.drewN_drewN _ _ _⟩
              case measure => simp [intOf]; omega
            · obtain rfl : q = M := by omega
              go_wp2
              go_roundw
              case rel => exact ⟨k + 1, _, by omega, by go_num, by first | rfl | exact World.drewN_drewN _ _ _⟩
              case measure => simp [intOf]; omega
    · go_wp2
      go_ret
      exact ⟨rfl, _, rfl⟩
end Go.Proofs.Ytdpgpcffhhdpiaa
