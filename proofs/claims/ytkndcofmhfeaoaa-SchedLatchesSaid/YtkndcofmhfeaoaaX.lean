/- SchedLatches. -/
import Derived.Test.YtkndcofmhfeaoaaS
import Derived.Test.YtkndcofmhfeaoaaW
namespace Go.Proofs.Ytkndcofmhfeaoaa
open Go.RowKit Go.Maps
set_option linter.unusedVariables false
set_option linter.unusedSimpArgs false
set_option maxRecDepth 100000 in
set_option maxHeartbeats 8000000 in
theorem latches7 (late : List Bool) (la : Int) (v : Value) (w : World) (hrow : Row w.heap.size w v late.length 1 (late.map Value.bool)) (hla2 : la ≤ 9223372036854775807) : Calls Try.prog 7 #[v, .int .i64 la] w fun e w' => e = .returned (.bool true) ∧ Below w.heap.size w w' := by
  have HROW := Lib.hid hrow
  obtain ⟨hl1, a, cap, rfl, hcap, hmax, hcell⟩ := hrow
  have HCELL := Lib.hid hcell
  clear hcell
  obtain ⟨n, hn⟩ : ∃ n, n = late.length := ⟨_, rfl⟩
  have HN := Lib.hid hn
  rw [← hn] at hl1 hcap HCELL
  rw [← hn]
  obtain ⟨m, hm⟩ : ∃ m, m = min n 30 := ⟨_, rfl⟩
  have hmn : m ≤ n := by omega
  have hm30 : m ≤ 30 := by omega
  have HM := Lib.hid hm
  clear hn hm
  by_cases hneg : la < 0
  · have hd : decide (la < 0) = true := decide_eq_true hneg
    go_enter Try.func7, Try.ntmps7
    go_wp2_with fail
    refine (awake9 w).mono ?_
    rintro e w1 ⟨rfl, hB1⟩
    go_wp2_with fail
    refine (new10 w1).mono ?_
    rintro e w0 ⟨rfl, rfl⟩
    have HB := Lib.hid hB1
    clear hB1
    go_wp2_with fail
    go_ret
    exact ⟨rfl, Below.al HB.out _⟩
  have hd : decide (la < 0) = false := decide_eq_false hneg
  go_enter Try.func7, Try.ntmps7
  go_wp2_with fail
  refine (awake9 w).mono ?_
  rintro e w1 ⟨rfl, hB1⟩
  go_wp2_with fail
  refine (new10 w1).mono ?_
  rintro e w0 ⟨rfl, hw0⟩
  have HQ0 : Hid (Own w1 w1.heap.size w0 (ws 0 (lateT late la) [])) := by rw [hw0]; exact Lib.hid (Own.new w1)
  obtain ⟨S, hS⟩ : ∃ S, S = w1.heap.size := ⟨_, rfl⟩
  rw [← hS] at HQ0 ⊢
  have HB := Lib.hid hB1
  clear hB1 hS hw0
  go_wp2_with fail
  go_loopw [7, 8] (fun c i wr => ∃ k : Nat, k ≤ m ∧ i = .int .i64 k ∧ c = .int .i64 (waitN late k : Nat) ∧ Own w1 S wr (ws k (lateT late la) [])) (fun _ i _ => m - (intOf i).toNat)
  case atStart => exact ⟨0, by omega, rfl, rfl, HQ0.out⟩
  case round =>
    obtain ⟨k, hk, rfl, rfl, hq⟩ := hrel
    have HQ := Lib.hid hq
    clear hq
    have hwl := waitN_le late k
    have hws := waitN_succ late k
    by_cases hlt : k < m
    · have hlt1 : k < n := by omega
      have hlt2 : k < 30 := by omega
      have hd1 : decide ((k : Int) < (n : Int)) = true := decide_eq_true (by omega)
      have hd2 : decide ((k : Int) < 30) = true := decide_eq_true (by omega)
      have hs := ws_start (n := k) (lateT late la) [] (by omega)
      have HC := HQ.out.start (by show k < _; omega)
      rw [hs.1, hs.2] at HC
      have HC := Lib.hid HC
      obtain ⟨b, off, rfl, hb, hcl⟩ := HCELL.out (by omega)
      have hck : wr.cell? ⟨b, off + k, none⟩ = some (.bool (late.getD k false)) := by
        obtain ⟨G, -, -, hBw⟩ := HQ.out
        rw [hBw.cell (by have := HB.out.size; show b < _; omega), HB.out.cell (by exact hb), hcl k (by omega)]
        have : k < late.length := by rw [← HN.out]; exact hlt1
        simp [List.getD_eq_getElem?_getD, this]
      clear hs hcl hb
      obtain ⟨c, hc⟩ : ∃ c, c = waitN late k := ⟨_, rfl⟩
      have HWS := Lib.hid hws
      clear hws
      go_wp2_with fail
      refine HC.out.mono ?_
      rintro e w3 ⟨rfl, hq⟩
      have hck : w3.cell? ⟨b, off + k, none⟩ = some (.bool (late.getD k false)) := by
        obtain ⟨G, -, -, hBw⟩ := hq
        obtain ⟨b', off', e, hb', hcl⟩ := HCELL.out (by omega)
        cases e
        rw [hBw.cell (by have := HB.out.size; show b < _; omega), HB.out.cell (by exact hb'), hcl k (by omega)]
        have : k < late.length := by rw [← HN.out]; exact hlt1
        simp [List.getD_eq_getElem?_getD, this]
      have HQ2 := Lib.hid hq
      clear hq
      cases hL : late.getD k false
      · rw [hL] at hck
        have HLT := Lib.hid hL
        clear hL
        have ha := ws_await (n := k + 1) (j := k) (fun j => if j = k then free0 0 else lateT late la j) (by omega) (la := la) (by omega) (by rw [if_pos rfl])
        have HA := HQ2.out.await (x := (k : Int) + 1) (n := la) (wfi (by omega) (by omega)) (wfi (by omega) hla2)
        rw [ha.1, ha.2, lateT_succ2 late la k HLT.out] at HA
        have HA := Lib.hid HA
        clear ha
        go_wp2_with fail
        refine HA.out.mono ?_
        rintro e w4 ⟨rfl, hq⟩
        have HQ3 := Lib.hid hq
        clear hq
        have he := ws_end (n := k + 1) (j := k) (lateT late la) (by omega) (la := la) (by omega) (by unfold lateT; rw [HLT.out]; rfl)
        have HE := HQ3.out.fin (x := (k : Int) + 1) (wfi (by omega) (by omega)) (by show k + 1 < _; omega) (by show 0 ≤ 4096; omega)
        rw [he.1, he.2] at HE
        have HE := Lib.hid HE
        clear he
        go_wp2_with fail
        refine HE.out.mono ?_
        rintro e w5 ⟨rfl, hq⟩
        have HQ4 := Lib.hid hq
        clear hq
        have hwr : wrap64 ((waitN late k : Nat) + 1 : Int) = (waitN late k : Nat) + 1 := w64 (by omega)
        go_wp2_with fail
        go_roundw
        case rel => first | exact ⟨k + 1, by omega, by go_num, by rw [HWS.out, HLT.out]; simp, HQ4.out⟩ | ((repeat apply Exists.intro) ; exact ⟨⟨k + 1, by omega, by go_num, by rw [HWS.out, HLT.out]; simp, HQ4.out⟩, rfl⟩)
        case measure => simp [intOf]; omega
      · rw [hL] at hck
        have HQ3 := HQ2.out
        rw [lateT_succ late la k hL] at HQ3
        have HQ3 := Lib.hid HQ3
        have HLT := Lib.hid hL
        clear hL
        go_wp2_with fail
        go_roundw
        case rel => first | exact ⟨k + 1, by omega, by go_num, by rw [HWS.out, HLT.out]; simp, HQ3.out⟩ | ((repeat apply Exists.intro) ; exact ⟨⟨k + 1, by omega, by go_num, by rw [HWS.out, HLT.out]; simp, HQ3.out⟩, rfl⟩)
        case measure => simp [intOf]; omega
    · have hk' : k = m := by omega
      subst hk'
      have ho := ws_open late k (la := la) (by omega)
      have HC := HQ.out.open (n := la) (wfi (by omega) hla2) (by show k < _; omega) (by show 0 < _; omega)
      rw [ho.1, ho.2] at HC
      have HC := Lib.hid HC
      clear ho hws
      obtain ⟨c, hc⟩ : ∃ c, c = waitN late k := ⟨_, rfl⟩
      rw [← hc] at HC ⊢
      clear hc hwl
      have hcase : (decide ((k : Int) < (n : Int)) = false ∧ ¬ k < n) ∨ (decide ((k : Int) < (n : Int)) = true ∧ k < n ∧ decide ((k : Int) < 30) = false ∧ ¬ k < 30) := by
        have hm := HM.out
        by_cases h : k < n
        · exact .inr ⟨decide_eq_true (by omega), h, decide_eq_false (by omega), by omega⟩
        · exact .inl ⟨decide_eq_false (by omega), h⟩
      have HCASE := Lib.hid hcase
      clear hcase
      rcases HCASE.out with ⟨hd1, hd2⟩ | ⟨hd1, hd2, hd3, hd4⟩
      all_goals (
        go_wp2_with fail
        refine HC.out.mono ?_
        rintro e w3 ⟨rfl, hq⟩
        have HQ2 := Lib.hid hq
        clear hq
        clear hd1 hd2
        try clear hd3 hd4
        go_wp2_with fail
        go_loopw [14] (fun i wr => ∃ j : Nat, j ≤ k ∧ i = .int .i64 j ∧ Own w1 S wr (ws k (fun _ => free0 0) [la])) (fun i _ => k - (intOf i).toNat)
        case atStart => exact ⟨0, by omega, rfl, HQ2.out⟩
        case round =>
          obtain ⟨j, hj, rfl, hq⟩ := hrel
          have HQ3 := Lib.hid hq
          clear hq
          by_cases hlt3 : j < k
          · have hd1 : decide ((j : Int) < (n : Int)) = true := decide_eq_true (by omega)
            have hd2 : decide ((j : Int) < 30) = true := decide_eq_true (by omega)
            have ha := ws_await2 (n := k) (j := j) (fun _ => free0 0) hlt3 (la := la) (by omega) rfl
            have HA := HQ3.out.await (x := (j : Int) + 1) (n := la) (wfi (by omega) (by omega)) (wfi (by omega) hla2)
            rw [ha.1, ha.2] at HA
            have HA := Lib.hid HA
            clear ha
            go_wp2_with fail
            refine HA.out.mono ?_
            rintro e w4 ⟨rfl, hq⟩
            have HQ4 := Lib.hid hq
            clear hq
            go_wp2_with fail
            go_roundw
            case rel => first | exact ⟨j + 1, by omega, by go_num, HQ4.out⟩ | ((repeat apply Exists.intro) ; exact ⟨⟨j + 1, by omega, by go_num, HQ4.out⟩, rfl⟩)
            case measure => simp [intOf]; omega
          · have hj' : j = k := by omega
            subst hj'
            have HC := HQ3.out.open (n := la) (wfi (by omega) hla2) (by show j < _; omega) (by show 1 < _; omega)
            rw [ws_open2 j (la := la) (by omega)] at HC
            have HC := Lib.hid HC
            rcases HCASE.out with ⟨hd1, hd2⟩ | ⟨hd1, hd2, hd3, hd4⟩
            all_goals (
              go_wp2_with fail
              refine HC.out.mono ?_
              rintro e w5 ⟨rfl, hq⟩
              have HQ5 := Lib.hid hq
              clear hq
              go_wp2_with fail
              go_ret
              obtain ⟨G, -, -, hBz⟩ := HQ5.out
              exact ⟨rfl, Below.call HB.out hBz⟩))
theorem wf_le {x : Int} (h : (Lit.int .i64 x).wf = true) : -9223372036854775808 ≤ x ∧ x ≤ 9223372036854775807 := by
  simp only [Lit.wf, Bool.and_eq_true, decide_eq_true_eq] at h
  exact ⟨Int.le_trans (by decide) h.1, Int.le_trans h.2 (by decide)⟩
theorem latchesLaw (v : Value) (la : Int) (w : World) (late : List Bool) (r : Row w.heap.size w v late.length 1 (late.map Value.bool)) (hw : (Lit.int .i64 la).wf = true) : Calls Try.prog 7 #[v, .int .i64 la] w fun e w' => e = .returned (.bool true) ∧ Below w.heap.size w w' :=
  latches7 late la v w r (wf_le hw).2
end Go.Proofs.Ytkndcofmhfeaoaa
