/- SchedTurns. -/
import Derived.Test.YtkndcofmhfeaoaaS
import Derived.Test.YtkndcofmhfeaoaaU
namespace Go.Proofs.Ytkndcofmhfeaoaa
open Go.RowKit Go.Maps
set_option linter.unusedVariables false
set_option linter.unusedSimpArgs false
theorem tmod_sign (a : Int) (m : Nat) (hm : 0 < m) : (∃ N : Nat, a.tmod (m : Int) = (N : Int) ∧ N < m) ∨ (∃ N : Nat, a.tmod (m : Int) = -(N : Int) ∧ 0 < N ∧ N < m) := by
  have h1 := Int.tmod_lt_of_pos a (show (0 : Int) < m by omega)
  have h2 := Int.lt_tmod_of_pos a (show (0 : Int) < m by omega)
  by_cases h : 0 ≤ a.tmod (m : Int)
  · exact .inl ⟨(a.tmod (m : Int)).toNat, by omega, by omega⟩
  · exact .inr ⟨(-(a.tmod (m : Int))).toNat, by omega, by omega, by omega⟩
set_option maxRecDepth 100000 in
set_option maxHeartbeats 8000000 in
theorem turns_nn (a b : Int) (N K : Nat) (w : World) (hx : a.tmod 31 = -(N : Int)) (hy : b.tmod 301 = -(K : Int)) (pN : 0 < N) (pK : 0 < K) (lN : N ≤ 30) (lK : K ≤ 300) : Calls Try.prog 5 #[.int .i64 a, .int .i64 b] w fun e w' => e = .returned (.bool true) ∧ Below w.heap.size w w' := by
  go_enter Try.func5, Try.ntmps5
  go_wp2_with fail
  refine (awake9 w).mono ?_
  rintro e w1 ⟨rfl, hB1⟩
  go_wp2_with fail
  refine (new10 w1).mono ?_
  rintro e w0 ⟨rfl, hw0⟩
  have HQ0 : Hid (Own w1 w1.heap.size w0 (st 0 (fun _ => 0))) := by rw [hw0]; exact Lib.hid (Own.new w1)
  obtain ⟨S, hS⟩ : ∃ S, S = w1.heap.size := ⟨_, rfl⟩
  rw [← hS] at HQ0 ⊢
  have HB := Lib.hid hB1
  clear hB1 hS hw0
  go_wp2_with fail
  go_loopw [9] (fun i wr => ∃ k : Nat, k ≤ N ∧ i = .int .i64 k ∧ Own w1 S wr (st k (fun _ => 0))) (fun i _ => N - (intOf i).toNat)
  case atStart => exact ⟨0, by omega, rfl, HQ0.out⟩
  case round =>
    obtain ⟨k, hk, rfl, hq⟩ := hrel
    have HQ := Lib.hid hq
    clear hq
    by_cases hlt : k < N
    · have hs := st_start (n := k) (by omega)
      have HC := HQ.out.start (by show k < _; omega)
      rw [hs.1, hs.2] at HC
      have HC := Lib.hid HC
      clear hs
      go_wp2_with fail
      refine HC.out.mono ?_
      rintro e w3 ⟨rfl, hq⟩
      have HQ2 := Lib.hid hq
      clear hq
      go_wp2_with fail
      go_roundw
      case rel => exact ⟨k + 1, by omega, by go_num, HQ2.out⟩
      case measure => simp [intOf]; omega
    · have hk' : k = N := by omega
      subst hk'
      have HQT : Hid (Own w1 S wr (turnS k 0)) := by rw [turnS_zero]; exact HQ
      clear HQ
      go_wp2_with fail
      go_loopw [10] (fun i wr => ∃ j : Nat, j ≤ K ∧ i = .int .i64 j ∧ Own w1 S wr (turnS k j)) (fun i _ => K - (intOf i).toNat)
      case atStart => exact ⟨0, by omega, rfl, HQT.out⟩
      case round =>
        obtain ⟨j, hj, rfl, hq⟩ := hrel
        have HQ := Lib.hid hq
        clear hq
        by_cases hlt2 : j < K
        · have HC := HQ.out.pick (n := (j : Int)) (by omega) (by show k < _; omega) (fun p hp => by have := turnS_bound k j p hp; omega)
          by_cases hk0 : 0 < k
          · have hs := turnS_pick j hk0
            rw [hs.1, hs.2] at HC
            have HC := Lib.hid HC
            have hrem : ((j : Nat) : Int).tmod (k : Int) = ((j % k : Nat) : Int) := rfl
            have hml : j % k < k := Nat.mod_lt _ hk0
            have hne : ¬ (k : Int) = 0 := by omega
            obtain ⟨r, hr⟩ : ∃ r, r = j % k := ⟨_, rfl⟩
            rw [← hr] at hrem hml HC
            clear hs hr
            go_wp2_with fail
            refine HC.out.mono ?_
            rintro e w3 ⟨rfl, hq⟩
            have HQ2 := Lib.hid hq
            clear hq
            go_wp2_with fail
            go_roundw
            case rel => first | exact ⟨j + 1, by omega, by go_num, HQ2.out⟩ | ((repeat apply Exists.intro) ; exact ⟨⟨j + 1, by omega, by go_num, HQ2.out⟩, rfl⟩)
            case measure => simp [intOf]; omega
          · have hk00 : k = 0 := by omega
            subst hk00
            have hs := turnS_pick0 j j
            rw [hs.1, hs.2] at HC
            have HC := Lib.hid HC
            clear hs
            go_wp2_with fail
            refine HC.out.mono ?_
            rintro e w3 ⟨rfl, hq⟩
            have HQ2 := Lib.hid hq
            clear hq
            go_wp2_with fail
            go_roundw
            case rel => first | exact ⟨j + 1, by omega, by go_num, HQ2.out⟩ | ((repeat apply Exists.intro) ; exact ⟨⟨j + 1, by omega, by go_num, HQ2.out⟩, rfl⟩)
            case measure => simp [intOf]; omega
        · have hj' : j = K := by omega
          subst hj'
          go_wp2_with fail
          obtain ⟨ws, rfl⟩ : ∃ x : World, x = wr := ⟨_, rfl⟩
          go_loopw [13] (fun i wr => ∃ m : Nat, m ≤ k ∧ i = .int .i64 ((m : Int) + 1) ∧ wr = ws) (fun i _ => k + 1 - (intOf i).toNat)
          case atStart => exact ⟨0, by omega, rfl, rfl⟩
          case round =>
            obtain ⟨m, hm, rfl, rfl⟩ := hrel
            by_cases hlt3 : m < k
            · have HC := HQ.out.picks (n := (m : Int) + 1) (wfi (by omega) (by omega))
              have hcn := cnt_near j hlt3
              have hcl := cnt_le k j m hlt3
              rw [show picksP (turnS k j) ((m : Int) + 1) = cnt k j m from st_picks _ hlt3] at HC
              have HC := Lib.hid HC
              have hquo : ((j : Nat) : Int).tdiv (k : Int) = ((j / k : Nat) : Int) := rfl
              have hne : ¬ (k : Int) = 0 := by omega
              have hdl : j / k ≤ j := Nat.div_le_self j k
              have hle : decide ((m : Int) + 1 ≤ (k : Int)) = true := decide_eq_true (by omega)
              obtain ⟨r, hr⟩ : ∃ r, r = j / k := ⟨_, rfl⟩
              obtain ⟨c, hc⟩ : ∃ c, c = cnt k j m := ⟨_, rfl⟩
              rw [← hr] at hquo hcn hdl
              rw [← hc] at HC hcn hcl
              clear hr hc
              go_wp2_with fail
              refine HC.out.mono ?_
              rintro e w3 ⟨rfl, rfl⟩
              have hw1 : wrap64 ((r : Int) + 1) = (r : Int) + 1 := w64 (by omega)
              rcases hcn with rfl | rfl
              · go_wp2_with fail
                go_roundw
                case rel => exact ⟨m + 1, by omega, by go_num, by first | rfl | trivial⟩
                case measure => simp [intOf]; omega
              · have hne2 : ¬ ((r : Int) + 1 = (r : Int)) := by omega
                go_wp2_with fail
                go_roundw
                case rel => exact ⟨m + 1, by omega, by go_num, by first | rfl | trivial⟩
                case measure => simp [intOf]; omega
            · have hle : decide ((m : Int) + 1 ≤ (k : Int)) = false := decide_eq_false (by omega)
              go_wp2_with fail
              go_ret
              obtain ⟨G, -, -, hB⟩ := HQ.out
              exact ⟨rfl, Below.call HB.out hB⟩
set_option maxRecDepth 100000 in
set_option maxHeartbeats 8000000 in
theorem turns_np (a b : Int) (N K : Nat) (w : World) (hx : a.tmod 31 = -(N : Int)) (hy : b.tmod 301 = (K : Int)) (pN : 0 < N) (lN : N ≤ 30) (lK : K ≤ 300) : Calls Try.prog 5 #[.int .i64 a, .int .i64 b] w fun e w' => e = .returned (.bool true) ∧ Below w.heap.size w w' := by
  go_enter Try.func5, Try.ntmps5
  go_wp2_with fail
  refine (awake9 w).mono ?_
  rintro e w1 ⟨rfl, hB1⟩
  go_wp2_with fail
  refine (new10 w1).mono ?_
  rintro e w0 ⟨rfl, hw0⟩
  have HQ0 : Hid (Own w1 w1.heap.size w0 (st 0 (fun _ => 0))) := by rw [hw0]; exact Lib.hid (Own.new w1)
  obtain ⟨S, hS⟩ : ∃ S, S = w1.heap.size := ⟨_, rfl⟩
  rw [← hS] at HQ0 ⊢
  have HB := Lib.hid hB1
  clear hB1 hS hw0
  go_wp2_with fail
  go_loopw [9] (fun i wr => ∃ k : Nat, k ≤ N ∧ i = .int .i64 k ∧ Own w1 S wr (st k (fun _ => 0))) (fun i _ => N - (intOf i).toNat)
  case atStart => exact ⟨0, by omega, rfl, HQ0.out⟩
  case round =>
    obtain ⟨k, hk, rfl, hq⟩ := hrel
    have HQ := Lib.hid hq
    clear hq
    by_cases hlt : k < N
    · have hs := st_start (n := k) (by omega)
      have HC := HQ.out.start (by show k < _; omega)
      rw [hs.1, hs.2] at HC
      have HC := Lib.hid HC
      clear hs
      go_wp2_with fail
      refine HC.out.mono ?_
      rintro e w3 ⟨rfl, hq⟩
      have HQ2 := Lib.hid hq
      clear hq
      go_wp2_with fail
      go_roundw
      case rel => exact ⟨k + 1, by omega, by go_num, HQ2.out⟩
      case measure => simp [intOf]; omega
    · have hk' : k = N := by omega
      subst hk'
      have HQT : Hid (Own w1 S wr (turnS k 0)) := by rw [turnS_zero]; exact HQ
      clear HQ
      go_wp2_with fail
      go_loopw [10] (fun i wr => ∃ j : Nat, j ≤ K ∧ i = .int .i64 j ∧ Own w1 S wr (turnS k j)) (fun i _ => K - (intOf i).toNat)
      case atStart => exact ⟨0, by omega, rfl, HQT.out⟩
      case round =>
        obtain ⟨j, hj, rfl, hq⟩ := hrel
        have HQ := Lib.hid hq
        clear hq
        by_cases hlt2 : j < K
        · have HC := HQ.out.pick (n := (j : Int)) (by omega) (by show k < _; omega) (fun p hp => by have := turnS_bound k j p hp; omega)
          by_cases hk0 : 0 < k
          · have hs := turnS_pick j hk0
            rw [hs.1, hs.2] at HC
            have HC := Lib.hid HC
            have hrem : ((j : Nat) : Int).tmod (k : Int) = ((j % k : Nat) : Int) := rfl
            have hml : j % k < k := Nat.mod_lt _ hk0
            have hne : ¬ (k : Int) = 0 := by omega
            obtain ⟨r, hr⟩ : ∃ r, r = j % k := ⟨_, rfl⟩
            rw [← hr] at hrem hml HC
            clear hs hr
            go_wp2_with fail
            refine HC.out.mono ?_
            rintro e w3 ⟨rfl, hq⟩
            have HQ2 := Lib.hid hq
            clear hq
            go_wp2_with fail
            go_roundw
            case rel => first | exact ⟨j + 1, by omega, by go_num, HQ2.out⟩ | ((repeat apply Exists.intro) ; exact ⟨⟨j + 1, by omega, by go_num, HQ2.out⟩, rfl⟩)
            case measure => simp [intOf]; omega
          · have hk00 : k = 0 := by omega
            subst hk00
            have hs := turnS_pick0 j j
            rw [hs.1, hs.2] at HC
            have HC := Lib.hid HC
            clear hs
            go_wp2_with fail
            refine HC.out.mono ?_
            rintro e w3 ⟨rfl, hq⟩
            have HQ2 := Lib.hid hq
            clear hq
            go_wp2_with fail
            go_roundw
            case rel => first | exact ⟨j + 1, by omega, by go_num, HQ2.out⟩ | ((repeat apply Exists.intro) ; exact ⟨⟨j + 1, by omega, by go_num, HQ2.out⟩, rfl⟩)
            case measure => simp [intOf]; omega
        · have hj' : j = K := by omega
          subst hj'
          go_wp2_with fail
          obtain ⟨ws, rfl⟩ : ∃ x : World, x = wr := ⟨_, rfl⟩
          go_loopw [13] (fun i wr => ∃ m : Nat, m ≤ k ∧ i = .int .i64 ((m : Int) + 1) ∧ wr = ws) (fun i _ => k + 1 - (intOf i).toNat)
          case atStart => exact ⟨0, by omega, rfl, rfl⟩
          case round =>
            obtain ⟨m, hm, rfl, rfl⟩ := hrel
            by_cases hlt3 : m < k
            · have HC := HQ.out.picks (n := (m : Int) + 1) (wfi (by omega) (by omega))
              have hcn := cnt_near j hlt3
              have hcl := cnt_le k j m hlt3
              rw [show picksP (turnS k j) ((m : Int) + 1) = cnt k j m from st_picks _ hlt3] at HC
              have HC := Lib.hid HC
              have hquo : ((j : Nat) : Int).tdiv (k : Int) = ((j / k : Nat) : Int) := rfl
              have hne : ¬ (k : Int) = 0 := by omega
              have hdl : j / k ≤ j := Nat.div_le_self j k
              have hle : decide ((m : Int) + 1 ≤ (k : Int)) = true := decide_eq_true (by omega)
              obtain ⟨r, hr⟩ : ∃ r, r = j / k := ⟨_, rfl⟩
              obtain ⟨c, hc⟩ : ∃ c, c = cnt k j m := ⟨_, rfl⟩
              rw [← hr] at hquo hcn hdl
              rw [← hc] at HC hcn hcl
              clear hr hc
              go_wp2_with fail
              refine HC.out.mono ?_
              rintro e w3 ⟨rfl, rfl⟩
              have hw1 : wrap64 ((r : Int) + 1) = (r : Int) + 1 := w64 (by omega)
              rcases hcn with rfl | rfl
              · go_wp2_with fail
                go_roundw
                case rel => exact ⟨m + 1, by omega, by go_num, by first | rfl | trivial⟩
                case measure => simp [intOf]; omega
              · have hne2 : ¬ ((r : Int) + 1 = (r : Int)) := by omega
                go_wp2_with fail
                go_roundw
                case rel => exact ⟨m + 1, by omega, by go_num, by first | rfl | trivial⟩
                case measure => simp [intOf]; omega
            · have hle : decide ((m : Int) + 1 ≤ (k : Int)) = false := decide_eq_false (by omega)
              go_wp2_with fail
              go_ret
              obtain ⟨G, -, -, hB⟩ := HQ.out
              exact ⟨rfl, Below.call HB.out hB⟩
set_option maxRecDepth 100000 in
set_option maxHeartbeats 8000000 in
theorem turns_pn (a b : Int) (N K : Nat) (w : World) (hx : a.tmod 31 = (N : Int)) (hy : b.tmod 301 = -(K : Int)) (pK : 0 < K) (lN : N ≤ 30) (lK : K ≤ 300) : Calls Try.prog 5 #[.int .i64 a, .int .i64 b] w fun e w' => e = .returned (.bool true) ∧ Below w.heap.size w w' := by
  go_enter Try.func5, Try.ntmps5
  go_wp2_with fail
  refine (awake9 w).mono ?_
  rintro e w1 ⟨rfl, hB1⟩
  go_wp2_with fail
  refine (new10 w1).mono ?_
  rintro e w0 ⟨rfl, hw0⟩
  have HQ0 : Hid (Own w1 w1.heap.size w0 (st 0 (fun _ => 0))) := by rw [hw0]; exact Lib.hid (Own.new w1)
  obtain ⟨S, hS⟩ : ∃ S, S = w1.heap.size := ⟨_, rfl⟩
  rw [← hS] at HQ0 ⊢
  have HB := Lib.hid hB1
  clear hB1 hS hw0
  go_wp2_with fail
  go_loopw [9] (fun i wr => ∃ k : Nat, k ≤ N ∧ i = .int .i64 k ∧ Own w1 S wr (st k (fun _ => 0))) (fun i _ => N - (intOf i).toNat)
  case atStart => exact ⟨0, by omega, rfl, HQ0.out⟩
  case round =>
    obtain ⟨k, hk, rfl, hq⟩ := hrel
    have HQ := Lib.hid hq
    clear hq
    by_cases hlt : k < N
    · have hs := st_start (n := k) (by omega)
      have HC := HQ.out.start (by show k < _; omega)
      rw [hs.1, hs.2] at HC
      have HC := Lib.hid HC
      clear hs
      go_wp2_with fail
      refine HC.out.mono ?_
      rintro e w3 ⟨rfl, hq⟩
      have HQ2 := Lib.hid hq
      clear hq
      go_wp2_with fail
      go_roundw
      case rel => exact ⟨k + 1, by omega, by go_num, HQ2.out⟩
      case measure => simp [intOf]; omega
    · have hk' : k = N := by omega
      subst hk'
      have HQT : Hid (Own w1 S wr (turnS k 0)) := by rw [turnS_zero]; exact HQ
      clear HQ
      go_wp2_with fail
      go_loopw [10] (fun i wr => ∃ j : Nat, j ≤ K ∧ i = .int .i64 j ∧ Own w1 S wr (turnS k j)) (fun i _ => K - (intOf i).toNat)
      case atStart => exact ⟨0, by omega, rfl, HQT.out⟩
      case round =>
        obtain ⟨j, hj, rfl, hq⟩ := hrel
        have HQ := Lib.hid hq
        clear hq
        by_cases hlt2 : j < K
        · have HC := HQ.out.pick (n := (j : Int)) (by omega) (by show k < _; omega) (fun p hp => by have := turnS_bound k j p hp; omega)
          by_cases hk0 : 0 < k
          · have hs := turnS_pick j hk0
            rw [hs.1, hs.2] at HC
            have HC := Lib.hid HC
            have hrem : ((j : Nat) : Int).tmod (k : Int) = ((j % k : Nat) : Int) := rfl
            have hml : j % k < k := Nat.mod_lt _ hk0
            have hne : ¬ (k : Int) = 0 := by omega
            obtain ⟨r, hr⟩ : ∃ r, r = j % k := ⟨_, rfl⟩
            rw [← hr] at hrem hml HC
            clear hs hr
            go_wp2_with fail
            refine HC.out.mono ?_
            rintro e w3 ⟨rfl, hq⟩
            have HQ2 := Lib.hid hq
            clear hq
            go_wp2_with fail
            go_roundw
            case rel => first | exact ⟨j + 1, by omega, by go_num, HQ2.out⟩ | ((repeat apply Exists.intro) ; exact ⟨⟨j + 1, by omega, by go_num, HQ2.out⟩, rfl⟩)
            case measure => simp [intOf]; omega
          · have hk00 : k = 0 := by omega
            subst hk00
            have hs := turnS_pick0 j j
            rw [hs.1, hs.2] at HC
            have HC := Lib.hid HC
            clear hs
            go_wp2_with fail
            refine HC.out.mono ?_
            rintro e w3 ⟨rfl, hq⟩
            have HQ2 := Lib.hid hq
            clear hq
            go_wp2_with fail
            go_roundw
            case rel => first | exact ⟨j + 1, by omega, by go_num, HQ2.out⟩ | ((repeat apply Exists.intro) ; exact ⟨⟨j + 1, by omega, by go_num, HQ2.out⟩, rfl⟩)
            case measure => simp [intOf]; omega
        · have hj' : j = K := by omega
          subst hj'
          go_wp2_with fail
          obtain ⟨ws, rfl⟩ : ∃ x : World, x = wr := ⟨_, rfl⟩
          go_loopw [13] (fun i wr => ∃ m : Nat, m ≤ k ∧ i = .int .i64 ((m : Int) + 1) ∧ wr = ws) (fun i _ => k + 1 - (intOf i).toNat)
          case atStart => exact ⟨0, by omega, rfl, rfl⟩
          case round =>
            obtain ⟨m, hm, rfl, rfl⟩ := hrel
            by_cases hlt3 : m < k
            · have HC := HQ.out.picks (n := (m : Int) + 1) (wfi (by omega) (by omega))
              have hcn := cnt_near j hlt3
              have hcl := cnt_le k j m hlt3
              rw [show picksP (turnS k j) ((m : Int) + 1) = cnt k j m from st_picks _ hlt3] at HC
              have HC := Lib.hid HC
              have hquo : ((j : Nat) : Int).tdiv (k : Int) = ((j / k : Nat) : Int) := rfl
              have hne : ¬ (k : Int) = 0 := by omega
              have hdl : j / k ≤ j := Nat.div_le_self j k
              have hle : decide ((m : Int) + 1 ≤ (k : Int)) = true := decide_eq_true (by omega)
              obtain ⟨r, hr⟩ : ∃ r, r = j / k := ⟨_, rfl⟩
              obtain ⟨c, hc⟩ : ∃ c, c = cnt k j m := ⟨_, rfl⟩
              rw [← hr] at hquo hcn hdl
              rw [← hc] at HC hcn hcl
              clear hr hc
              go_wp2_with fail
              refine HC.out.mono ?_
              rintro e w3 ⟨rfl, rfl⟩
              have hw1 : wrap64 ((r : Int) + 1) = (r : Int) + 1 := w64 (by omega)
              rcases hcn with rfl | rfl
              · go_wp2_with fail
                go_roundw
                case rel => exact ⟨m + 1, by omega, by go_num, by first | rfl | trivial⟩
                case measure => simp [intOf]; omega
              · have hne2 : ¬ ((r : Int) + 1 = (r : Int)) := by omega
                go_wp2_with fail
                go_roundw
                case rel => exact ⟨m + 1, by omega, by go_num, by first | rfl | trivial⟩
                case measure => simp [intOf]; omega
            · have hle : decide ((m : Int) + 1 ≤ (k : Int)) = false := decide_eq_false (by omega)
              go_wp2_with fail
              go_ret
              obtain ⟨G, -, -, hB⟩ := HQ.out
              exact ⟨rfl, Below.call HB.out hB⟩
set_option maxRecDepth 100000 in
set_option maxHeartbeats 8000000 in
theorem turns_pp (a b : Int) (N K : Nat) (w : World) (hx : a.tmod 31 = (N : Int)) (hy : b.tmod 301 = (K : Int)) (lN : N ≤ 30) (lK : K ≤ 300) : Calls Try.prog 5 #[.int .i64 a, .int .i64 b] w fun e w' => e = .returned (.bool true) ∧ Below w.heap.size w w' := by
  go_enter Try.func5, Try.ntmps5
  go_wp2_with fail
  refine (awake9 w).mono ?_
  rintro e w1 ⟨rfl, hB1⟩
  go_wp2_with fail
  refine (new10 w1).mono ?_
  rintro e w0 ⟨rfl, hw0⟩
  have HQ0 : Hid (Own w1 w1.heap.size w0 (st 0 (fun _ => 0))) := by rw [hw0]; exact Lib.hid (Own.new w1)
  obtain ⟨S, hS⟩ : ∃ S, S = w1.heap.size := ⟨_, rfl⟩
  rw [← hS] at HQ0 ⊢
  have HB := Lib.hid hB1
  clear hB1 hS hw0
  go_wp2_with fail
  go_loopw [9] (fun i wr => ∃ k : Nat, k ≤ N ∧ i = .int .i64 k ∧ Own w1 S wr (st k (fun _ => 0))) (fun i _ => N - (intOf i).toNat)
  case atStart => exact ⟨0, by omega, rfl, HQ0.out⟩
  case round =>
    obtain ⟨k, hk, rfl, hq⟩ := hrel
    have HQ := Lib.hid hq
    clear hq
    by_cases hlt : k < N
    · have hs := st_start (n := k) (by omega)
      have HC := HQ.out.start (by show k < _; omega)
      rw [hs.1, hs.2] at HC
      have HC := Lib.hid HC
      clear hs
      go_wp2_with fail
      refine HC.out.mono ?_
      rintro e w3 ⟨rfl, hq⟩
      have HQ2 := Lib.hid hq
      clear hq
      go_wp2_with fail
      go_roundw
      case rel => exact ⟨k + 1, by omega, by go_num, HQ2.out⟩
      case measure => simp [intOf]; omega
    · have hk' : k = N := by omega
      subst hk'
      have HQT : Hid (Own w1 S wr (turnS k 0)) := by rw [turnS_zero]; exact HQ
      clear HQ
      go_wp2_with fail
      go_loopw [10] (fun i wr => ∃ j : Nat, j ≤ K ∧ i = .int .i64 j ∧ Own w1 S wr (turnS k j)) (fun i _ => K - (intOf i).toNat)
      case atStart => exact ⟨0, by omega, rfl, HQT.out⟩
      case round =>
        obtain ⟨j, hj, rfl, hq⟩ := hrel
        have HQ := Lib.hid hq
        clear hq
        by_cases hlt2 : j < K
        · have HC := HQ.out.pick (n := (j : Int)) (by omega) (by show k < _; omega) (fun p hp => by have := turnS_bound k j p hp; omega)
          by_cases hk0 : 0 < k
          · have hs := turnS_pick j hk0
            rw [hs.1, hs.2] at HC
            have HC := Lib.hid HC
            have hrem : ((j : Nat) : Int).tmod (k : Int) = ((j % k : Nat) : Int) := rfl
            have hml : j % k < k := Nat.mod_lt _ hk0
            have hne : ¬ (k : Int) = 0 := by omega
            obtain ⟨r, hr⟩ : ∃ r, r = j % k := ⟨_, rfl⟩
            rw [← hr] at hrem hml HC
            clear hs hr
            go_wp2_with fail
            refine HC.out.mono ?_
            rintro e w3 ⟨rfl, hq⟩
            have HQ2 := Lib.hid hq
            clear hq
            go_wp2_with fail
            go_roundw
            case rel => first | exact ⟨j + 1, by omega, by go_num, HQ2.out⟩ | ((repeat apply Exists.intro) ; exact ⟨⟨j + 1, by omega, by go_num, HQ2.out⟩, rfl⟩)
            case measure => simp [intOf]; omega
          · have hk00 : k = 0 := by omega
            subst hk00
            have hs := turnS_pick0 j j
            rw [hs.1, hs.2] at HC
            have HC := Lib.hid HC
            clear hs
            go_wp2_with fail
            refine HC.out.mono ?_
            rintro e w3 ⟨rfl, hq⟩
            have HQ2 := Lib.hid hq
            clear hq
            go_wp2_with fail
            go_roundw
            case rel => first | exact ⟨j + 1, by omega, by go_num, HQ2.out⟩ | ((repeat apply Exists.intro) ; exact ⟨⟨j + 1, by omega, by go_num, HQ2.out⟩, rfl⟩)
            case measure => simp [intOf]; omega
        · have hj' : j = K := by omega
          subst hj'
          go_wp2_with fail
          obtain ⟨ws, rfl⟩ : ∃ x : World, x = wr := ⟨_, rfl⟩
          go_loopw [13] (fun i wr => ∃ m : Nat, m ≤ k ∧ i = .int .i64 ((m : Int) + 1) ∧ wr = ws) (fun i _ => k + 1 - (intOf i).toNat)
          case atStart => exact ⟨0, by omega, rfl, rfl⟩
          case round =>
            obtain ⟨m, hm, rfl, rfl⟩ := hrel
            by_cases hlt3 : m < k
            · have HC := HQ.out.picks (n := (m : Int) + 1) (wfi (by omega) (by omega))
              have hcn := cnt_near j hlt3
              have hcl := cnt_le k j m hlt3
              rw [show picksP (turnS k j) ((m : Int) + 1) = cnt k j m from st_picks _ hlt3] at HC
              have HC := Lib.hid HC
              have hquo : ((j : Nat) : Int).tdiv (k : Int) = ((j / k : Nat) : Int) := rfl
              have hne : ¬ (k : Int) = 0 := by omega
              have hdl : j / k ≤ j := Nat.div_le_self j k
              have hle : decide ((m : Int) + 1 ≤ (k : Int)) = true := decide_eq_true (by omega)
              obtain ⟨r, hr⟩ : ∃ r, r = j / k := ⟨_, rfl⟩
              obtain ⟨c, hc⟩ : ∃ c, c = cnt k j m := ⟨_, rfl⟩
              rw [← hr] at hquo hcn hdl
              rw [← hc] at HC hcn hcl
              clear hr hc
              go_wp2_with fail
              refine HC.out.mono ?_
              rintro e w3 ⟨rfl, rfl⟩
              have hw1 : wrap64 ((r : Int) + 1) = (r : Int) + 1 := w64 (by omega)
              rcases hcn with rfl | rfl
              · go_wp2_with fail
                go_roundw
                case rel => exact ⟨m + 1, by omega, by go_num, by first | rfl | trivial⟩
                case measure => simp [intOf]; omega
              · have hne2 : ¬ ((r : Int) + 1 = (r : Int)) := by omega
                go_wp2_with fail
                go_roundw
                case rel => exact ⟨m + 1, by omega, by go_num, by first | rfl | trivial⟩
                case measure => simp [intOf]; omega
            · have hle : decide ((m : Int) + 1 ≤ (k : Int)) = false := decide_eq_false (by omega)
              go_wp2_with fail
              go_ret
              obtain ⟨G, -, -, hB⟩ := HQ.out
              exact ⟨rfl, Below.call HB.out hB⟩
theorem turnsLaw (a b : Int) (w : World) (ha : (Lit.int .i64 a).wf = true) (hb : (Lit.int .i64 b).wf = true) : Calls Try.prog 5 #[.int .i64 a, .int .i64 b] w fun e w' => e = .returned (.bool true) ∧ Below w.heap.size w w' := by
  rcases tmod_sign a 31 (by decide) with ⟨N, hx, lN⟩ | ⟨N, hx, pN, lN⟩ <;> rcases tmod_sign b 301 (by decide) with ⟨K, hy, lK⟩ | ⟨K, hy, pK, lK⟩
  · exact turns_pp a b N K w hx hy (by omega) (by omega)
  · exact turns_pn a b N K w hx hy pK (by omega) (by omega)
  · exact turns_np a b N K w hx hy pN (by omega) (by omega)
  · exact turns_nn a b N K w hx hy pN pK (by omega) (by omega)
end Go.Proofs.Ytkndcofmhfeaoaa
