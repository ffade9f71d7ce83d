/- AccumTells: the walk. -/
import Derived.Test.YtlhncphnhgbclaaL
import Derived.Test.YtlhncphnhgbclaaOpen
namespace Go.Proofs.Ytlhncphnhgbclaa
open Go.RowKit Go.WideShapes
set_option linter.unusedVariables false
set_option linter.unusedSimpArgs false

theorem open_sum {w : World} {r : Reach} {base : Nat} {v : Value} (h : Value.okWide Try.prog w r base 24 v) : ∃ a, v = sumV a ∧ In128 a := by
  have h' : ∃ cs, v = .agg cs ∧ cs.size = Try.prog.cellsOf 24 ∧ Row.okWide Try.prog w r base 24 cs := by
    unfold Value.okWide at h
    rw [Try.underlying24] at h
    exact h
  obtain ⟨cs, rfl, hz, ts, hts, _, hcell⟩ := h'
  have hc : Try.prog.cellTypes Try.prog.depth 24 = some [2, 22] := by kernel_rfl
  have hz2 : Try.prog.cellsOf 24 = 2 := by kernel_rfl
  rw [hc] at hts
  obtain rfl := Option.some.inj hts
  rw [hz2] at hz
  obtain ⟨l, rfl⟩ : ∃ l : List Value, cs = l.toArray := ⟨cs.toList, by simp⟩
  match l, hz with
  | [x, y], _ =>
    obtain ⟨u, hu1, hu2⟩ := hcell 0 x rfl
    obtain ⟨u', hu3, hu4⟩ := hcell 1 y rfl
    obtain rfl : u = 2 := by simpa using hu1.symm
    obtain rfl : u' = 22 := by simpa using hu3.symm
    simp only [Cell.okWide, Try.underlying2] at hu2
    simp only [Cell.okWide, Try.underlying22] at hu4
    have hx : ∃ a, x = .int .i64 a ∧ (Lit.int .i64 a).wf = true := by
      clear hu1 hu3 hu4 hcell hts hz hz2 hc h
      cases x <;> simp_all [Cell.ok]
      obtain ⟨rfl, h3⟩ := hu2
      simpa [IntKind.has, Lit.wf] using h3
    have hy : ∃ b, y = .int .u64 b ∧ (Lit.int .u64 b).wf = true := by
      clear hu1 hu3 hu2 hcell hts hz hz2 hc h hx
      cases y <;> simp_all [Cell.ok]
      obtain ⟨rfl, h3⟩ := hu4
      simpa [IntKind.has, Lit.wf] using h3
    obtain ⟨a, rfl, h1⟩ := hx
    obtain ⟨b, rfl, h2⟩ := hy
    have h1' := wf_bd h1
    have h2' : 0 ≤ b ∧ b ≤ 18446744073709551615 := by
      have hmin : IntKind.u64.min = 0 := rfl
      have hmax : IntKind.u64.max = 18446744073709551615 := rfl
      simp only [Lit.wf, Bool.and_eq_true, decide_eq_true_eq] at h2
      omega
    refine ⟨a * 18446744073709551616 + b, ?_, by unfold In128; omega⟩
    have e1 : hiW (a * 18446744073709551616 + b) = a := by unfold hiW; omega
    have e2 : loW (a * 18446744073709551616 + b) = b := by unfold loW; omega
    rw [sumV, e1, e2]

theorem and_i64 (x : Int) : bits .and .i64 x 4294967295 = x % 4294967296 := by
  have e2 : (4294967295 : Int) = ((4294967295 : Nat) : Int) := rfl
  have h2 : (BitVec.ofInt 64 ((4294967295 : Nat) : Int)).toNat = 4294967295 := by
    rw [BitVec.ofInt_natCast, BitVec.toNat_ofNat]
  have h1 : (BitVec.ofInt 64 x).toNat = (x % 18446744073709551616).toNat := by
    rw [BitVec.toNat_ofInt]; rfl
  rw [e2]
  show IntKind.i64.wrap ((BitVec.ofInt 64 x &&& BitVec.ofInt 64 ((4294967295 : Nat) : Int)).toNat : Int) = _
  rw [BitVec.toNat_and, h1, h2, show (4294967295 : Nat) = 2 ^ 32 - 1 from rfl, Nat.and_two_pow_sub_one_eq_mod, IntKind.wrap_i64]
  omega

def sumTo (ms : List Int) : Nat → Int
  | 0 => 0
  | k + 1 => sumTo ms k + ms.getD k 0
def hiTo (ms : List Int) : Nat → Int
  | 0 => 0
  | k + 1 => hiTo ms k + ms.getD k 0 / 4294967296
def loTo (ms : List Int) : Nat → Int
  | 0 => 0
  | k + 1 => loTo ms k + ms.getD k 0 % 4294967296
theorem sum_split (ms : List Int) (k : Nat) : sumTo ms k = hiTo ms k * 4294967296 + loTo ms k := by
  induction k with
  | zero => rfl
  | succ k ih => simp only [sumTo, hiTo, loTo, ih]; omega
theorem hiTo_bd (ms : List Int) (k : Nat) (h : ∀ i, i < k → -9223372036854775808 ≤ ms.getD i 0 ∧ ms.getD i 0 ≤ 9223372036854775807) : -(2147483648 * (k : Int)) ≤ hiTo ms k ∧ hiTo ms k ≤ 2147483648 * (k : Int) := by
  induction k with
  | zero => simp [hiTo]
  | succ k ih =>
    have := ih (fun i hi => h i (by omega))
    have := h k (by omega)
    simp only [hiTo]; omega
theorem loTo_bd (ms : List Int) (k : Nat) : 0 ≤ loTo ms k ∧ loTo ms k ≤ 4294967296 * (k : Int) := by
  induction k with
  | zero => simp [loTo]
  | succ k ih => simp only [loTo]; omega

set_option maxRecDepth 100000 in
set_option maxHeartbeats 8000000 in
theorem tells5 (v : Value) (ms : List Int) (w : World) (h1 : RowI w.heap.size w v ms) (hms : ∀ i, i < ms.length → -9223372036854775808 ≤ ms.getD i 0 ∧ ms.getD i 0 ≤ 9223372036854775807) :
    Calls Try.prog 5 #[v] w fun e w' => e = .returned (.bool true) ∧ Below w.heap.size w w' := by
  obtain ⟨a1, cap1, rfl, hcap1, hmax1, hc1⟩ := h1.open
  have HC1 := Lib.hid hc1
  have HMS := Lib.hid hms
  clear hc1 hms h1
  go_enter Try.func5, Try.ntmps5
  go_wp2_with fail
  refine (awake10 _).mono ?_
  rintro e w1 ⟨rfl, hB1⟩
  go_wp2_with fail
  have hb : Blk (w1.alloc (Obj.cells #[.int .i64 0, .int .u64 0] 24)) w1.heap.size 24 #[.int .i64 0, .int .u64 0] := Blk.newAt _ _ _ rfl
  have hB2 := Below.al hB1 (Obj.cells #[.int .i64 0, .int .u64 0] 24)
  have hs1 := hB1.size
  obtain ⟨b4, hb4⟩ : ∃ b, b = w1.heap.size := ⟨_, rfl⟩
  rw [← hb4] at hb ⊢
  have hwb : w.heap.size ≤ b4 := by omega
  generalize w1.alloc (Obj.cells #[.int .i64 0, .int .u64 0] 24) = w2 at *
  clear hb4 hB1 hs1
  go_loopw [5, 6, 7] (fun hh ll i wr => ∃ (k : Nat) (S H L : Int), k ≤ ms.length ∧ k ≤ 300 ∧ i = .int .i64 k ∧ hh = .int .i64 H ∧ ll = .int .i64 L ∧ Hid (sumTo ms k = S) ∧ Hid (hiTo ms k = H) ∧ Hid (loTo ms k = L) ∧
    Blk wr b4 24 #[.int .i64 (hiW S), .int .u64 (loW S)] ∧ Below w.heap.size w wr) (fun _ _ i _ => 300 - (intOf i).toNat)
  case atStart => exact ⟨0, 0, 0, 0, by omega, by omega, rfl, rfl, rfl, rfl, rfl, rfl, hb, hB2⟩
  case round =>
    obtain ⟨k, S, H, L, hk, hk3, rfl, rfl, rfl, hS, hH, hL, hA, hB⟩ := hrel
    have bH := hiTo_bd ms k (fun i hi => HMS.out i (by omega))
    have bL := loTo_bd ms k
    have hsp := sum_split ms k
    rw [hS.out, hH.out, hL.out] at hsp
    rw [hH.out] at bH
    rw [hL.out] at bL
    by_cases hlt : k < ms.length ∧ k < 300
    · have d1 : decide ((k : Int) < ms.length) = true := by simp; omega
      have d2 : decide ((k : Int) < 300) = true := by simp; omega
      have hkm : k < ms.length := hlt.1
      have hk4 : k < 300 := hlt.2
      obtain ⟨b', off, rfl, hb', hcl⟩ := HC1.out (by omega)
      obtain ⟨x, hx⟩ : ∃ x, ms.getD k 0 = x := ⟨_, rfl⟩
      have hx64 := HMS.out k hkm
      rw [hx] at hx64
      have cm : wr.cell? ⟨b', off + k, none⟩ = some (.int .i64 x) := by rw [hB.cell (by exact hb'), hcl k hkm, hx]
      have hS1 : Hid (sumTo ms (k + 1) = S + x) := by rw [Hid, sumTo, hS.out, hx]
      have hH1 : Hid (hiTo ms (k + 1) = H + x / 4294967296) := by rw [Hid, hiTo, hH.out, hx]
      have hL1 : Hid (loTo ms (k + 1) = L + x % 4294967296) := by rw [Hid, loTo, hL.out, hx]
      have hw1 : w128 (S + x) = S + x := w128_id (by unfold In128; omega)
      have HW1 := Lib.hid hw1
      have hbs := hB.size
      have hlA := Blk.lt hA
      clear hcl hx hw1
      go_wp2_with fail
      refine hp_start (fun w' => Below b4 wr w') 7 rfl (by kernel_rfl) (fun c a a' w hd h => ⟨hd ▸ h.1, h.2⟩) (fun hP => ?_)
      rw [show Array.replicate 7 false = #[false, false, false, false, false, false, false] from rfl]
      have HS0 : Below b4 wr wr.drew := (Below.refl _ _).drew
      refine hp_take hP 1 (some 23) _ rfl rfl (by kernel_rfl) rfl (fun w' hS' => by go_simp; rfl) HS0 ?_
      simp only [Act.put, List.setIfInBounds_toArray, List.set_cons_zero, List.set_cons_succ]
      refine hp_take hP 2 (some 24) _ rfl rfl (by kernel_rfl) rfl (fun w' hS' => by go_simp; rfl) HS0 ?_
      simp only [Act.put, List.setIfInBounds_toArray, List.set_cons_zero, List.set_cons_succ]
      refine hp_take hP 3 (some 25) _ rfl rfl (by kernel_rfl) rfl (fun w' hS' => by go_simp; rfl) HS0 ?_
      simp only [Act.put, List.setIfInBounds_toArray, List.set_cons_zero, List.set_cons_succ]
      refine hp_take hP 4 (some 26) _ rfl rfl (by kernel_rfl) rfl (fun w' hS' => by have cc := (hS'.cell (show b' < b4 by omega)).trans cm; go_simp; rfl) HS0 ?_
      simp only [Act.put, List.setIfInBounds_toArray, List.set_cons_zero, List.set_cons_succ]
      refine hp_val 0 (some 22) rfl rfl (by kernel_rfl) rfl (.agg #[.int .i64 (hiW S), .int .u64 (loW S)]) wr.drew (exec_load_at (w := wr.drew) 24 (.tmp 4) rfl b4 0 rfl #[.int .i64 (hiW S), .int .u64 (loW S)] _ (fun j _ => by rw [Nat.zero_add]; exact Blk.cell (Blk.drew hA) j) Try.underlying24 rfl info24) HS0 ?_
      simp only [Act.put, List.setIfInBounds_toArray, List.set_cons_zero, List.set_cons_succ]
      refine hp_call 5 (some 27) rfl rfl (by kernel_rfl) rfl 15 #[sumV S, .int .i64 x] (by go_simp; rfl) ((add15 S x _ hx64).mono ?_)
      rw [HW1.out]
      rintro e w3 ⟨rfl, hB3⟩
      have HS1 : Below b4 wr w3 := HS0.trans (hB3.mono (Nat.le_of_lt hlA))
      refine ⟨_, rfl, HS1, ?_⟩
      simp only [Act.put, List.setIfInBounds_toArray, List.set_cons_zero, List.set_cons_succ]
      have hA3 := Blk.below (Blk.drew hA) hB3 hlA
      refine hp_store_row 6 rfl rfl (by kernel_rfl) rfl 24 _ _ rfl b4 #[.int .i64 (hiW (S + x)), .int .u64 (loW (S + x))] rfl rfl 24 _ hA3 info24 rfl (by simp [Value.oneCell']) (Below.setRow HS1 (Nat.le_refl _) _) ?_
      simp only [List.setIfInBounds_toArray, List.set_cons_zero, List.set_cons_succ]
      refine hk_done (by kernel_rfl) ?_
      have hA4 := Blk.setRow (cs' := #[.int .i64 (hiW (S + x)), .int .u64 (loW (S + x))]) hA3
      have hB4 : Below w.heap.size w (w3.setRow b4 #[.int .i64 (hiW (S + x)), .int .u64 (loW (S + x))]) := hB.trans ((Below.setRow HS1 (Nat.le_refl _) #[.int .i64 (hiW (S + x)), .int .u64 (loW (S + x))]).mono hwb)
      have cm2 : (w3.setRow b4 #[.int .i64 (hiW (S + x)), .int .u64 (loW (S + x))]).cell? ⟨b', off + k, none⟩ = some (.int .i64 x) := ((Below.setRow HS1 (Nat.le_refl _) _).cell (show b' < b4 by omega)).trans cm
      generalize w3.setRow b4 #[.int .i64 (hiW (S + x)), .int .u64 (loW (S + x))] = w5 at *
      have hand := and_i64 x
      clear hA hA3 hB HS0 HS1 cm hB3 hP
      go_wp2_with fail
      go_roundw
      case rel => exact ⟨k + 1, S + x, H + x / 4294967296, L + x % 4294967296, by omega, by omega, by go_num, by go_num, by go_num, hS1, hH1, hL1, hA4, hB4⟩
      case measure => simp [intOf]; omega
    · have hand := and_i64 L
      have c0 : wr.cell? ⟨b4, 0, none⟩ = some (.int .i64 (hiW S)) := Blk.cell hA 0
      have c1 : wr.cell? ⟨b4, 1, none⟩ = some (.int .u64 (loW S)) := Blk.cell hA 1
      have hSin : In128 S := by unfold In128; omega
      have e11 := fun w => value11 S w hSin
      unfold sumV at e11
      obtain ⟨H', hH'⟩ : ∃ H', H + L / 4294967296 = H' := ⟨_, rfl⟩
      obtain ⟨L', hL'⟩ : ∃ L', L % 4294967296 = L' := ⟨_, rfl⟩
      have hfit : fitB S = (decide (-2147483648 ≤ H') && decide (H' ≤ 2147483647)) := by
        unfold fitB
        by_cases g1 : -9223372036854775808 ≤ S <;> by_cases g2 : S ≤ 9223372036854775807 <;> by_cases g3 : -2147483648 ≤ H' <;> by_cases g4 : H' ≤ 2147483647 <;> simp [g1, g2, g3, g4] <;> omega
      have hval : fitB S = true → fitN S = H' * 4294967296 + L' := by intro h; unfold fitN; rw [if_pos h]; omega
      have hval0 : fitB S = false → fitN S = 0 := by intro h; unfold fitN; rw [h]; rfl
      have hbd : -3000000000000 ≤ H' ∧ H' ≤ 3000000000000 := by omega
      have hbl : 0 ≤ L' ∧ L' < 4294967296 := by omega
      have hbh : -3000000000000 ≤ H ∧ H ≤ 3000000000000 := by omega
      have hbl2 : 0 ≤ L ∧ L ≤ 3000000000000 := by omega
      obtain ⟨fb, hfb⟩ : ∃ fb, fitB S = fb := ⟨_, rfl⟩
      obtain ⟨fn, hfn⟩ : ∃ fn, fitN S = fn := ⟨_, rfl⟩
      rw [hfb, hfn] at e11
      rw [hfb] at hfit hval hval0
      rw [hfn] at hval hval0
      have HFIT := Lib.hid hfit
      have HVAL := Lib.hid hval
      have HVAL0 := Lib.hid hval0
      clear hfit hval hval0 hfb hfn bH bL hsp hSin hS hH hL
      by_cases hd : k < ms.length
      · have d1 : decide ((k : Int) < ms.length) = true := by simp; omega
        have d2 : decide ((k : Int) < 300) = false := by simp; omega
        cases fb with
        | true =>
          have g1 : decide (-2147483648 ≤ H') = true := by have := HFIT.out; simp at this; simp; omega
          have g2 : decide (H' ≤ 2147483647) = true := by have := HFIT.out; simp at this; simp; omega
          have g3 := HVAL.out rfl
          have g4 : -2147483648 ≤ H' ∧ H' ≤ 2147483647 := by simpa using And.intro g1 g2
          go_wp2_with fail
          refine (e11 _).mono ?_
          rintro e w5 ⟨rfl, hB5⟩
          have hB6 := Below.call hB hB5
          go_wp2_with fail
          go_ret
          exact ⟨by first | rfl | simp, hB6⟩
        | false =>
          have g3 := HVAL0.out rfl
          by_cases g5 : -2147483648 ≤ H'
          · have g1 : decide (-2147483648 ≤ H') = true := by simpa using g5
            have g2 : decide (H' ≤ 2147483647) = false := by have := HFIT.out; rw [g1] at this; simpa using this.symm
            go_wp2_with fail
            refine (e11 _).mono ?_
            rintro e w5 ⟨rfl, hB5⟩
            have hB6 := Below.call hB hB5
            go_wp2_with fail
            go_ret
            exact ⟨by first | rfl | simp, hB6⟩
          · have g1 : decide (-2147483648 ≤ H') = false := by simpa using g5
            go_wp2_with fail
            refine (e11 _).mono ?_
            rintro e w5 ⟨rfl, hB5⟩
            have hB6 := Below.call hB hB5
            go_wp2_with fail
            go_ret
            exact ⟨by first | rfl | simp, hB6⟩
      · have d1 : decide ((k : Int) < ms.length) = false := by simp; omega
        cases fb with
        | true =>
          have g1 : decide (-2147483648 ≤ H') = true := by have := HFIT.out; simp at this; simp; omega
          have g2 : decide (H' ≤ 2147483647) = true := by have := HFIT.out; simp at this; simp; omega
          have g3 := HVAL.out rfl
          have g4 : -2147483648 ≤ H' ∧ H' ≤ 2147483647 := by simpa using And.intro g1 g2
          go_wp2_with fail
          refine (e11 _).mono ?_
          rintro e w5 ⟨rfl, hB5⟩
          have hB6 := Below.call hB hB5
          go_wp2_with fail
          go_ret
          exact ⟨by first | rfl | simp, hB6⟩
        | false =>
          have g3 := HVAL0.out rfl
          by_cases g5 : -2147483648 ≤ H'
          · have g1 : decide (-2147483648 ≤ H') = true := by simpa using g5
            have g2 : decide (H' ≤ 2147483647) = false := by have := HFIT.out; rw [g1] at this; simpa using this.symm
            go_wp2_with fail
            refine (e11 _).mono ?_
            rintro e w5 ⟨rfl, hB5⟩
            have hB6 := Below.call hB hB5
            go_wp2_with fail
            go_ret
            exact ⟨by first | rfl | simp, hB6⟩
          · have g1 : decide (-2147483648 ≤ H') = false := by simpa using g5
            go_wp2_with fail
            refine (e11 _).mono ?_
            rintro e w5 ⟨rfl, hB5⟩
            have hB6 := Below.call hB hB5
            go_wp2_with fail
            go_ret
            exact ⟨by first | rfl | simp, hB6⟩

theorem tellsLaw (v : Value) (w : World) (ms : List Int) (h1 : Row w.heap.size w v ms.length 1 (ms.map (Value.int .i64))) (hwf : ∀ y ∈ ms, (Lit.int .i64 y).wf = true) (_hsz : ms.length * 8 ≤ 140737488351232) :
    Calls Try.prog 5 #[v] w fun e w' => e = .returned (.bool true) ∧ Below w.heap.size w w' := by
  refine tells5 v ms w h1 (fun i hi => wf_bd (hwf _ ?_))
  rw [List.getD_eq_getElem?_getD, List.getElem?_eq_getElem hi]
  exact List.getElem_mem hi
end Go.Proofs.Ytlhncphnhgbclaa
