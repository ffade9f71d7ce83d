/- What a view gains, as the program and as the reference reckon it. -/
import Derived.Test.YtfgnmcmkjfnogaaA1
import Derived.Laws.AppendOwn
namespace Go.Proofs.Ytfgnmcmkjfnogaa
open Go.RowKit
set_option linter.unusedVariables false
set_option linter.unusedSimpArgs false

/-- the sum, as far as need k, of what a view of a set would gain -/
def benOne (set : Int) (W C : List Int) (rows : Int) (k : Nat) : Int :=
  if coversB set k then keepZ (W.getD k 0) 64 * (if keepZ (C.getD k 0) 16777216 - keepZ rows 16777216 < 0 then 0 else keepZ (C.getD k 0) 16777216 - keepZ rows 16777216) else 0
def benTo (set : Int) (W C : List Int) (rows : Int) : Nat → Int
  | 0 => 0
  | k + 1 => benTo set W C rows k + benOne set W C rows k
theorem benOne_bd (set : Int) (W C : List Int) (rows : Int) (k : Nat) : 0 ≤ benOne set W C rows k ∧ benOne set W C rows k ≤ 1073741824 := by
  unfold benOne
  have h1 := @keepZ_ge (W.getD k 0) 64 (by omega)
  have h2 := @keepZ_le (W.getD k 0) 64 (by omega)
  have h3 := @keepZ_ge (C.getD k 0) 16777216 (by omega)
  have h4 := @keepZ_le (C.getD k 0) 16777216 (by omega)
  have h5 := @keepZ_ge rows 16777216 (by omega)
  have h6 := @keepZ_le rows 16777216 (by omega)
  generalize keepZ (W.getD k 0) 64 = a at *
  generalize keepZ (C.getD k 0) 16777216 = b at *
  generalize keepZ rows 16777216 = c at *
  split
  · split
    · simp
    · have hm : a * (b - c) ≤ 64 * 16777216 := Int.mul_le_mul h2 (by omega) (by omega) (by omega)
      exact ⟨Int.mul_nonneg h1 (by omega), by omega⟩
  · omega
theorem benTo_bd (set : Int) (W C : List Int) (rows : Int) (k : Nat) : 0 ≤ benTo set W C rows k ∧ benTo set W C rows k ≤ 1073741824 * k := by
  induction k with
  | zero => simp [benTo]
  | succ k ih => have := benOne_bd set W C rows k; simp only [benTo]; omega

theorem benStep (set : Int) (W C : List Int) (rows : Int) (k : Nat) (a b : Int) (hk : k < 64) (hc : coversB set k = true) (ha : W.getD k 0 = a) (hb : C.getD k 0 = b) :
    wrap64 (benTo set W C rows k + wrap64 (keepZ a 64 * if wrap64 (keepZ b 16777216 - keepZ rows 16777216) < 0 then 0 else wrap64 (keepZ b 16777216 - keepZ rows 16777216))) = benTo set W C rows (k + 1) := by
  have h0 := benTo_bd set W C rows k
  have h1 := benOne_bd set W C rows k
  have h3 := @keepZ_ge b 16777216 (by omega)
  have h4 := @keepZ_le b 16777216 (by omega)
  have h5 := @keepZ_ge rows 16777216 (by omega)
  have h6 := @keepZ_le rows 16777216 (by omega)
  simp only [benTo]
  unfold benOne at h1 ⊢
  rw [if_pos hc] at h1 ⊢
  rw [ha, hb] at h1 ⊢
  rw [w64 (x := keepZ b 16777216 - keepZ rows 16777216) (by omega)]
  rw [w64 (x := keepZ a 64 * _) (by omega), w64 (by omega)]

theorem benefit13 (set rows : Int) (W C : List Int) (w : World) (hW : W.length = 64) (hC : C.length = 64) :
    Calls Try.prog 13 #[.int .i64 set, .agg (ints W), .agg (ints C), .int .i64 rows] w fun e w' => e = .returned (.int .i64 (benTo set W C rows 64)) ∧ Below w.heap.size w w' := by
  go_enter Try.func13, Try.ntmps13
  go_wp2
  go_loopw [9, 11] (fun s i wr => ∃ k : Nat, k ≤ 64 ∧ i = .int .i64 k ∧ s = .int .i64 (benTo set W C rows k) ∧ Below (w.heap.size + 2) ((w.alloc (Obj.cells (ints W) 22)).alloc (Obj.cells (ints C) 22)) wr) (fun _ i _ => 64 - (intOf i).toNat)
  case atStart => exact ⟨0, by omega, rfl, rfl, Below.refl _ _⟩
  case round =>
    obtain ⟨k, hk, rfl, rfl, hB⟩ := hrel
    have cW : ∃ a, Hid (W.getD k 0 = a) ∧ (k < 64 → wr.cell? ⟨w.heap.size, k, none⟩ = some (.int .i64 a)) := ⟨_, rfl, by
      intro hk
      rw [hB.cell (by simp), World.cell?_alloc_past _ _ _ (by simp), World.cell?_alloc_at _ _ _ _ rfl]
      simp [ints, hW, hk]⟩
    have cC : ∃ a, Hid (C.getD k 0 = a) ∧ (k < 64 → wr.cell? ⟨w.heap.size + 1, k, none⟩ = some (.int .i64 a)) := ⟨_, rfl, by
      intro hk
      rw [hB.cell (by simp), World.cell?_alloc_at _ _ _ _ (by simp)]
      simp [ints, hC, hk]⟩
    obtain ⟨a, ha, cW⟩ := cW
    obtain ⟨b, hb, cC⟩ := cC
    by_cases hlt : k < 64
    · replace cW := cW hlt
      replace cC := cC hlt
      cases hcov : coversB set k
      · go_wp2_with (go_at_call 16; refine (covers16 _ _ _).mono ?_; rintro e w' ⟨rfl, rfl⟩)
        go_roundw
        case rel => exact ⟨k + 1, by omega, by go_num, by simp [benTo, benOne, hcov], hB⟩
        case measure => simp [intOf]; omega
      · go_wp2_with (go_at_call 16; refine (covers16 _ _ _).mono ?_; rintro e w' ⟨rfl, rfl⟩)
        go_quiet ((go_at_call 28; exact quietL (keep28 _ _ _ (by omega))))
        go_wp2
        go_roundw
        case rel => exact ⟨k + 1, by omega, by go_num, congrArg _ (benStep set W C rows k a b hlt hcov ha.out hb.out), ⟨hB.os, hB.tape, hB.output, hB.size, hB.block⟩⟩
        case measure => simp [intOf]; omega
    · obtain rfl : k = 64 := by omega
      go_wp2
      go_ret
      exact ⟨rfl, (((Below.refl _ _).alloc (Nat.le_refl _) _).alloc (by simp) _).trans (hB.mono (by omega))⟩

theorem bit44 (i : Nat) (w : World) (hi : i ≤ 6) :
    Calls Try.prog 44 #[.int .i64 i] w fun e w' => e = .returned (.int .i64 ((2 : Int) ^ i)) ∧ w = w' := by
  go_enter Try.func44, Try.ntmps44
  go_wp2
  go_loop [3, 4] (fun n c => ∃ (k : Nat) (p : Int), k ≤ i ∧ c = .int .i64 k ∧ n = .int .i64 p ∧ Hid (p = 2 ^ k) ∧ 0 ≤ p ∧ p ≤ 64) (fun _ c => i - (intOf c).toNat)
  case atStart => exact ⟨0, 1, by omega, rfl, rfl, rfl, by omega, by omega⟩
  case round =>
    obtain ⟨k, p, hk, rfl, rfl, hp, h0, h1⟩ := hrel
    by_cases hlt : k < i
    · go_wp2
      go_round
      case rel =>
        have hp' : p * 2 = 2 ^ (k + 1) := by rw [hp.out, Int.pow_succ]
        refine ⟨k + 1, p * 2, by omega, by go_num, rfl, hp', by omega, ?_⟩
        have : (2 : Int) ^ (k + 1) ≤ 2 ^ 6 := by
          have : (2 : Nat) ^ (k + 1) ≤ 2 ^ 6 := Nat.pow_le_pow_right (by omega) (by omega)
          exact_mod_cast this
        omega
      case measure => simp [intOf]; omega
    · obtain rfl : k = i := by omega
      go_wp2
      go_ret
      exact ⟨ret_int hp.out, rfl⟩

/-- is a dimension in a set? -/
def bitB (set : Int) (i : Nat) : Bool := set / 2 ^ i % 2 == 1

theorem has43 (set : Int) (i : Nat) (w : World) (hi : i ≤ 6) (h0 : 0 ≤ set) (h1 : set ≤ 63) :
    Calls Try.prog 43 #[.int .i64 set, .int .i64 i] w fun e w' => e = .returned (.bool (bitB set i)) ∧ w = w' := by
  have hp0 : (1 : Int) ≤ 2 ^ i := by
    have : (1 : Nat) ≤ 2 ^ i := Nat.one_le_two_pow
    exact_mod_cast this
  obtain ⟨p, hp⟩ : ∃ p : Int, p = 2 ^ i := ⟨_, rfl⟩
  unfold bitB
  rw [← hp] at hp0 ⊢
  have HP := Lib.hid hp
  clear hp
  go_enter Try.func43, Try.ntmps43
  go_wp2_with (go_at_call 44; refine (bit44 i _ hi).mono ?_; rw [← HP.out]; rintro e w' ⟨rfl, rfl⟩)
  go_ret
  refine ⟨ret_bool ?_, rfl⟩
  show ((set / p).tmod 2 == 1) = (set / p % 2 == 1)
  have hq0 : 0 ≤ set / p := Int.ediv_nonneg h0 (by omega)
  rw [Int.tmod_eq_emod_of_nonneg hq0]

theorem Try.info3 : (Try.prog.info? 3).map (fun i => (i.zero, i.size, i.bytes)) = some (some (.int .i64 0), 1, 8) := by kernel_rfl

/-- the dimensions in a set, as far as the k-th -/
def listTo (set : Int) : Nat → List Int
  | 0 => []
  | k + 1 => if bitB set k then listTo set k ++ [(k : Int)] else listTo set k
theorem listTo_len (set : Int) (k : Nat) : (listTo set k).length ≤ k := by
  induction k with
  | zero => simp [listTo]
  | succ k ih => simp only [listTo]; split <;> (try simp) <;> omega

set_option maxHeartbeats 800000 in
theorem list42 (set : Int) (w : World) (h0 : 0 ≤ set) (h1 : set ≤ 63) :
    Calls Try.prog 42 #[.int .i64 set] w fun e w' => ∃ v, e = .returned v ∧ w'.ownsRow w.heap.size 3 1 v (listTo set 6).length ((listTo set 6).map (Value.int .i64)) ∧ Below w.heap.size w w' := by
  obtain ⟨i0, hi, hz0, hz1, hz2⟩ := info_parts Try.info3
  have d0 : decide (0 ≤ set) = true := by simpa using h0
  have d1 : decide (set < 64) = true := by simp; omega
  go_enter Try.func42, Try.ntmps42
  go_wp2
  go_loopw [3, 4, 5] (fun v i _ wr => ∃ k : Nat, k ≤ 6 ∧ i = .int .i64 k ∧ wr.ownsRow w.heap.size 3 1 v (listTo set k).length ((listTo set k).map (Value.int .i64)) ∧ Below w.heap.size w wr) (fun _ i _ _ => 6 - (intOf i).toNat)
  case atStart => exact ⟨0, by omega, rfl, World.ownsRow_nil _ _ _ _, Below.refl _ _⟩
  case round =>
    obtain ⟨k, hk, rfl, hown, hB⟩ := hrel
    have hlen := listTo_len set k
    by_cases hlt : k < 6
    · cases hb : bitB set k
      · have e1 : listTo set (k + 1) = listTo set k := by simp [listTo, hb]
        have E1 := Lib.hid e1; clear e1
        go_wp2_with (go_at_call 43; refine (has43 set k _ (by omega) h0 h1).mono ?_; rintro e w' ⟨rfl, rfl⟩)
        go_roundw
        case rel => exact ⟨k + 1, by omega, by go_num, by rw [E1.out]; exact hown, hB⟩
        case measure => simp [intOf]; omega
      · have e1 : listTo set (k + 1) = listTo set k ++ [(k : Int)] := by simp [listTo, hb]
        have E1 := Lib.hid e1; clear e1
        have hsz := hB.size
        go_wp2_with (first | (go_at_call 43; refine (has43 set k _ (by omega) h0 h1).mono ?_; rintro e w' ⟨rfl, rfl⟩) | (at_builtin; refine wpList_append_own _ rfl _ _ 26 rfl w.heap.size 3 i0 (.int .i64 0) 1 8 Try.underlying26 hi hz0 hz1 hz2 rfl (by decide) _ _ _ rfl (hown.alloc _) ⟨wr.heap.size, 0, none⟩ 1 1 [.int .i64 k] rfl rfl (cell_one_new' _ _ _) (by intro u hu; simp at hu; subst hu; rfl) (by unfold maxLen; omega) (by omega) (by simp; omega) ?_; intro v' w1 hown' hgrow _))
        have hB' := Below.appended hB hsz hown _ hgrow
        go_roundw
        case rel => exact ⟨k + 1, by omega, by go_num, by rw [E1.out]; simpa using hown', hB'⟩
        case measure => simp [intOf]; omega
    · obtain rfl : k = 6 := by omega
      go_wp2
      go_ret
      exact ⟨_, rfl, hown, hB⟩

theorem has40 (set : Int) (d : Nat) (w : World) (h0 : 0 ≤ set) (h1 : set ≤ 63) :
    Calls Try.prog 40 #[.int .i64 set, .int .i64 d] w fun e w' => e = .returned (.bool (hasZ (listTo set 6) d)) ∧ Below w.heap.size w w' := by
  go_enter Try.func40, Try.ntmps40
  go_wp2_with (go_at_call 42; refine (list42 _ _ h0 h1).mono ?_; rintro e w1 ⟨v, rfl, hown, hB⟩)
  obtain ⟨a, cap, rfl, hcap, hmax, hc⟩ := (RowI.of_owns hown).open
  have hlen := listTo_len set 6
  clear hown
  obtain ⟨l, hl⟩ : ∃ l, l = listTo set 6 := ⟨_, rfl⟩
  rw [← hl] at hc hlen hcap ⊢
  have HL := Lib.hid hl
  clear hl
  go_wp2
  go_loop [6] (fun i => ∃ k : Nat, k ≤ l.length ∧ i = .int .i64 k ∧ ∀ j, j < k → l.getD j 0 ≠ d) (fun i => l.length - (intOf i).toNat)
  case atStart => exact ⟨0, by omega, rfl, fun j h => absurd h (by omega)⟩
  case round =>
    obtain ⟨k, hk, rfl, hn⟩ := hrel
    have HN := Lib.hid hn
    clear hn
    by_cases hlt : k < l.length
    · obtain ⟨b, off, rfl, hb, hcell⟩ := hc (by omega)
      obtain ⟨y, hy, hcy⟩ : ∃ y, Hid (l.getD k 0 = y) ∧ w1.cell? ⟨b, off + k, none⟩ = some (.int .i64 y) := ⟨_, rfl, hcell k hlt⟩
      clear hcell hc
      by_cases hxy : y = d
      · subst hxy
        go_wp2
        go_ret
        exact ⟨ret_bool (by rw [← HL.out]; exact (contains_at hlt hy.out).symm), hB⟩
      · have hxy' : (y == (d : Int)) = false := by simpa using hxy
        go_wp2
        go_round
        case rel =>
          refine ⟨k + 1, by omega, by go_num, fun j hj => ?_⟩
          by_cases e : j = k
          · subst e; rw [hy.out]; exact hxy
          · exact HN.out j (by omega)
        case measure => simp [intOf]; omega
    · go_wp2
      go_ret
      exact ⟨ret_bool (by rw [← HL.out]; exact (contains_none fun j hj => HN.out j (by omega)).symm), hB⟩

/-- does a set have all of another one's, by the dimensions? -/
def okAt (view need : Int) (i : Nat) : Bool := !hasZ (listTo need 6) i || hasZ (listTo view 6) i
theorem covers_dims : ∀ view need : Fin 64, coversB (view.val : Int) (need.val : Int) = (List.range 6).all (okAt view.val need.val) := by decide +kernel
theorem covers_yes (view need : Int) (h1 : isSetB view = true) (h2 : isSetB need = true) (h : ∀ i, i < 6 → okAt view need i = true) : coversB view need = true := by
  simp only [isSetB, Bool.and_eq_true, decide_eq_true_eq] at h1 h2
  obtain ⟨v, rfl⟩ := Int.eq_ofNat_of_zero_le h1.1
  obtain ⟨n, rfl⟩ := Int.eq_ofNat_of_zero_le h2.1
  have := covers_dims ⟨v, by omega⟩ ⟨n, by omega⟩
  rw [this]
  simpa using h
theorem covers_no (view need : Int) (h1 : isSetB view = true) (h2 : isSetB need = true) (i : Nat) (hi : i < 6) (h : okAt view need i = false) : coversB view need = false := by
  simp only [isSetB, Bool.and_eq_true, decide_eq_true_eq] at h1 h2
  obtain ⟨v, rfl⟩ := Int.eq_ofNat_of_zero_le h1.1
  obtain ⟨n, rfl⟩ := Int.eq_ofNat_of_zero_le h2.1
  have := covers_dims ⟨v, by omega⟩ ⟨n, by omega⟩
  rw [this]
  simp only [List.all_eq_false]
  exact ⟨i, by simpa using hi, by simp [h]⟩

theorem isSet_bd {n : Int} (h : isSetB n = true) : 0 ≤ n ∧ n ≤ 63 := by
  simp only [isSetB, Bool.and_eq_true, decide_eq_true_eq] at h; exact h

set_option maxHeartbeats 800000 in
theorem covers33 (view need : Int) (w : World) :
    Calls Try.prog 33 #[.int .i64 view, .int .i64 need] w fun e w' => e = .returned (.bool (coversB view need)) ∧ Below w.heap.size w w' := by
  cases h1 : isSetB view
  · have e0 : coversB view need = false := by simp [coversB, h1]
    rw [e0]; clear e0
    go_enter Try.func33, Try.ntmps33
    go_wp2_with (go_at_call 39; refine (isSet39 _ _).mono ?_; rintro e w' ⟨rfl, rfl⟩)
    go_ret
    exact ⟨rfl, Below.refl _ _⟩
  · cases h2 : isSetB need
    · have e0 : coversB view need = false := by simp [coversB, h1, h2]
      rw [e0]; clear e0
      go_enter Try.func33, Try.ntmps33
      go_wp2_with (go_at_call 39; refine (isSet39 _ _).mono ?_; rintro e w' ⟨rfl, rfl⟩)
      go_ret
      exact ⟨rfl, Below.refl _ _⟩
    · have b1 := isSet_bd h1
      have b2 := isSet_bd h2
      have cy := Lib.hid (covers_yes view need h1 h2)
      have cn := Lib.hid (covers_no view need h1 h2)
      go_enter Try.func33, Try.ntmps33
      go_wp2_with (go_at_call 39; refine (isSet39 _ _).mono ?_; rintro e w' ⟨rfl, rfl⟩)
      clear h1 h2
      go_loopw [7, 8, 9] (fun i _ _ wr => ∃ k : Nat, k ≤ 6 ∧ i = .int .i64 k ∧ Hid (∀ j, j < k → okAt view need j = true) ∧ Below w.heap.size w wr) (fun i _ _ _ => 6 - (intOf i).toNat)
      case atStart => exact ⟨0, by omega, rfl, fun j h => absurd h (by omega), Below.refl _ _⟩
      case round =>
        obtain ⟨k, hk, rfl, HN, hB⟩ := hrel
        by_cases hlt : k < 6
        · obtain ⟨x, hx⟩ : ∃ x, x = hasZ (listTo need 6) (k : Int) := ⟨_, rfl⟩
          obtain ⟨y, hy⟩ : ∃ y, y = hasZ (listTo view 6) (k : Int) := ⟨_, rfl⟩
          have hok : okAt view need k = (!x || y) := by rw [okAt, hx, hy]
          have HX := Lib.hid hx; clear hx
          have HY := Lib.hid hy; clear hy
          have HO := Lib.hid hok; clear hok
          cases x <;> cases y
          all_goals
            go_wp2_with fail
            refine (has40 need k _ b2.1 b2.2).mono ?_
            rw [← HX.out]
            rintro e w1 ⟨rfl, hB1⟩
            go_wp2_with fail
            refine (has40 view k _ b1.1 b1.2).mono ?_
            rw [← HY.out]
            rintro e w2 ⟨rfl, hB2⟩
            have hB3 : Below w.heap.size w w2 := (hB.trans (hB1.mono hB.size)).trans (hB2.mono (Nat.le_trans hB.size hB1.size))
            go_wp2
          rotate_left 2
          · go_ret
            exact ⟨ret_bool (cn.out k hlt HO.out).symm, hB3⟩
          all_goals
            go_roundw
            case rel =>
              refine ⟨k + 1, by omega, by go_num, ?_, hB3⟩
              intro j hj
              by_cases e : j = k
              · subst e; exact HO.out
              · exact HN.out j (by omega)
            case measure => simp [intOf]; omega
        · go_wp2
          go_ret
          exact ⟨ret_bool (cy.out fun i hi => HN.out i (by omega)).symm, hB⟩

end Go.Proofs.Ytfgnmcmkjfnogaa
