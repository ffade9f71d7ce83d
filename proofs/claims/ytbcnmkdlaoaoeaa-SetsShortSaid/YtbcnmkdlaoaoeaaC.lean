/- List and the reference's List: the dimensions in a set. -/
import Derived.Test.YtbcnmkdlaoaoeaaB
import Derived.Laws.AppendOwn
import Derived.OwnWalk
namespace Go.Proofs.Ytbcnmkdlaoaoeaa
open Go.RowKit
set_option linter.unusedVariables false
set_option linter.unusedSimpArgs false

theorem owns_form {w : World} {base : Nat} {e : TypeId} {size : Nat} {v : Value} {n : Nat} {xs : List Value} (h : w.ownsRow base e size v n xs) : ∃ a c, v = .slice a n c := by
  rcases h.2 with ⟨rfl, rfl⟩ | ⟨g, cap, cur, rfl, _⟩
  · exact ⟨none, 0, rfl⟩
  · exact ⟨_, cap, rfl⟩
theorem and127 (z : Int) : ∃ n : Nat, n ≤ 127 ∧ bits .and .i64 z 127 = (n : Int) := by
  have h : (BitVec.ofInt 64 z &&& BitVec.ofInt 64 127).toNat ≤ 127 := by
    have h1 : (BitVec.ofInt 64 (127 : Int)).toNat = 127 := by
      rw [show (127 : Int) = ((127 : Nat) : Int) from rfl, BitVec.ofInt_natCast, BitVec.toNat_ofNat]
    rw [BitVec.toNat_and, h1]
    exact Nat.and_le_right
  refine ⟨_, h, ?_⟩
  show IntKind.i64.wrap ((BitVec.ofInt 64 z &&& BitVec.ofInt 64 127).toNat : Int) = _
  generalize (BitVec.ofInt 64 z &&& BitVec.ofInt 64 127).toNat = x at h ⊢
  rw [IntKind.wrap_i64]
  omega

set_option maxHeartbeats 4000000 in
theorem ones38 (x : Int) (w : World) : Calls Try.prog 38 #[.int .u64 x] w fun e w' => (∃ n : Nat, n ≤ 127 ∧ e = .returned (.int .i64 n)) ∧ w = w' := by
  go_enter Try.func38, Try.ntmps38
  go_upto_region 2 with (fail)
  generalize IntKind.u64.wrap _ = z1
  go_upto_region 3 with (fail)
  generalize IntKind.u64.wrap _ = z2
  go_upto_region 4 with (fail)
  generalize bits .and .u64 _ 1085102592571150095 = z3
  go_upto_region 5 with (fail)
  generalize IntKind.u64.wrap (z3 + _) = z4
  go_upto_region 6 with (fail)
  generalize IntKind.u64.wrap (z4 + _) = z5
  go_upto_region 7 with (fail)
  generalize IntKind.u64.wrap (z5 + _) = z6
  go_wp2
  go_ret
  refine ⟨?_, rfl⟩
  obtain ⟨n, hn, he⟩ := and127 _
  exact ⟨n, hn, congrArg (fun x => Ending.returned (Value.int .i64 x)) he⟩

set_option maxHeartbeats 4000000 in
theorem ones28 (x : Int) (w : World) : Calls Try.prog 28 #[.int .u64 x] w fun e w' => (∃ n : Nat, n ≤ 127 ∧ e = .returned (.int .i64 n)) ∧ w = w' := by
  go_enter Try.func28, Try.ntmps28
  go_wp2_with (go_at_call 38; refine (ones38 _ _).mono ?_; rintro e w' ⟨⟨n, hn, rfl⟩, rfl⟩)
  go_ret
  exact ⟨⟨n, hn, rfl⟩, rfl⟩

/-- the dimensions in a set, as far as the k-th -/
def listTo (set : Int) : Nat → List Int
  | 0 => []
  | k + 1 => if hasB set k then listTo set k ++ [(k : Int)] else listTo set k
def listL (set : Int) : List Int := if 0 ≤ set ∧ set ≤ 63 then listTo set 6 else []
theorem listTo_len (set : Int) (k : Nat) : (listTo set k).length ≤ k := by
  induction k with
  | zero => simp [listTo]
  | succ k ih => simp only [listTo]; split <;> (try simp) <;> omega
theorem and_has' : ∀ a : Fin 64, ∀ i : Fin 6, (bits .and .i64 ((a.val : Nat) : Int) ((2 ^ i.val : Nat) : Int) == 0) = !hasB ((a.val : Nat) : Int) i.val := by decide +kernel
theorem Try.info3 : (Try.prog.info? 3).map (fun i => (i.zero, i.size, i.bytes)) = some (some (.int .i64 0), 1, 8) := by kernel_rfl

set_option maxHeartbeats 4000000 in
theorem list10 (set : Int) (w : World) : Calls Try.prog 10 #[.int .i64 set] w fun e w' => ∃ v, e = .returned v ∧ w'.ownsRow w.heap.size 3 1 v (listL set).length ((listL set).map (Value.int .i64)) ∧ Below w.heap.size w w' := by
  obtain ⟨i0, hi, hz0, hz1, hz2⟩ := info_parts Try.info3
  by_cases h0 : set < 0
  · have hl : listL set = [] := by unfold listL; rw [if_neg (by omega)]
    rw [hl]
    have d0 : decide (set < 0) = true := by simpa using h0
    go_enter Try.func10, Try.ntmps10
    go_wp2
    go_ret
    exact ⟨_, rfl, ⟨rfl, .inl ⟨rfl, rfl⟩⟩, Below.refl _ _⟩
  by_cases h63 : 63 < set
  · have hl : listL set = [] := by unfold listL; rw [if_neg (by omega)]
    rw [hl]
    have d0 : decide (set < 0) = false := by simpa using h0
    have d1 : decide (63 < set) = true := by simpa using h63
    go_enter Try.func10, Try.ntmps10
    go_wp2
    go_ret
    exact ⟨_, rfl, ⟨rfl, .inl ⟨rfl, rfl⟩⟩, Below.refl _ _⟩
  have d0 : decide (set < 0) = false := by simpa using h0
  have d1 : decide (63 < set) = false := by simpa using h63
  obtain ⟨s, rfl⟩ : ∃ s : Nat, set = s := ⟨set.toNat, by omega⟩
  have hs : s < 64 := by omega
  have hl : listL s = listTo s 6 := by unfold listL; rw [if_pos (by omega)]
  rw [hl]
  clear hl
  go_enter Try.func10, Try.ntmps10
  go_wp2_with (first | (go_at_call 28; refine (ones28 _ _).mono ?_; rintro e w' ⟨⟨n, hn, rfl⟩, rfl⟩) | (refine wpList_make_own _ rfl _ _ 22 rfl w.heap.size 3 i0 (.int .i64 0) 1 Try.underlying22 hi hz0 hz1 .i64 .i64 n n rfl rfl rfl (by rw [hz2]; omega) (by unfold maxLen; omega) (Nat.le_refl _) ?_; intro w1 hown hgrow))
  have hB0 : Below w.heap.size w w1 := (Below.refl _ _).grown hgrow (Nat.le_refl _) (fun k hk => by cases hk)
  go_loopw [3, 15] (fun v i wr => ∃ k : Nat, k ≤ 6 ∧ i = .int .i64 k ∧ wr.ownsRow w.heap.size 3 1 v (listTo s k).length ((listTo s k).map (Value.int .i64)) ∧ Below w.heap.size w wr) (fun _ i _ => 6 - (intOf i).toNat)
  case atStart => exact ⟨0, by omega, rfl, hown, hB0⟩
  case round =>
    clear hown hB0 hgrow
    obtain ⟨k, hk, rfl, hown, hB⟩ := hrel
    have hlen := listTo_len s k
    obtain ⟨a1, c1, rfl⟩ := owns_form hown
    by_cases hlt : k < 6
    · have hI : (k : Int) < 6 := by omega
      have ha := and_has' ⟨s, hs⟩ ⟨k, hlt⟩
      simp only at ha
      have hp : (2 : Nat) ^ k ≤ 64 := (pow6 (k := k) (by omega)).2
      cases hb : hasB s k
      · have e1 : listTo s (k + 1) = listTo s k := by simp [listTo, hb]
        have E1 := Lib.hid e1; clear e1
        rw [hb] at ha
        rcases (by omega : k = 0 ∨ k = 1 ∨ k = 2 ∨ k = 3 ∨ k = 4 ∨ k = 5) with rfl | rfl | rfl | rfl | rfl | rfl
        all_goals
          have ha2 := ha
          simp at ha2
          have HH := Lib.hid (And.intro hown hB)
          clear hown hB hb hp ha
          go_wp2
          go_roundw
          case rel => exact ⟨_, by decide, rfl, by rw [E1.out]; exact HH.out.1, HH.out.2⟩
          case measure => simp [intOf]
      · have e1 : listTo s (k + 1) = listTo s k ++ [(k : Int)] := by simp [listTo, hb]
        have E1 := Lib.hid e1; clear e1
        have hsz := hB.size
        rw [hb] at ha
        rcases (by omega : k = 0 ∨ k = 1 ∨ k = 2 ∨ k = 3 ∨ k = 4 ∨ k = 5) with rfl | rfl | rfl | rfl | rfl | rfl
        all_goals
          have ha2 := ha
          simp at ha2
          have HH := Lib.hid (And.intro hown hB)
          clear hown hB hb hp ha
          go_wp2_with (at_builtin; refine wpList_append_own _ rfl _ _ 22 rfl w.heap.size 3 i0 (.int .i64 0) 1 8 Try.underlying22 hi hz0 hz1 hz2 rfl (by decide) _ _ _ rfl (HH.out.1.alloc _) ⟨wr.heap.size, 0, none⟩ 1 1 [.int .i64 _] rfl rfl (cell_one_new' _ _ _) (by intro u hu; simp at hu; subst hu; rfl) (by unfold maxLen; omega) (by omega) (by simp; omega) ?_; intro v' w1 hown' hgrow _)
          have hB' := Below.appended HH.out.2 hsz HH.out.1 _ hgrow
          go_roundw
          case rel => exact ⟨_, by decide, rfl, by rw [E1.out]; simpa using hown', hB'⟩
          case measure => simp [intOf]
    · obtain rfl : k = 6 := by omega
      have HH := Lib.hid (And.intro hown hB)
      clear hown hB
      go_wp2
      go_ret
      exact ⟨_, rfl, HH.out.1, HH.out.2⟩

set_option maxHeartbeats 4000000 in
theorem list11 (set : Int) (w : World) (hset : -9223372036854775808 ≤ set ∧ set ≤ 9223372036854775807) : Calls Try.prog 11 #[.int .i64 set] w fun e w' => ∃ v, e = .returned v ∧ w'.ownsRow w.heap.size 3 1 v (listL set).length ((listL set).map (Value.int .i64)) ∧ Below w.heap.size w w' := by
  obtain ⟨i0, hi, hz0, hz1, hz2⟩ := info_parts Try.info3
  by_cases h0 : 0 ≤ set
  · by_cases h63 : set < 64
    · have hl : listL set = listTo set 6 := by unfold listL; rw [if_pos (by omega)]
      rw [hl]
      have d0 : decide (0 ≤ set) = true := by simpa using h0
      have d1 : decide (set < 64) = true := by simpa using h63
      clear hl
      go_enter Try.func11, Try.ntmps11
      go_wp2
      go_loopw [3, 4, 5] (fun v i _ wr => ∃ k : Nat, k ≤ 6 ∧ i = .int .i64 k ∧ wr.ownsRow w.heap.size 3 1 v (listTo set k).length ((listTo set k).map (Value.int .i64)) ∧ Below w.heap.size w wr) (fun _ i _ _ => 6 - (intOf i).toNat)
      case atStart => exact ⟨0, by omega, rfl, World.ownsRow_nil _ _ _ _, Below.refl _ _⟩
      case round =>
        obtain ⟨k, hk, rfl, hown, hB⟩ := hrel
        have hlen := listTo_len set k
        by_cases hlt : k < 6
        · cases hb : hasB set k
          · have e1 : listTo set (k + 1) = listTo set k := by simp [listTo, hb]
            have E1 := Lib.hid e1; clear e1
            have hh := has29 set k
            rw [hb] at hh
            have HHS := Lib.hid hh
            clear hh hb
            go_wp2_with (go_at_call 29; refine (HHS.out _ hlt hset).mono ?_; rintro e w' ⟨rfl, rfl⟩)
            go_roundw
            case rel => exact ⟨k + 1, by omega, by go_num, by rw [E1.out]; exact hown, hB⟩
            case measure => simp [intOf]; omega
          · have e1 : listTo set (k + 1) = listTo set k ++ [(k : Int)] := by simp [listTo, hb]
            have E1 := Lib.hid e1; clear e1
            have hsz := hB.size
            have hh := has29 set k
            rw [hb] at hh
            have HHS := Lib.hid hh
            clear hh hb
            go_wp2_with (first | (go_at_call 29; refine (HHS.out _ hlt hset).mono ?_; rintro e w' ⟨rfl, rfl⟩) | (at_builtin; refine wpList_append_own _ rfl _ _ 22 rfl w.heap.size 3 i0 (.int .i64 0) 1 8 Try.underlying22 hi hz0 hz1 hz2 rfl (by decide) _ _ _ rfl (hown.alloc _) ⟨wr.heap.size, 0, none⟩ 1 1 [.int .i64 k] rfl rfl (cell_one_new' _ _ _) (by intro u hu; simp at hu; subst hu; rfl) (by unfold maxLen; omega) (by omega) (by simp; omega) ?_; intro v' w1 hown' hgrow _))
            have hB' := Below.appended hB hsz hown _ hgrow
            go_roundw
            case rel => exact ⟨k + 1, by omega, by go_num, by rw [E1.out]; simpa using hown', hB'⟩
            case measure => simp [intOf]; omega
        · obtain rfl : k = 6 := by omega
          go_wp2
          go_ret
          exact ⟨_, rfl, hown, hB⟩
    · have hl : listL set = [] := by unfold listL; rw [if_neg (by omega)]
      rw [hl]
      have d0 : decide (0 ≤ set) = true := by simpa using h0
      have d1 : decide (set < 64) = false := by simpa using h63
      go_enter Try.func11, Try.ntmps11
      go_wp2
      go_loopw [3, 4] (fun v i wr => v = .slice none 0 0 ∧ i = .int .i64 0 ∧ wr = w) (fun _ _ _ => 0)
      case atStart => exact ⟨rfl, rfl, rfl⟩
      case round =>
        obtain ⟨rfl, rfl, rfl⟩ := hrel
        go_wp2
        go_ret
        exact ⟨_, rfl, ⟨rfl, .inl ⟨rfl, rfl⟩⟩, Below.refl _ _⟩
  · have hl : listL set = [] := by unfold listL; rw [if_neg (by omega)]
    rw [hl]
    have d0 : decide (0 ≤ set) = false := by simpa using h0
    go_enter Try.func11, Try.ntmps11
    go_wp2
    go_loopw [3, 4] (fun v i wr => v = .slice none 0 0 ∧ i = .int .i64 0 ∧ wr = w) (fun _ _ _ => 0)
    case atStart => exact ⟨rfl, rfl, rfl⟩
    case round =>
      obtain ⟨rfl, rfl, rfl⟩ := hrel
      go_wp2
      go_ret
      exact ⟨_, rfl, ⟨rfl, .inl ⟨rfl, rfl⟩⟩, Below.refl _ _⟩

/-- are two lists the same? -/
def sameI (l m : List Int) : Bool := decide (l = m)
theorem same9 (B : Nat) (v1 v2 : Value) (l m : List Int) (w : World) (h1 : RowI B w v1 l) (h2 : RowI B w v2 m) :
    Calls Try.prog 9 #[v1, v2] w fun e w' => e = .returned (.bool (decide (l = m))) ∧ ∃ n, w' = w.drewN n := by
  obtain ⟨a1, cap1, rfl, hcap1, hmax1, hc1⟩ := h1.open
  obtain ⟨a2, cap2, rfl, hcap2, hmax2, hc2⟩ := h2.open
  have HC1 := Lib.hid hc1
  have HC2 := Lib.hid hc2
  clear h1 h2 hc1 hc2
  by_cases hl : l.length = m.length
  · have hI : ((l.length : Int) != m.length) = false := by simp [hl]
    go_enter Try.func9, Try.ntmps9
    go_wp2
    go_loopw [5] (fun i wr => ∃ k n : Nat, k ≤ l.length ∧ i = .int .i64 k ∧ wr = w.drewN n ∧ ∀ j, j < k → l.getD j 0 = m.getD j 0) (fun i _ => l.length - (intOf i).toNat)
    case atStart => exact ⟨0, 0, by omega, rfl, rfl, fun j h => absurd h (by omega)⟩
    case round =>
      obtain ⟨k, n, hk, rfl, rfl, hn⟩ := hrel
      have HN := Lib.hid hn
      clear hn
      by_cases hlt : k < l.length
      · have hlt2 : k < m.length := by omega
        obtain ⟨b1, off1, rfl, hb1, hcell1⟩ := HC1.out (by omega)
        obtain ⟨b2, off2, rfl, hb2, hcell2⟩ := HC2.out (by omega)
        have g1 := hcell1 k hlt
        have g2 := hcell2 k hlt2
        obtain ⟨x, hx⟩ : ∃ x, l.getD k 0 = x := ⟨_, rfl⟩
        obtain ⟨y, hy⟩ : ∃ y, m.getD k 0 = y := ⟨_, rfl⟩
        rw [hx] at g1
        rw [hy] at g2
        have HXY := Lib.hid (And.intro hx hy)
        clear hcell1 hcell2 HC1 HC2 hx hy
        by_cases hxy : x = y
        · subst hxy
          go_wp2
          go_quiet (fail)
          go_wp2
          go_roundw
          case rel =>
            refine ⟨k + 1, _, by omega, by go_num, rfl, fun j hj => ?_⟩
            by_cases e : j = k
            · subst e; rw [HXY.out.1, HXY.out.2]
            · exact HN.out j (by omega)
          case measure => simp [intOf]; omega
        · have hne : (x != y) = true := by simpa using hxy
          go_wp2
          go_quiet (fail)
          go_wp2
          go_ret
          refine ⟨ret_bool ?_, _, World.drewN_drewN _ _ _⟩
          rw [decide_eq_false]
          intro e
          rw [e, HXY.out.2] at HXY
          exact hxy HXY.out.1.symm
      · go_wp2
        go_ret
        refine ⟨ret_bool ?_, _, rfl⟩
        rw [decide_eq_true]
        apply List.ext_getElem hl
        intro j h1 h2
        have := HN.out j (by omega)
        rw [List.getD_eq_getElem?_getD, List.getD_eq_getElem?_getD, List.getElem?_eq_getElem h1, List.getElem?_eq_getElem h2] at this
        exact this
  · have hI : ((l.length : Int) != m.length) = true := by simp; omega
    go_enter Try.func9, Try.ntmps9
    go_wp2
    go_ret
    exact ⟨ret_bool (by rw [decide_eq_false]; intro e; exact hl (by rw [e])), 0, rfl⟩
end Go.Proofs.Ytbcnmkdlaoaoeaa
