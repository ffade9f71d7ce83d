/- The reference's advisor. -/
import Derived.Test.YtfgnmcmkjfnogaaO
import Derived.Test.YtfgnmcmkjfnogaaBase6
namespace Go.Proofs.Ytfgnmcmkjfnogaa
open Go.RowKit
set_option linter.unusedVariables false
set_option linter.unusedSimpArgs false

/-- the reference's needs behind one more: the last 64 -/
def lastL (l : List Int) (x : Int) : List Int := if 64 < (l ++ [x]).length then (l ++ [x]).tail else l ++ [x]

theorem note24_no (p : Value) (x : Int) (y : Bool) (w : World) (h : noteB x y = false) :
    Calls Try.prog 24 #[p, .int .i64 x, .bool y] w fun e w' => e = .returned (.tuple #[]) ∧ w = w' := by
  unfold noteB at h
  cases y
  · by_cases h0 : x < 0
    · have d0 : decide (x < 0) = true := by simpa using h0
      go_enter Try.func24, Try.ntmps24
      go_wp2_with fail
      (first | go_end0 | refine bodyPost_ret (results_none rfl _ _ _) rfl ?_)
      trivial
    · have d0 : decide (x < 0) = false := by simpa using h0
      have h1 : 63 < x := by simp at h; omega
      have d1 : decide (63 < x) = true := by simpa using h1
      go_enter Try.func24, Try.ntmps24
      go_wp2_with fail
      (first | go_end0 | refine bodyPost_ret (results_none rfl _ _ _) rfl ?_)
      trivial
  · go_enter Try.func24, Try.ntmps24
    go_wp2_with fail
    (first | go_end0 | refine bodyPost_ret (results_none rfl _ _ _) rfl ?_)
    trivial

theorem ownsAt_form {w : World} {base : Nat} {e : TypeId} {v : Value} {n : Nat} {xs : List Value} (h : ownsAt w base e v n xs) (hn : 0 < n) : ∃ g off cap, v = .slice (some ⟨g, off, none⟩) n cap ∧ base ≤ g ∧ n ≤ cap ∧ cap ≤ 9223372036854775807 := by
  rcases h.2 with ⟨-, h⟩ | ⟨g, off, cap, cur, hv, hg, _, h1, h2, _⟩
  · omega
  · exact ⟨g, off, cap, hv, hg, h1, h2⟩
theorem ownsAt_ne {w : World} {base : Nat} {e : TypeId} {v : Value} {n : Nat} {xs : List Value} (h : ownsAt w base e v n xs) {b : Nat} (hb : b < base) : some b ≠ v.ownBlock := by
  rcases h.2 with ⟨rfl, -⟩ | ⟨g, off, cap, cur, rfl, hg, _⟩
  · simp [Value.ownBlock]
  · simp [Value.ownBlock]; omega
theorem ownsAt_setCell {w : World} {base : Nat} {e : TypeId} {v : Value} {n : Nat} {xs : List Value} (h : ownsAt w base e v n xs) {p : Addr} (hp : p.block < base) (u : Value) : ownsAt (w.setCell p u) base e v n xs := by
  refine ⟨h.1, ?_⟩
  rcases h.2 with h | ⟨g, off, cap, cur, hv, hg, hh, r⟩
  · exact .inl h
  · exact .inr ⟨g, off, cap, cur, hv, hg, (Below.heap_setCell w p u g (by omega)).trans hh, r⟩

set_option maxHeartbeats 4000000 in
theorem note24_yes (l : List Int) (b base : Nat) (v : Value) (x : Int) (w : World) (h0 : 0 ≤ x) (h1 : x < 64) (hv : Blk w b 52 #[v]) (hown : ownsAt w base 3 v l.length (l.map (Value.int .i64))) (hbb : b < base) (hbase : base ≤ w.heap.size) (hl : l.length ≤ 64) :
    Calls Try.prog 24 #[.pointer (some ⟨b, 0, none⟩), .int .i64 x, .bool false] w fun e w' => e = .returned (.tuple #[]) ∧ ∃ v', Blk w' b 52 #[v'] ∧ ownsAt w' base 3 v' (lastL l x).length ((lastL l x).map (Value.int .i64)) ∧ Below b w w' := by
  obtain ⟨i0, hi, hz0, hz1, hz2⟩ := info_parts Try.info3
  have d0 : decide (x < 0) = false := by simp; omega
  have d1 : decide (63 < x) = false := by simp; omega
  have hb := Blk.lt hv
  have hB0 : Below base w w := Below.refl _ _
  have hv1 := Blk.alloc hv (Obj.cells #[.int .i64 x] 3)
  have cv := Blk.cell hv 0
  have cv2 : w.cell? ⟨b, 0, none⟩ = some v := cv
  have f0 := Blk.free hv 0
  clear cv
  go_enter Try.func24, Try.ntmps24
  go_wp2_with (at_builtin; refine wpList_append_at rfl _ _ 26 rfl base 3 i0 (.int .i64 0) 8 Try.underlying26 hi hz0 hz1 hz2 rfl v _ _ rfl (ownsAt.below hown (Below.alloc (Below.refl w.heap.size w) (Nat.le_refl _) _) (Nat.le_refl _)) ⟨w.heap.size, 0, none⟩ 1 1 [.int .i64 x] rfl rfl (cell_one_new' _ _ _) (by intro u hu; simp at hu; subst hu; rfl) (by unfold maxLen; omega) (by omega) (by simp; omega) ?_; intro v' w1 hown' hgrow; obtain ⟨g', off', cap', rfl, hg', hc', hm'⟩ := ownsAt_form hown' (by omega); have hv2 := Blk.grown hv1 hgrow (ownsAt_ne hown hbb); have cv3 : w1.cell? ⟨b, 0, none⟩ = some v := Blk.cell hv2 0; have f3 := Blk.free hv2 0; have hgs := hgrow.size)
  all_goals (first | go_end0 | refine bodyPost_ret (results_none rfl _ _ _) rfl ?_)
  all_goals
    have hBw : Below b w w1 := ((Below.refl b w).alloc (Nat.le_of_lt hb) _).grown hgrow (by simp; omega) (fun k hk => by
      rcases hown.2 with ⟨rfl, -⟩ | ⟨g, off, cap, cur, rfl, hg, _⟩
      · simp [Value.ownBlock] at hk
      · simp [Value.ownBlock] at hk; omega)
  · rename_i h64
    cases l with
    | nil => simp at h64
    | cons y l =>
      have e : lastL (y :: l) x = l ++ [x] := by unfold lastL; rw [if_pos (by simp at h64 ⊢; omega)]; rfl
      have hb2 := Blk.set (Blk.set hv2 0 (Value.slice (some ⟨g', off', none⟩) ((y :: l).length + 1) cap')) 0 (Value.slice (some ⟨g', off' + 1, none⟩) (y :: l).length (cap' - 1))
      have ho2 : ownsAt w1 base 3 (Value.slice (some ⟨g', off' + 1, none⟩) (y :: l).length (cap' - 1)) (y :: l).length (l.map (Value.int .i64) ++ [Value.int .i64 x]) := ownsAt.tail hown'
      refine ⟨rfl, _, hb2, ?_, (hBw.setCell (by exact Nat.le_refl b) _).setCell (by exact Nat.le_refl b) _⟩
      rw [e]
      have := ownsAt_setCell (ownsAt_setCell ho2 (p := ⟨b, 0, none⟩) hbb (Value.slice (some ⟨g', off', none⟩) ((y :: l).length + 1) cap')) (p := ⟨b, 0, none⟩) hbb (Value.slice (some ⟨g', off' + 1, none⟩) (y :: l).length (cap' - 1))
      simpa using this
  · rename_i h64
    have e : lastL l x = l ++ [x] := by unfold lastL; rw [if_neg (by simp; omega)]
    have hb2 := Blk.set hv2 0 (Value.slice (some ⟨g', off', none⟩) (l.length + 1) cap')
    refine ⟨rfl, _, hb2, ?_, hBw.setCell (by exact Nat.le_refl b) _⟩
    rw [e]
    have := ownsAt_setCell hown' (p := ⟨b, 0, none⟩) hbb (Value.slice (some ⟨g', off', none⟩) (l.length + 1) cap')
    simpa using this

theorem ownsAt_row {w : World} {base : Nat} {v : Value} {l : List Int} (h : ownsAt w base 3 v l.length (l.map (Value.int .i64))) : RowI w.heap.size w v l := by
  refine ⟨by simp, ?_⟩
  rcases h.2 with ⟨rfl, h0⟩ | ⟨g, off, cap, cur, rfl, hg, hh, h1, h2, h3, h4⟩
  · exact ⟨none, 0, by rw [h0], by omega, by unfold maxLen; omega, fun h => absurd h (by omega)⟩
  · refine ⟨some ⟨g, off, none⟩, cap, rfl, h1, h2, fun _ => ⟨g, off, rfl, (Array.getElem?_eq_some_iff.1 hh).1, fun j hj => ?_⟩⟩
    have hj' : j < l.length := by omega
    have e : ((cur.toList.drop off).take l.length)[j]? = (l.map (Value.int .i64))[j]? := by rw [h4]
    rw [List.getElem?_take, if_pos hj', List.getElem?_drop] at e
    have e2 : cur[off + j]? = (l.map (Value.int .i64))[j]? := by simpa using e
    simp only [World.cell?, hh]
    simp only [Option.isSome_none, Bool.false_eq_true, if_false]
    rw [e2]
    simp [List.getD_eq_getElem?_getD, hj']

theorem weight25 (l : List Int) (b base : Nat) (v : Value) (x : Int) (w : World) (hv : Blk w b 52 #[v]) (hown : ownsAt w base 3 v l.length (l.map (Value.int .i64))) (hl : l.length ≤ 64) :
    Calls Try.prog 25 #[.pointer (some ⟨b, 0, none⟩), .int .i64 x] w fun e w' => e = .returned (.int .i64 (cntTo l x l.length : Nat)) ∧ w = w' := by
  obtain ⟨a, cap, rfl, hcap, hmax, hc⟩ := (ownsAt_row hown).open
  have cv2 : w.cell? ⟨b, 0, none⟩ = some (.slice a l.length cap) := Blk.cell hv 0
  have HC := Lib.hid hc
  clear hc hown
  go_enter Try.func25, Try.ntmps25
  go_wp2_with fail
  go_loop [5, 6] (fun c i => ∃ k : Nat, k ≤ l.length ∧ i = .int .i64 k ∧ c = .int .i64 (cntTo l x k : Nat)) (fun _ i => l.length - (intOf i).toNat)
  case atStart => exact ⟨0, by omega, rfl, rfl⟩
  case round =>
    obtain ⟨k, hk, rfl, rfl⟩ := hrel
    have hcl := cntTo_le l x k
    by_cases hlt : k < l.length
    · have hkb : decide ((k : Int) < l.length) = true := by simp; omega
      obtain ⟨b', off, rfl, hb', hcl⟩ := HC.out (by omega)
      obtain ⟨y, hy, cy⟩ : ∃ y, Hid (l.getD k 0 = y) ∧ w.cell? ⟨b', off + k, none⟩ = some (.int .i64 y) := ⟨_, rfl, hcl k hlt⟩
      clear hcl
      by_cases hxy : y = x
      · have hb1 : (y == x) = true := by simpa using hxy
        go_wp2_with fail
        go_round
        case rel => exact ⟨k + 1, by omega, by go_num, by simp only [cntTo, hy.out, if_pos hxy]; go_num⟩
        case measure => simp [intOf]; omega
      · have hb1 : (y == x) = false := by simpa using hxy
        go_wp2_with fail
        go_round
        case rel => exact ⟨k + 1, by omega, by go_num, by simp only [cntTo, hy.out, if_neg hxy]; rfl⟩
        case measure => simp [intOf]; omega
    · obtain rfl : k = l.length := by omega
      go_wp2_with fail
      go_ret
      exact ⟨rfl, rfl⟩


/-- how often each of the first k needs is in a list -/
def wOf (l : List Int) (k : Nat) : List Int := (List.range 64).map fun i => if i < k then (cntTo l (i : Int) l.length : Int) else 0
theorem wOf_len (l : List Int) (k : Nat) : (wOf l k).length = 64 := by simp [wOf]
theorem wOf_zero (l : List Int) : wOf l 0 = zeros64 := by
  apply List.ext_getElem
  · rw [wOf_len, zeros64_len]
  · intro i h1 h2
    have e : zeros64[i] = 0 := by
      have := zeros64_at i
      rw [List.getD_eq_getElem?_getD, List.getElem?_eq_getElem h2] at this
      exact this
    rw [e]
    simp [wOf]
theorem wOf_step (l : List Int) (k : Nat) (h : k < 64) : (wOf l k).set k (cntTo l (k : Int) l.length) = wOf l (k + 1) := by
  apply List.ext_getElem
  · simp [wOf]
  · intro i h1 h2
    simp only [wOf, List.getElem_set, List.getElem_map, List.getElem_range]
    by_cases e : k = i
    · subst e; rw [if_pos rfl, if_pos (by omega)]
    · rw [if_neg e]
      by_cases h3 : i < k
      · rw [if_pos h3, if_pos (by omega)]
      · rw [if_neg h3, if_neg (by omega)]
theorem wOf_eq (l : List Int) (hl : ∀ j, j < l.length → 0 ≤ l.getD j 0 ∧ l.getD j 0 < 64) : wOf l 64 = wTo l l.length := by
  apply List.ext_getElem
  · rw [wOf_len, wTo_len]
  · intro i h1 h2
    rw [wTo_len] at h2
    have := wTo_at l l.length hl i h2
    rw [List.getD_eq_getElem?_getD, List.getElem?_eq_getElem (by rw [wTo_len]; exact h2)] at this
    simp only [Option.getD_some] at this
    rw [this]
    simp [wOf, h2]


set_option maxRecDepth 100000 in
set_option maxHeartbeats 4000000 in
theorem weights26 (l : List Int) (b base : Nat) (v : Value) (w : World) (hv : Blk w b 52 #[v]) (hown : ownsAt w base 3 v l.length (l.map (Value.int .i64))) (hl : l.length ≤ 64) :
    Calls Try.prog 26 #[.pointer (some ⟨b, 0, none⟩)] w fun e w' => e = .returned (.agg (ints (wOf l 64))) ∧ Below w.heap.size w w' := by
  have hzv : ∀ w, (zeroValue 22).run Try.prog w = .ok (.agg (ints zeros64)) w := fun _ => by kernel_rfl
  have HV := Lib.hid hv
  have HO := Lib.hid hown
  have hb := Blk.lt hv
  clear hv hown
  go_enter Try.func26, Try.ntmps26
  go_wp2_with fail
  go_loopw [4] (fun i wr => ∃ k : Nat, k ≤ 64 ∧ i = .int .i64 k ∧ Arr wr (w.heap.size + 1) 22 (wOf l k) ∧ Arr wr w.heap.size 22 zeros64 ∧ Below w.heap.size w wr) (fun i _ => 64 - (intOf i).toNat)
  case atStart =>
    refine ⟨0, by omega, rfl, ?_, ?_, ((Below.refl _ _).alloc (Nat.le_refl _) _).alloc (by simp) _⟩
    · rw [wOf_zero]; exact Blk.newAt _ _ _ (by simp)
    · exact (Blk.newAt _ _ _ rfl).alloc _
  case round =>
    obtain ⟨k, hk, rfl, hA, hZ, hB⟩ := hrel
    by_cases hlt : k < 64
    · have hkI : (k : Int) < 64 := by omega
      obtain ⟨y0, c1⟩ : ∃ y0, wr.cell? ⟨w.heap.size + 1, k, none⟩ = some y0 := ⟨_, Arr.cell hA (j := k) (by rw [wOf_len]; omega)⟩
      have f1 := Arr.free hA
      go_wp2_with (go_at_call 25; refine (weight25 l b base v k _ (Blk.below HV.out hB hb) (ownsAt.below HO.out hB (Nat.le_refl _)) hl).mono ?_; rintro e w' ⟨rfl, rfl⟩)
      have hA1 := Arr.set hA k (cntTo l (k : Int) l.length : Nat)
      rw [wOf_step l k hlt] at hA1
      have hZ1 := Blk.other hZ (p := ⟨w.heap.size + 1, k, none⟩) (by simp) (.int .i64 (cntTo l (k : Int) l.length : Nat))
      go_roundw
      case rel => exact ⟨k + 1, by omega, by go_num, hA1, hZ1, hB.setCell (p := ⟨w.heap.size + 1, k, none⟩) (by simp) _⟩
      case measure => simp [intOf]; omega
    · obtain rfl : k = 64 := by omega
      go_upto_region 6 with (fail)
      refine wp_region_lit ?_
      refine wpList_load_at rfl 22 _ rfl _ _ rfl (ints (wOf l 64)) _ (fun j _ => by rw [Nat.zero_add]; exact Blk.cell hA j) Try.underlying22 rfl (by rw [size_ints, wOf_len]; exact Try.info22) ?_
      refine wpList_store_row rfl 22 _ _ rfl w.heap.size (ints (wOf l 64)) rfl rfl 22 _ hZ (by rw [size_ints, wOf_len]; exact Try.info22) (by rw [size_ints, size_ints, wOf_len, zeros64_len]) (ints_one _) ?_
      have hZ2 := Blk.setRow (cs' := ints (wOf l 64)) hZ
      have hB2 := Below.setRow hB (Nat.le_refl _) (ints (wOf l 64))
      go_wp2_with fail
      refine bodyPost_ret (results_cell_row rfl _ _ w.heap.size 22 (ints (wOf l 64)) (0, 0) _ rfl hZ2 Try.underlying22 rfl (by rw [size_ints, wOf_len]; exact Try.info22)) rfl ?_
      exact ⟨rfl, hB2⟩

end Go.Proofs.Ytfgnmcmkjfnogaa
