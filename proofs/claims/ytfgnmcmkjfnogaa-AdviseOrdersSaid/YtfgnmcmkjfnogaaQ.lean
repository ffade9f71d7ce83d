/- The reference's Orders. -/
import Derived.Test.YtfgnmcmkjfnogaaM
namespace Go.Proofs.Ytfgnmcmkjfnogaa
open Go.RowKit
set_option linter.unusedVariables false
set_option linter.unusedSimpArgs false

/-- the sets of the first k views -/
def setsTo (xs : List Int) : Nat → List Int
  | 0 => []
  | k + 1 => setsTo xs k ++ [vSet xs k]
theorem setsTo_len (xs : List Int) (k : Nat) : (setsTo xs k).length = k := by induction k <;> simp_all [setsTo]
theorem anyTo_step (p : Nat → Bool) (k : Nat) : anyTo p (k + 1) = (anyTo p k || p k) := by simp [anyTo, List.range_succ]
theorem setsTo_has (xs : List Int) (s : Int) (k : Nat) : hasZ (setsTo xs k) s = anyTo (isV s xs) k := by
  induction k with
  | zero => simp [setsTo, hasZ, anyTo]
  | succ k ih =>
    rw [anyTo_step, ← ih]
    simp only [setsTo, hasZ, isV, List.contains_eq_mem, List.mem_append, List.mem_singleton]
    by_cases e : s = vSet xs k
    · subst e; simp
    · have e' : ¬ vSet xs k = s := fun h => e h.symm
      have e'' : (vSet xs k == s) = false := by simpa using e'
      rw [e'']; simp [e]
theorem covers0 (s : Int) : coversB s 0 = (decide (0 ≤ s) && decide (s ≤ 63)) := by
  unfold coversB isSetB
  by_cases h : 0 ≤ s ∧ s ≤ 63
  · obtain ⟨m, rfl⟩ : ∃ m : Nat, s = (m : Int) := ⟨s.toNat, by omega⟩
    have hm : m < 64 := by omega
    have key : ∀ m : Fin 64, (bits .andNot .i64 0 ((m.val : Nat) : Int) == 0) = true := by decide +kernel
    have := key ⟨m, hm⟩
    simp only at this
    rw [this]
    simp
  · have : (decide (0 ≤ s) && decide (s ≤ 63)) = false := by simp; omega
    simp; omega

/-- what is to be let go, of the first k sets, and of the set k by the first m views -/
def leaveIn (want xs : List Int) (l : List Int) (s : Int) : Nat → List Int
  | 0 => l
  | m + 1 => if liveV s xs m && !hasZ want s && !hasZ (leaveIn want xs l s m) s then leaveIn want xs l s m ++ [s] else leaveIn want xs l s m
theorem leaveIn_eq (want xs l : List Int) (s : Int) (hl : hasZ l s = false) (m : Nat) :
    leaveIn want xs l s m = if !hasZ want s && anyTo (liveV s xs) m then l ++ [s] else l := by
  induction m with
  | zero => simp [leaveIn, anyTo]
  | succ m ih =>
    have hin : hasZ (l ++ [s]) s = true := by simp [hasZ]
    simp only [leaveIn, ih, anyTo_step]
    cases h1 : hasZ want s <;> cases h2 : anyTo (liveV s xs) m <;> cases h3 : liveV s xs m <;> simp [h1, h2, h3, hl, hin]
theorem leaveTo_lt (want xs : List Int) (n k : Nat) : ∀ y ∈ leaveTo want xs n k, 0 ≤ y ∧ y < k := by
  induction k with
  | zero => simp [leaveTo]
  | succ k ih =>
    intro y hy
    simp only [leaveTo] at hy
    split at hy
    · rcases List.mem_append.1 hy with h | h
      · have := ih y h; omega
      · simp at h; omega
    · have := ih y hy; omega
theorem leaveTo_fresh (want xs : List Int) (n k : Nat) : hasZ (leaveTo want xs n k) k = false := by
  simp only [hasZ, List.contains_eq_mem, decide_eq_false_iff_not]
  intro h
  have := leaveTo_lt want xs n k _ h
  omega
theorem leaveIn_step (want xs : List Int) (n k : Nat) : leaveIn want xs (leaveTo want xs n k) k n = leaveTo want xs n (k + 1) := by
  rw [leaveIn_eq _ _ _ _ (leaveTo_fresh _ _ _ _)]
  rfl
theorem leaveIn_len (want xs l : List Int) (s : Int) (m : Nat) (hl : hasZ l s = false) : (leaveIn want xs l s m).length ≤ l.length + 1 := by
  rw [leaveIn_eq _ _ _ _ hl]; split <;> simp

set_option maxRecDepth 100000 in
set_option maxHeartbeats 4000000 in
theorem orders18 (want xs : List Int) (n : Nat) (v1 v2 : Value) (w : World) (h1 : RowI w.heap.size w v1 want) (h2 : RowV w.heap.size w v2 n xs) (hsz : want.length * 8 ≤ 140737488351232) (hsz2 : n * 48 ≤ 140737488351232) :
    Calls Try.prog 18 #[v1, v2] w fun e w' => ∃ b l, e = .returned (.tuple #[b, l]) ∧
      w'.ownsRow w.heap.size 3 1 b (beginTo want xs n want.length).length ((beginTo want xs n want.length).map (Value.int .i64)) ∧
      w'.ownsRow w.heap.size 3 1 l (leaveTo want xs n 64).length ((leaveTo want xs n 64).map (Value.int .i64)) ∧ Below w.heap.size w w' := by
  obtain ⟨i0, hi, hz0, hz1, hz2⟩ := info_parts Try.info3
  obtain ⟨a1, c1, rfl, hc1, hm1, hcell1⟩ := h1.open
  obtain ⟨a2, c2, rfl, hc2, hm2, hxl, hcell2⟩ := h2.open
  have HC1 := Lib.hid hcell1
  have HC2 := Lib.hid hcell2
  have H1 := Lib.hid h1
  clear hcell1 hcell2 h1
  go_enter Try.func18, Try.ntmps18
  go_wp2_with fail
  go_loopw [6, 7] (fun v i wr => ∃ k : Nat, k ≤ n ∧ i = .int .i64 k ∧ wr.ownsRow w.heap.size 3 1 v (setsTo xs k).length ((setsTo xs k).map (Value.int .i64)) ∧ Below w.heap.size w wr) (fun _ i _ => n - (intOf i).toNat)
  case atStart => exact ⟨0, by omega, rfl, World.ownsRow_nil _ _ _ _, Below.refl _ _⟩
  case round =>
    obtain ⟨k, hk, rfl, hown, hB⟩ := hrel
    have hs := hB.size
    have hlen := setsTo_len xs k
    by_cases hlt : k < n
    · obtain ⟨b, off, rfl, hb, hcl⟩ := HC2.out (by omega)
      obtain ⟨s, hs', hck⟩ : ∃ s, Hid (vSet xs k = s) ∧ wr.cell? ⟨b, off + k * 6, none⟩ = some (.int .i64 s) := ⟨_, rfl, (hB.cell (by exact hb)).trans (hcl k 0 hlt (by omega))⟩
      clear hcl
      go_wp2_with (at_builtin; refine wpList_append_own _ rfl _ _ 26 rfl w.heap.size 3 i0 (.int .i64 0) 1 8 Try.underlying26 hi hz0 hz1 hz2 rfl (by decide) _ _ _ rfl (hown.alloc _) ⟨wr.heap.size, 0, none⟩ 1 1 [.int .i64 s] rfl rfl (cell_one_new' _ _ _) (by intro u hu; simp at hu; subst hu; rfl) (by unfold maxLen; omega) (by omega) (by simp; omega) ?_; intro v' w1 hown' hgrow _)
      have hB' := Below.appended hB hs hown _ hgrow
      have e : Hid (setsTo xs (k + 1) = setsTo xs k ++ [s]) := by rw [← hs'.out]; rfl
      go_roundw
      case rel => exact ⟨k + 1, by omega, by go_num, by rw [e.out]; simpa using hown', hB'⟩
      case measure => simp [intOf]; omega
    · have hk' : k = n := by omega
      rw [hk'] at hown
      have hkb : decide ((k : Int) < n) = false := by simp; omega
      clear hk' hlen
      go_wp2_with fail
      obtain ⟨vs, rfl⟩ : ∃ x, x = u6 := ⟨_, rfl⟩
      obtain ⟨ws, rfl⟩ : ∃ x : World, x = wr := ⟨_, rfl⟩
      go_loopw [8, 9] (fun v i wr => ∃ k : Nat, k ≤ want.length ∧ i = .int .i64 k ∧ wr.ownsRow ws.heap.size 3 1 v (beginTo want xs n k).length ((beginTo want xs n k).map (Value.int .i64)) ∧ Below ws.heap.size ws wr) (fun _ i _ => want.length - (intOf i).toNat)
      case atStart => exact ⟨0, by omega, rfl, World.ownsRow_nil _ _ _ _, Below.refl _ _⟩
      case round =>
        obtain ⟨k, hk, rfl, hownb, hBb⟩ := hrel
        have hsb := hBb.size
        have hlenb := beginTo_len want xs n k
        have hBx : Below w.heap.size w wr := hB.trans (hBb.mono hs)
        by_cases hlt : k < want.length
        · obtain ⟨b, off, rfl, hb, hcl⟩ := HC1.out (by omega)
          obtain ⟨s, hs', hck⟩ : ∃ s, Hid (want.getD k 0 = s) ∧ wr.cell? ⟨b, off + k, none⟩ = some (.int .i64 s) := ⟨_, rfl, (hBx.cell (by exact hb)).trans (hcl k hlt)⟩
          have rowS := RowI.of_owns (owns_below hown hBb (Nat.le_refl _))
          have rowB := RowI.of_owns hownb
          have hstep : beginTo want xs n (k + 1) = if coversB s 0 && !hasZ (beginTo want xs n k) s && !anyTo (isV s xs) n then beginTo want xs n k ++ [s] else beginTo want xs n k := by
            simp only [beginTo]; rw [hs'.out]
          rw [covers0] at hstep
          obtain ⟨t, ht⟩ : ∃ t, Hid (hasZ (beginTo want xs n k) s = t) := ⟨_, rfl⟩
          obtain ⟨y, hy⟩ : ∃ y, Hid (hasZ (setsTo xs n) s = y) := ⟨_, rfl⟩
          have hy2 := hy.out
          rw [setsTo_has] at hy2
          rw [ht.out, hy2] at hstep
          have HSTEP := Lib.hid hstep
          clear hstep hy2 hcl
          obtain ⟨p, hp⟩ : ∃ p, decide (0 ≤ s) = p := ⟨_, rfl⟩
          obtain ⟨q, hq⟩ : ∃ q, decide (s ≤ 63) = q := ⟨_, rfl⟩
          have rowS' := Lib.hid rowS
          have rowB' := Lib.hid rowB
          clear rowS rowB
          have HP : Hid (decide (0 ≤ s) = p) := hp
          have HQ : Hid (decide (s ≤ 63) = q) := hq
          go_wp2_with fail
          refine (in32 _ _ _ _ _ rowS'.out).mono ?_
          rw [hy.out]
          rintro e w' ⟨rfl, rfl⟩
          go_wp2_with fail
          refine (in32 _ _ _ _ _ rowB'.out).mono ?_
          rw [ht.out]
          rintro e w' ⟨rfl, rfl⟩
          cases y
          · cases t
            · cases p
              · go_wp2_with fail
                go_roundw
                case rel => exact ⟨k + 1, by omega, by go_num, by rw [HSTEP.out, HP.out]; exact hownb, hBb⟩
                case measure => simp [intOf]; omega
              · cases q
                · go_wp2_with fail
                  go_roundw
                  case rel => exact ⟨k + 1, by omega, by go_num, by rw [HSTEP.out, HP.out, HQ.out]; exact hownb, hBb⟩
                  case measure => simp [intOf]; omega
                · go_wp2_with (at_builtin; refine wpList_append_own _ rfl _ _ 26 rfl ws.heap.size 3 i0 (.int .i64 0) 1 8 Try.underlying26 hi hz0 hz1 hz2 rfl (by decide) _ _ _ rfl (hownb.alloc _) ⟨wr.heap.size, 0, none⟩ 1 1 [.int .i64 s] rfl rfl (cell_one_new' _ _ _) (by intro u hu; simp at hu; subst hu; rfl) (by unfold maxLen; omega) (by omega) (by simp; omega) ?_; intro v' w5 hown5 hgrow _; have hB5 := Below.appended hBb hsb hownb _ hgrow)
                  go_roundw
                  case rel => exact ⟨k + 1, by omega, by go_num, by rw [HSTEP.out, HP.out, HQ.out]; simpa using hown5, hB5⟩
                  case measure => simp [intOf]; omega
            · go_wp2_with fail
              go_roundw
              case rel => exact ⟨k + 1, by omega, by go_num, by rw [HSTEP.out]; simpa using hownb, hBb⟩
              case measure => simp [intOf]; omega
          · go_wp2_with fail
            go_roundw
            case rel => exact ⟨k + 1, by omega, by go_num, by rw [HSTEP.out]; simpa using hownb, hBb⟩
            case measure => simp [intOf]; omega
        · have hk' : k = want.length := by omega
          rw [hk'] at hownb
          have hkb : decide ((k : Int) < want.length) = false := by simp; omega
          clear hk' hlenb hBx
          go_wp2_with fail
          obtain ⟨vb, rfl⟩ : ∃ x, x = u8 := ⟨_, rfl⟩
          obtain ⟨wb, rfl⟩ : ∃ x : World, x = wr := ⟨_, rfl⟩
          have hBw : Below w.heap.size w wb := hB.trans (hBb.mono hs)
          have hsw := hBw.size
          clear hB hown
          go_loopw [12, 13] (fun v i wr => ∃ j : Nat, j ≤ 64 ∧ i = .int .i64 j ∧ wr.ownsRow wb.heap.size 3 1 v (leaveTo want xs n j).length ((leaveTo want xs n j).map (Value.int .i64)) ∧ Below wb.heap.size wb wr) (fun _ i _ => 64 - (intOf i).toNat)
          case atStart => exact ⟨0, by omega, rfl, World.ownsRow_nil _ _ _ _, Below.refl _ _⟩
          case round =>
            obtain ⟨j, hj, rfl, hownl0, hBl0⟩ := hrel
            by_cases hjt : j < 64
            · have hjb : decide ((j : Int) < 64) = true := by simp; omega
              have hfr := leaveTo_fresh want xs n j
              have hll := leaveTo_len want xs n j
              go_wp2_with fail
              go_loopw [12, 14] (fun v i wr => ∃ m : Nat, m ≤ n ∧ i = .int .i64 m ∧ wr.ownsRow wb.heap.size 3 1 v (leaveIn want xs (leaveTo want xs n j) j m).length ((leaveIn want xs (leaveTo want xs n j) j m).map (Value.int .i64)) ∧ Below wb.heap.size wb wr) (fun _ i _ => n - (intOf i).toNat)
              case atStart => exact ⟨0, by omega, rfl, hownl0, hBl0⟩
              case round =>
                clear hownl0 hBl0
                obtain ⟨m, hm, rfl, hownl, hBl⟩ := hrel
                have hsl := hBl.size
                have hBy : Below w.heap.size w wr := hBw.trans (hBl.mono hsw)
                have hlenl := leaveIn_len want xs (leaveTo want xs n j) j m hfr
                by_cases hmt : m < n
                · have hmb : decide ((m : Int) < n) = true := by simp; omega
                  obtain ⟨b, off, rfl, hb, hcl⟩ := HC2.out (by omega)
                  obtain ⟨s, hs', hck⟩ : ∃ s, Hid (vSet xs m = s) ∧ wr.cell? ⟨b, off + m * 6, none⟩ = some (.int .i64 s) := ⟨_, rfl, (hBy.cell (by exact hb)).trans (hcl m 0 hmt (by omega))⟩
                  obtain ⟨st, hst', hck2⟩ : ∃ s, Hid (vState xs m = s) ∧ wr.cell? ⟨b, off + m * 6 + 1, none⟩ = some (.int .i64 s) := ⟨_, rfl, (hBy.cell (by exact hb)).trans (hcl m 1 hmt (by omega))⟩
                  have hstep : leaveIn want xs (leaveTo want xs n j) j (m + 1) = if (s == (j : Int) && (st == 1 || st == 2)) && !hasZ want (j : Int) && !hasZ (leaveIn want xs (leaveTo want xs n j) j m) j then leaveIn want xs (leaveTo want xs n j) j m ++ [(j : Int)] else leaveIn want xs (leaveTo want xs n j) j m := by
                    have a1 := hs'.out
                    have a2 := hst'.out
                    show (if liveV (j : Int) xs m && !hasZ want (j : Int) && !hasZ (leaveIn want xs (leaveTo want xs n j) j m) j then _ else _) = _
                    unfold liveV
                    rw [a1, a2]
                  obtain ⟨tw, htw⟩ : ∃ t, Hid (hasZ want (j : Int) = t) := ⟨_, rfl⟩
                  obtain ⟨tl, htl⟩ : ∃ t, Hid (hasZ (leaveIn want xs (leaveTo want xs n j) j m) (j : Int) = t) := ⟨_, rfl⟩
                  obtain ⟨e1, h1'⟩ : ∃ e1, (s == (j : Int)) = e1 := ⟨_, rfl⟩
                  obtain ⟨e2, h2'⟩ : ∃ e1, (st == 1) = e1 := ⟨_, rfl⟩
                  obtain ⟨e3, h3'⟩ : ∃ e1, (st == 2) = e1 := ⟨_, rfl⟩
                  rw [htw.out, htl.out, h1', h2', h3'] at hstep
                  have HSTEP := Lib.hid hstep
                  have rowW := Lib.hid (RowI.mono H1.out hBy hBy.size)
                  have rowL := Lib.hid (RowI.of_owns hownl)
                  clear hstep hcl
                  go_wp2_with fail
                  refine (in32 _ _ _ _ _ rowW.out).mono ?_
                  rw [htw.out]
                  rintro e w' ⟨rfl, rfl⟩
                  go_wp2_with fail
                  refine (in32 _ _ _ _ _ rowL.out).mono ?_
                  rw [htl.out]
                  rintro e w' ⟨rfl, rfl⟩
                  cases e1
                  · go_wp2_with fail
                    go_roundw
                    case rel => exact ⟨m + 1, by omega, by go_num, by rw [HSTEP.out]; simpa using hownl, hBl⟩
                    case measure => simp [intOf]; omega
                  · cases e2
                    · cases e3
                      · go_wp2_with fail
                        go_roundw
                        case rel => exact ⟨m + 1, by omega, by go_num, by rw [HSTEP.out]; simpa using hownl, hBl⟩
                        case measure => simp [intOf]; omega
                      · cases tw
                        · cases tl
                          · go_wp2_with (at_builtin; refine wpList_append_own _ rfl _ _ 26 rfl wb.heap.size 3 i0 (.int .i64 0) 1 8 Try.underlying26 hi hz0 hz1 hz2 rfl (by decide) _ _ _ rfl (hownl.alloc _) ⟨wr.heap.size, 0, none⟩ 1 1 [.int .i64 (j : Int)] rfl rfl (cell_one_new' _ _ _) (by intro u hu; simp at hu; subst hu; rfl) (by unfold maxLen; omega) (by omega) (by simp; omega) ?_; intro v' w5 hown5 hgrow _; have hB5 := Below.appended hBl hsl hownl _ hgrow)
                            go_roundw
                            case rel => exact ⟨m + 1, by omega, by go_num, by rw [HSTEP.out]; simpa using hown5, hB5⟩
                            case measure => simp [intOf]; omega
                          · go_wp2_with fail
                            go_roundw
                            case rel => exact ⟨m + 1, by omega, by go_num, by rw [HSTEP.out]; simpa using hownl, hBl⟩
                            case measure => simp [intOf]; omega
                        · go_wp2_with fail
                          go_roundw
                          case rel => exact ⟨m + 1, by omega, by go_num, by rw [HSTEP.out]; simpa using hownl, hBl⟩
                          case measure => simp [intOf]; omega
                    · cases tw
                      · cases tl
                        · go_wp2_with (at_builtin; refine wpList_append_own _ rfl _ _ 26 rfl wb.heap.size 3 i0 (.int .i64 0) 1 8 Try.underlying26 hi hz0 hz1 hz2 rfl (by decide) _ _ _ rfl (hownl.alloc _) ⟨wr.heap.size, 0, none⟩ 1 1 [.int .i64 (j : Int)] rfl rfl (cell_one_new' _ _ _) (by intro u hu; simp at hu; subst hu; rfl) (by unfold maxLen; omega) (by omega) (by simp; omega) ?_; intro v' w5 hown5 hgrow _; have hB5 := Below.appended hBl hsl hownl _ hgrow)
                          go_roundw
                          case rel => exact ⟨m + 1, by omega, by go_num, by rw [HSTEP.out]; simpa using hown5, hB5⟩
                          case measure => simp [intOf]; omega
                        · go_wp2_with fail
                          go_roundw
                          case rel => exact ⟨m + 1, by omega, by go_num, by rw [HSTEP.out]; simpa using hownl, hBl⟩
                          case measure => simp [intOf]; omega
                      · go_wp2_with fail
                        go_roundw
                        case rel => exact ⟨m + 1, by omega, by go_num, by rw [HSTEP.out]; simpa using hownl, hBl⟩
                        case measure => simp [intOf]; omega
                · have hm' : m = n := by omega
                  rw [hm', leaveIn_step] at hownl
                  have hmb : decide ((m : Int) < n) = false := by simp; omega
                  clear hm'
                  go_wp2_with fail
                  go_roundw
                  case rel => exact ⟨j + 1, by omega, by go_num, hownl, hBl⟩
                  case measure => simp [intOf]; omega
            · obtain rfl : j = 64 := by omega
              go_wp2_with fail
              go_ret2
              exact ⟨_, _, rfl, owns_below (owns_base hownb (by omega)) hBl0 (Nat.le_refl _), owns_base hownl0 (by omega), hBw.trans (hBl0.mono hsw)⟩

end Go.Proofs.Ytfgnmcmkjfnogaa
