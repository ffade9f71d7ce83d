/- AdviseOrders: the walk. -/
import Derived.Test.YtfgnmcmkjfnogaaR
import Derived.Test.YtfgnmcmkjfnogaaH
namespace Go.Proofs.Ytfgnmcmkjfnogaa
open Go.RowKit
set_option linter.unusedVariables false
set_option linter.unusedSimpArgs false

theorem info38p : (Try.prog.info? 38).map (fun i => (i.zero, i.size, i.bytes)) = some (some (.agg (ints [0, 0, 0, 0, 0, 0])), 6, 48) := by kernel_rfl

theorem cells_new (w : World) (T : TypeId) (cs : Array Value) : ∀ j u, cs.toList[j]? = some u → (w.alloc (.cells cs T)).cell? ((⟨w.heap.size, 0, none⟩ : Addr).add j) = some u := by
  intro j u hj
  have e : (⟨w.heap.size, 0, none⟩ : Addr).add j = ⟨w.heap.size, 0 + j, none⟩ := by unfold Addr.add; split <;> simp_all
  rw [e, World.cell?_alloc_at _ _ _ _ rfl, Nat.zero_add]
  simpa using hj
theorem hasZ_any (l : List Int) (s : Int) : hasZ l s = anyTo (fun i => l.getD i 0 == s) l.length := by
  cases h : hasZ l s
  · refine (anyTo_no (fun k hk => ?_)).symm
    cases e : (l.getD k 0 == s)
    · rfl
    · rw [contains_at hk (by simpa using e)] at h; exact absurd h (by decide)
  · obtain ⟨i, hi, e⟩ := List.getElem_of_mem (show s ∈ l by simpa [hasZ] using h)
    exact (anyTo_yes hi (by rw [List.getD_eq_getElem?_getD, List.getElem?_eq_getElem hi]; simpa using e)).symm
theorem begin_nodup (want xs : List Int) (n k : Nat) : (beginTo want xs n k).Nodup ∧ ∀ s ∈ beginTo want xs n k, 0 ≤ s ∧ s ≤ 63 := by
  induction k with
  | zero => simp [beginTo]
  | succ k ih =>
    simp only [beginTo]
    split
    · rename_i h
      simp only [Bool.and_eq_true, Bool.not_eq_true'] at h
      rw [covers0] at h
      obtain ⟨⟨h1, h2⟩, -⟩ := h
      simp only [Bool.and_eq_true, decide_eq_true_eq] at h1
      refine ⟨List.nodup_append.2 ⟨ih.1, by simp, ?_⟩, ?_⟩
      · intro a ha b hb e
        simp at hb
        rw [e, hb] at ha
        have : hasZ (beginTo want xs n k) (want.getD k 0) = true := by unfold hasZ; exact List.elem_iff.2 ha
        rw [h2] at this
        exact absurd this (by decide)
      · intro s hs
        rcases List.mem_append.1 hs with h | h
        · exact ih.2 s h
        · rw [List.mem_singleton.1 h]; exact h1
    · exact ih
theorem begin_le (want xs : List Int) (n k : Nat) : (beginTo want xs n k).length ≤ 64 := by
  obtain ⟨h1, h2⟩ := begin_nodup want xs n k
  have := List.Nodup.length_le_of_subset (l₂ := (List.range 64).map (fun i : Nat => (i : Int))) h1 (fun s hs => by
    have := h2 s hs
    exact List.mem_map.2 ⟨s.toNat, List.mem_range.2 (by omega), by omega⟩)
  simpa using this

set_option maxRecDepth 100000 in
set_option maxHeartbeats 4000000 in
theorem orders5 (want xs : List Int) (n : Nat) (v1 v2 : Value) (w : World) (h1 : RowI w.heap.size w v1 want) (h2 : RowV w.heap.size w v2 n xs) (hsz : want.length * 8 ≤ 140737488351232) (hsz2 : n * 48 ≤ 140737488351232) :
    Calls Try.prog 5 #[v1, v2] w fun e w' => e = .returned (.bool true) ∧ Below w.heap.size w w' := by
  obtain ⟨i0, hi, hz0, hz1, hz2⟩ := info_parts info38p
  have H1 := Lib.hid h1
  have H2 := Lib.hid h2
  clear h1 h2
  go_enter Try.func5, Try.ntmps5
  go_wp2_with fail
  refine (awake9 _).mono ?_
  rintro e w1 ⟨rfl, hB1⟩
  go_wp2_with fail
  refine (orders17 want xs n _ _ _ (RowI.mono H1.out hB1 hB1.size) (RowV.mono H2.out hB1 hB1.size) hsz).mono ?_
  rintro e w2 ⟨vb, vd, rfl, ownb, ownd, hB2⟩
  have hB3 := hB1.trans (hB2.mono hB1.size)
  have hs2 := hB2.size
  have hs1 := hB1.size
  clear hB1 hB2
  go_wp2_with fail
  refine (orders18 want xs n _ _ _ (RowI.mono H1.out hB3 hB3.size) (RowV.mono H2.out hB3 hB3.size) hsz hsz2).mono ?_
  rintro e w3 ⟨vc, ve, rfl, ownc, owne, hB4⟩
  have hB5 := hB3.trans (hB4.mono hB3.size)
  have hs3 := hB4.size
  have rB := RowI.of_owns (owns_below ownb hB4 (Nat.le_refl _))
  have rD := RowI.of_owns (owns_below ownd hB4 (Nat.le_refl _))
  have rC := RowI.of_owns ownc
  have rE := RowI.of_owns owne
  clear hB3 hB4 ownb ownd ownc owne
  go_wp2_with fail
  refine (same11 w3.heap.size _ _ _ _ rB rC).mono ?_
  rintro e w4 ⟨rfl, n1, rfl⟩
  go_wp2_with fail
  have rD' : RowI w3.heap.size (w3.drewN n1) vd (leaveTo want xs n 64) := RowI.mono rD (Below.drewN (Below.refl _ _) n1) (Nat.le_refl _)
  have rE' : RowI w3.heap.size (w3.drewN n1) ve (leaveTo want xs n 64) := RowI.mono rE (Below.drewN (Below.refl _ _) n1) (Nat.le_refl _)
  refine (same11 w3.heap.size _ _ _ _ rD' rE').mono ?_
  rintro e w5 ⟨rfl, n2, rfl⟩
  have hB6 : Below w.heap.size w ((w3.drewN n1).drewN n2) := Below.drewN (Below.drewN hB5 n1) n2
  have rB5 : RowI ((w3.drewN n1).drewN n2).heap.size ((w3.drewN n1).drewN n2) vb (beginTo want xs n want.length) := RowI.mono rB (Below.drewN (Below.drewN (Below.refl _ _) n1) n2) (Nat.le_refl _)
  have rD5 : RowI ((w3.drewN n1).drewN n2).heap.size ((w3.drewN n1).drewN n2) vd (leaveTo want xs n 64) := RowI.mono rD (Below.drewN (Below.drewN (Below.refl _ _) n1) n2) (Nat.le_refl _)
  generalize (w3.drewN n1).drewN n2 = w5 at *
  clear rB rD rC rE rD' rE' hB5
  have hlb := begin_le want xs n want.length
  have hld := leaveTo_len want xs n 64
  have hnow : nowL want xs n = addTo (beginTo want xs n want.length) (stayTo (leaveTo want xs n 64) xs n) (beginTo want xs n want.length).length := rfl
  obtain ⟨BL, hBL⟩ : ∃ l, beginTo want xs n want.length = l := ⟨_, rfl⟩
  obtain ⟨DL, hDL⟩ : ∃ l, leaveTo want xs n 64 = l := ⟨_, rfl⟩
  rw [hBL] at rB5 hlb hnow
  rw [hDL] at rD5 hld hnow
  have HNOW := Lib.hid hnow
  clear hBL hDL hnow
  obtain ⟨ab, cb, rfl, hcb, hmb, hcellb⟩ := rB5.open
  obtain ⟨ad, cd, rfl, hcd, hmd, hcelld⟩ := rD5.open
  have H2' := H2.out
  obtain ⟨a2, c2, rfl, hc2, hm2, hxl, hcell2⟩ := H2'.open
  have HCB := Lib.hid hcellb
  have HCD := Lib.hid hcelld
  have HC2 := Lib.hid hcell2
  have hs6 := hB6.size
  clear hcellb hcelld hcell2 rB5 rD5 H2'
  go_wp2_with fail
  go_loopw [12, 13] (fun v i wr => ∃ k : Nat, k ≤ n ∧ i = .int .i64 k ∧ wr.ownsRow w5.heap.size 38 6 v (stayTo DL xs k).length ((stayTo DL xs k).flatten.map (Value.int .i64)) ∧ Below w5.heap.size w5 wr) (fun _ i _ => n - (intOf i).toNat)
  case atStart => exact ⟨0, by omega, rfl, World.ownsRow_nil _ _ _ _, Below.refl _ _⟩
  case round =>
    obtain ⟨k, hk, rfl, hown, hB⟩ := hrel
    have hs := hB.size
    have hlen := stay_len DL xs k
    by_cases hlt : k < n
    · have hkb : decide ((k : Int) < n) = true := by simp; omega
      obtain ⟨b, off, rfl, hb, hcl⟩ := HC2.out (by omega)
      obtain ⟨s, hs', hck⟩ : ∃ s, Hid (vSet xs k = s) ∧ wr.cell? ⟨b, off + k * 6, none⟩ = some (.int .i64 s) := ⟨_, rfl, ((hB6.trans (hB.mono hs6)).cell (by exact hb)).trans (hcl k 0 hlt (by omega))⟩
      clear hcl
      go_wp2_with fail
      go_loopw [14, 15] (fun g i wq => ∃ (m q : Nat) (y : Bool), m ≤ DL.length ∧ i = .int .i64 m ∧ g = .bool y ∧ Hid (anyTo (fun i => DL.getD i 0 == s) m = y) ∧ wq = wr.drewN q) (fun _ i _ => DL.length - (intOf i).toNat)
      case atStart => exact ⟨0, 0, false, by omega, rfl, rfl, rfl, rfl⟩
      case round =>
        obtain ⟨m, q, y, hm, rfl, rfl, hy, rfl⟩ := hrel
        by_cases hmt : m < DL.length
        · obtain ⟨b', off', rfl, hb', hcl⟩ := HCD.out (by omega)
          obtain ⟨z, hz, hcz⟩ : ∃ s, Hid (DL.getD m 0 = s) ∧ wr.cell? ⟨b', off' + m, none⟩ = some (.int .i64 s) := ⟨_, rfl, (hB.cell (by exact hb')).trans (hcl m hmt)⟩
          have hstep : anyTo (fun i => DL.getD i 0 == s) (m + 1) = (y || (z == s)) := by
            have a1 := hy.out
            have a2 := hz.out
            rw [anyTo_step]; show (_ || (DL.getD m 0 == s)) = _; rw [a1, a2]
          have HSTEP := Lib.hid hstep
          clear hcl hstep
          cases y
          · obtain ⟨c, hc⟩ : ∃ c, (z == s) = c := ⟨_, rfl⟩
            have HC := Lib.hid hc
            go_wp2_with fail
            go_quiet (fail)
            go_wp2_with fail
            go_roundw
            case rel => exact ⟨m + 1, _, c, by omega, by go_num, by first | rfl | rw [HC.out], by rw [HSTEP.out, HC.out]; simp [Hid], rfl⟩
            case measure => simp [intOf]; omega
          · go_wp2_with fail
            go_quiet (fail)
            go_wp2_with fail
            go_roundw
            case rel => exact ⟨m + 1, _, true, by omega, by go_num, rfl, by rw [HSTEP.out]; simp [Hid], rfl⟩
            case measure => simp [intOf]; omega
        · obtain rfl : m = DL.length := by omega
          have hy2 := hy.out
          rw [← hasZ_any, ← hs'.out] at hy2
          have hstep : stayTo DL xs (k + 1) = if y then stayTo DL xs k else stayTo DL xs k ++ [rowOf xs k] := by simp only [stayTo]; rw [hy2]
          have HSTEP := Lib.hid hstep
          clear hstep hy2
          have hwq : Below w5.heap.size w5 (wr.drewN q) := Below.drewN hB q
          have hownq := owns_below hown (Below.drewN (Below.refl wr.heap.size wr) q) (Nat.le_refl _)
          have hsq := hwq.size
          have hmb2 : decide ((DL.length : Int) < DL.length) = false := by simp
          cases y
          · have hcs : ∀ j, j < (vCells xs k).size → (wr.drewN q).cell? ⟨b, off + k * 6 + j, none⟩ = (vCells xs k)[j]? := by
              intro j hj
              have hj6 : j < 6 := by simpa [vCells, ints] using hj
              obtain ⟨b2, off2, e2, hb2, hcl⟩ := HC2.out (by omega)
              obtain ⟨rfl, rfl⟩ : b = b2 ∧ off = off2 := by injection e2 with e2; injection e2 with e3 e4; exact ⟨e3, e4⟩
              rw [(hB6.trans (hwq.mono hs6)).cell (by exact hb), hcl k j hlt hj6]
              match j, hj6 with
              | 0, _ => rfl
              | 1, _ => rfl
              | 2, _ => rfl
              | 3, _ => rfl
              | 4, _ => rfl
              | 5, _ => rfl
            obtain ⟨q0, q1, q2, q3, q4, q5, hvc⟩ : ∃ a0 a1 a2 a3 a4 a5, vCells xs k = #[.int .i64 a0, .int .i64 a1, .int .i64 a2, .int .i64 a3, .int .i64 a4, .int .i64 a5] := ⟨_, _, _, _, _, _, rfl⟩
            rw [hvc] at hcs
            have HCS := Lib.hid hcs
            have e6 : Hid ((rowOf xs k).map (Value.int .i64) = [.int .i64 q0, .int .i64 q1, .int .i64 q2, .int .i64 q3, .int .i64 q4, .int .i64 q5]) := congrArg Array.toList hvc
            clear hcs hown hB hs hck hvc
            generalize wr.drewN q = wq at *
            go_wp2_with (first | (refine wpList_load_at rfl 38 _ rfl _ _ rfl #[.int .i64 q0, .int .i64 q1, .int .i64 q2, .int .i64 q3, .int .i64 q4, .int .i64 q5] _ HCS.out Try.underlying38 rfl Try.info38 ?_) | (at_builtin; refine wpList_append_own _ rfl _ _ 34 rfl w5.heap.size 38 i0 (.agg (ints [0, 0, 0, 0, 0, 0])) 6 48 Try.underlying34 hi hz0 hz1 hz2 rfl (by decide) _ _ _ rfl (hownq.alloc _) ⟨wq.heap.size, 0, none⟩ 1 1 [.int .i64 q0, .int .i64 q1, .int .i64 q2, .int .i64 q3, .int .i64 q4, .int .i64 q5] rfl rfl (cells_new _ _ _) (by intro u hu; simp at hu; rcases hu with rfl | rfl | rfl | rfl | rfl | rfl <;> rfl) (by unfold maxLen; omega) (by omega) (by simp; omega) ?_; intro v' w6 hown6 hgrow _; have hB7 := Below.appended hwq hsq hownq _ hgrow))
            go_roundw
            case rel => exact ⟨k + 1, by omega, by go_num, by rw [HSTEP.out]; simpa [e6.out] using hown6, hB7⟩
            case measure => simp [intOf]; omega
          · clear hown hB hs hck
            generalize wr.drewN q = wq at *
            go_wp2_with fail
            go_roundw
            case rel => exact ⟨k + 1, by omega, by go_num, by rw [HSTEP.out]; exact hownq, hwq⟩
            case measure => simp [intOf]; omega
    · have hk' : k = n := by omega
      rw [hk'] at hown hlen
      have hkb : decide ((k : Int) < n) = false := by simp; omega
      clear hk'
      go_wp2_with fail
      go_loopw [12, 16] (fun v i wr => ∃ k : Nat, k ≤ BL.length ∧ i = .int .i64 k ∧ wr.ownsRow w5.heap.size 38 6 v (addTo BL (stayTo DL xs n) k).length ((addTo BL (stayTo DL xs n) k).flatten.map (Value.int .i64)) ∧ Below w5.heap.size w5 wr) (fun _ i _ => BL.length - (intOf i).toNat)
      case atStart => exact ⟨0, by omega, rfl, hown, hB⟩
      case round =>
        clear hown hB hs
        obtain ⟨k, hk, rfl, hown, hB⟩ := hrel
        have hs := hB.size
        have hlen2 := add_len BL (stayTo DL xs n) k
        by_cases hlt : k < BL.length
        · have hkb : decide ((k : Int) < BL.length) = true := by simp; omega
          obtain ⟨b, off, rfl, hb, hcl⟩ := HCB.out (by omega)
          obtain ⟨s, hs', hck⟩ : ∃ s, Hid (BL.getD k 0 = s) ∧ wr.cell? ⟨b, off + k, none⟩ = some (.int .i64 s) := ⟨_, rfl, (hB.cell (by exact hb)).trans (hcl k hlt)⟩
          have hstep : addTo BL (stayTo DL xs n) (k + 1) = addTo BL (stayTo DL xs n) k ++ [[s, 1, 0, 0, 0, 0]] := by simp only [addTo]; rw [hs'.out]
          have HSTEP := Lib.hid hstep
          clear hcl hstep
          go_wp2_with (first | (at_builtin; refine wpList_append_own _ rfl _ _ 34 rfl w5.heap.size 38 i0 (.agg (ints [0, 0, 0, 0, 0, 0])) 6 48 Try.underlying34 hi hz0 hz1 hz2 rfl (by decide) _ _ _ rfl (hown.alloc _) ⟨wr.heap.size, 0, none⟩ 1 1 [.int .i64 s, .int .i64 1, .int .i64 0, .int .i64 0, .int .i64 0, .int .i64 0] rfl rfl (cells_new _ _ _) (by intro u hu; simp at hu; rcases hu with rfl | rfl | rfl | rfl | rfl | rfl <;> rfl) (by unfold maxLen; omega) (by omega) (by simp; omega) ?_; intro v' w6 hown6 hgrow _; have hB7 := Below.appended hB hs hown _ hgrow))
          go_roundw
          case rel => exact ⟨k + 1, by omega, by go_num, by rw [HSTEP.out]; simpa using hown6, hB7⟩
          case measure => simp [intOf]; omega
        · have hk' : k = BL.length := by omega
          rw [hk', ← HNOW.out] at hown
          have hkb : decide ((k : Int) < BL.length) = false := by simp; omega
          have hnl : (nowL want xs n).length ≤ n + 64 := by rw [HNOW.out, add_len]; omega
          clear hk' hlen2
          have rowN : RowV wr.heap.size wr u12 (nowL want xs n).length (nowL want xs n).flatten := Row.of_owns hown
          obtain ⟨a12, c12, hv12, -, -, -⟩ := rowN.open
          subst hv12
          have ROWN := Lib.hid rowN
          have hBw : Below w.heap.size w wr := hB6.trans (hB.mono hs6)
          clear rowN hown
          go_wp2_with fail
          refine (orders17 want (nowL want xs n).flatten (nowL want xs n).length _ _ _ (RowI.mono H1.out hBw hBw.size) ROWN.out hsz).mono ?_
          rw [now_begin _ _ _ _ (Nat.le_refl _), now_leave _ _ _ _ (Nat.le_refl _)]
          rintro e w7 ⟨vx, vy, rfl, ownx, owny, hB8⟩
          have hB9 := hBw.trans (hB8.mono hBw.size)
          obtain ⟨ax, cx, rfl, -, -, -⟩ := (RowI.of_owns ownx).open
          obtain ⟨ay, cy, rfl, -, -, -⟩ := (RowI.of_owns owny).open
          clear ownx owny
          go_wp2_with fail
          go_loop [19, 20] (fun c i => c = .int .i64 0 ∧ i = .int .i64 0) (fun _ _ => 0)
          case atStart => exact ⟨rfl, rfl⟩
          case round =>
            obtain ⟨rfl, rfl⟩ := hrel
            go_wp2_with fail
            go_ret
            exact ⟨rfl, hB9⟩

theorem ordersLaw (v1 v2 : Value) (w : World) (m : Nat) (want : List Int) (h1 : Row w.heap.size w v1 m 1 (want.map (Value.int .i64))) (hsz : m * 8 ≤ 140737488351232) (n : Nat) (xs : List Int) (h2 : Row w.heap.size w v2 n 6 (xs.map (Value.int .i64))) (hsz2 : n * 48 ≤ 140737488351232) :
    Calls Try.prog 5 #[v1, v2] w fun e w' => e = .returned (.bool true) ∧ Below w.heap.size w w' := by
  have hm : m = want.length := by have := h1.len; simpa using this.symm
  subst hm
  exact orders5 want xs n v1 v2 w h1 h2 hsz hsz2

end Go.Proofs.Ytfgnmcmkjfnogaa
