/- AdvisePlays: needs are noted, weighed, and give advice: the walk. -/
import Derived.Test.YtfgnmcmkjfnogaaU
import Derived.Test.YtfgnmcmkjfnogaaI
namespace Go.Proofs.Ytfgnmcmkjfnogaa
open Go.RowKit
set_option linter.unusedVariables false
set_option linter.unusedSimpArgs false

/-- as note19_yes; and no other block is another one -/
theorem note19_all (g : List Int) (n b : Nat) (x : Int) (w : World) (h0 : 0 ≤ x) (h1 : x < 64) (hA : Arr w b 42 (advL g n)) (hg : g.length = 64) (hn : n ≤ 1000000) :
    Calls Try.prog 19 #[.pointer (some ⟨b, 0, none⟩), .int .i64 x, .bool false] w fun e w' => e = .returned (.tuple #[]) ∧ Arr w' b 42 (advL (g.set (n % 64) x) (n + 1)) ∧ w'.heap.size = w.heap.size ∧ Below b w w' ∧ ∀ k, k ≠ b → w'.heap[k]? = w.heap[k]? := by
  have d0 : decide (x < 0) = false := by simp; omega
  have d1 : decide (64 ≤ x) = false := by simp; omega
  have hb := Blk.lt hA
  have c64 := Arr.cell hA (j := 64) (by rw [advL_len _ _ hg]; omega)
  rw [advL_n _ _ hg] at c64
  have hm : (n : Int).tmod 64 = (n % 64 : Nat) := by rw [Int.tmod_eq_emod_of_nonneg (by omega)]; omega
  have hmb : n % 64 < 64 := Nat.mod_lt _ (by omega)
  obtain ⟨v0, cm⟩ : ∃ v0, w.cell? ⟨b, n % 64, none⟩ = some v0 := ⟨_, Arr.cell hA (j := n % 64) (by rw [advL_len _ _ hg]; omega)⟩
  have fm := Arr.free hA
  go_enter Try.func19, Try.ntmps19
  go_wp2_with fail
  go_region
  go_wp2_with fail
  have hA1 := Arr.set hA (n % 64) x
  have hA2 := Arr.set hA1 64 ((n : Int) + 1)
  go_end0
  have e : ((advL g n).set (n % 64) x).set 64 ((n : Int) + 1) = advL (g.set (n % 64) x) (n + 1) := by
    apply List.ext_getElem
    · simp [advL]
    · intro i h1 h2
      simp [advL] at h1 h2
      simp only [advL, List.getElem_set, List.getElem_append, List.length_set, hg]
      by_cases e64 : 64 = i
      · subst e64; simp
      · have : i < 64 := by omega
        rw [if_neg e64, dif_pos this, dif_pos this]
  rw [e] at hA2
  refine ⟨rfl, hA2, by simp [World.setCell, World.drew], ?_, ?_⟩
  · exact (((Below.refl b w).setCell (by exact Nat.le_refl b) _).setCell (by exact Nat.le_refl b) _).drew
  · intro k hk
    exact (Below.heap_setCell _ ⟨b, 64, none⟩ _ k (by exact hk)).trans (Below.heap_setCell _ ⟨b, n % 64, none⟩ _ k (by exact hk))

theorem lastL_in (l : List Int) (x : Int) (hx : 0 ≤ x ∧ x < 64) (hl : ∀ y ∈ l, 0 ≤ y ∧ y < 64) : ∀ y ∈ lastL l x, 0 ≤ y ∧ y < 64 := by
  intro y hy
  unfold lastL at hy
  have : y ∈ l ++ [x] := by
    split at hy
    · exact List.mem_of_mem_tail hy
    · exact hy
  rcases List.mem_append.1 this with h | h
  · exact hl y h
  · simp at h; subst h; exact hx

/-- both advisors hold the same needs -/
structure Pl (w : World) (bx ba br : Nat) (x : List Int) (wr : World) (g : List Int) (n : Nat) (v : Value) : Prop where
  hg : g.length = 64
  hA : Arr wr ba 42 (advL g n)
  hx : Arr wr bx 24 x
  hv : Blk wr br 52 #[v]
  ho : ownsAt wr (br + 1) 3 v (logL g n).length ((logL g n).map (Value.int .i64))
  hl : ∀ y ∈ logL g n, 0 ≤ y ∧ y < 64
  hB : Below w.heap.size w wr
theorem Pl.below {w : World} {bx ba br : Nat} {x : List Int} {wr wr' : World} {g : List Int} {n : Nat} {v : Value} (h : Pl w bx ba br x wr g n v) (hb : Below wr.heap.size wr wr') : Pl w bx ba br x wr' g n v :=
  ⟨h.hg, Blk.below h.hA hb (Blk.lt h.hA), Blk.below h.hx hb (Blk.lt h.hx), Blk.below h.hv hb (Blk.lt h.hv), h.ho.below hb (Nat.le_refl _), h.hl, h.hB.trans (hb.mono h.hB.size)⟩
theorem Pl.get {w : World} {bx ba br : Nat} {x : List Int} {wr : World} {g : List Int} {n : Nat} {v : Value} (h : Pl w bx ba br x wr g n v) : ∀ j, j < (logL g n).length → 0 ≤ (logL g n).getD j 0 ∧ (logL g n).getD j 0 < 64 := by
  intro j hj
  apply h.hl
  rw [List.getD_eq_getElem?_getD, List.getElem?_eq_getElem hj]
  exact List.getElem_mem hj
theorem Pl.le {w : World} {bx ba br : Nat} {x : List Int} {wr : World} {g : List Int} {n : Nat} {v : Value} (h : Pl w bx ba br x wr g n v) : (logL g n).length ≤ 64 := by rw [logL_len]; omega
/-- behind the first note -/
theorem Pl.note1 {w : World} {bx ba br : Nat} {x : List Int} {wr w1 : World} {g : List Int} {n : Nat} {v : Value} (h : Pl w bx ba br x wr g n v) (hbx : bx < ba) (hab : ba < br)
    (hsz : w1.heap.size = wr.heap.size) (hblk : ∀ k, k ≠ ba → w1.heap[k]? = wr.heap[k]?) :
    Blk w1 br 52 #[v] ∧ ownsAt w1 (br + 1) 3 v (logL g n).length ((logL g n).map (Value.int .i64)) := by
  refine ⟨(hblk br (by omega)).trans h.hv, h.ho.1, ?_⟩
  rcases h.ho.2 with h | ⟨k, off, cap, cur, hv, hg, hh, r⟩
  · exact .inl h
  · exact .inr ⟨k, off, cap, cur, hv, hg, (hblk k (by omega)).trans hh, r⟩
/-- behind both -/
theorem Pl.note2 {w : World} {bx ba br : Nat} {x : List Int} {wr w1 w2 : World} {g : List Int} {n : Nat} {v v' : Value} {z : Int} (h : Pl w bx ba br x wr g n v) (hbx : bx < ba) (hab : ba < br) (hw : w.heap.size ≤ ba) (hz : 0 ≤ z ∧ z < 64)
    (hA : Arr w1 ba 42 (advL (g.set (n % 64) z) (n + 1))) (hB1 : Below ba wr w1)
    (hv' : Blk w2 br 52 #[v']) (ho' : ownsAt w2 (br + 1) 3 v' (lastL (logL g n) z).length ((lastL (logL g n) z).map (Value.int .i64))) (hB2 : Below br w1 w2) : Pl w bx ba br x w2 (g.set (n % 64) z) (n + 1) v' := by
  have e := log_step g n z h.hg
  refine ⟨by simp [h.hg], Blk.below hA hB2 hab, Blk.below (Blk.below h.hx hB1 hbx) hB2 (by omega), hv', by rw [e]; exact ho', ?_, h.hB.trans ((hB1.mono hw).trans (hB2.mono (by omega)))⟩
  rw [e]
  exact lastL_in _ _ hz h.hl

/-- the i-th bool, or false -/
def bAt (l : List Bool) (i : Nat) : Bool := l.getD i false
theorem noteB_yes {x : Int} {y : Bool} (h : noteB x y = true) : y = false ∧ 0 ≤ x ∧ x < 64 := by
  unfold noteB at h
  cases y <;> simp at h
  exact ⟨rfl, h.1, h.2⟩

set_option maxRecDepth 100000 in
set_option maxHeartbeats 8000000 in
theorem plays8 (l : List Int) (bs : List Bool) (x : List Int) (v0 v1 : Value) (w : World) (h0 : RowI w.heap.size w v0 l) (h1 : Row w.heap.size w v1 bs.length 1 (bs.map Value.bool))
    (hx : x.length = 258) (hb0 : -9223372036854775808 ≤ x.getD 257 0) (hb1 : x.getD 257 0 ≤ 9223372036854775807) :
    Calls Try.prog 8 #[v0, v1, .agg (ints x)] w fun e w' => e = .returned (.bool true) ∧ Below w.heap.size w w' := by
  have p1 := Lib.hid (part_len x 64 (by omega))
  have p2 := Lib.hid (part_len x 128 (by omega))
  have HX := Lib.hid hx
  have hx1 : 258 ≤ x.length := by omega
  obtain ⟨a0, cap0, rfl, hcap0, hmax0, hc0⟩ := h0.open
  obtain ⟨hl1, a1, cap1, rfl, hcap1, hmax1, hc1⟩ := h1
  have HC0 := Lib.hid hc0
  have HC1 := Lib.hid hc1
  clear hx hc0 hc1 hl1
  have hA0 : Arr (w.alloc (Obj.cells (ints x) 24)) w.heap.size 24 x := Blk.newAt _ _ _ rfl
  have hB0 : Below w.heap.size w (w.alloc (Obj.cells (ints x) 24)) := (Below.refl _ _).alloc (Nat.le_refl _) _
  have HA0 := Lib.hid hA0
  have HB0 := Lib.hid hB0
  clear hA0 hB0
  go_enter Try.func8, Try.ntmps8
  go_wp2_with fail
  refine (awake9 _).mono ?_
  rintro e w1 ⟨rfl, hB1⟩
  go_wp2_with fail
  refine (new23 _).mono ?_
  rintro e w2 ⟨ba, rfl, hba, hA2, hB2⟩
  have hx2 : Arr w2 w.heap.size 24 x := Blk.below (Blk.below HA0.out hB1 (by simp)) hB2 (by have := hB1.size; simp at this; omega)
  have hBw2 : Below w.heap.size w w2 := (HB0.out.trans (hB1.mono (by simp))).trans (hB2.mono (by have := hB1.size; simp at this; omega))
  have hbxa : w.heap.size < ba := by have := hB1.size; simp at this; omega
  have hba2 := Blk.lt hA2
  have hP1 : Pl w w.heap.size ba w2.heap.size x (w2.alloc (Obj.cells #[.slice none 0 0] 52)) zeros64 0 (.slice none 0 0) :=
    ⟨zeros64_len, Blk.alloc hA2 _, Blk.alloc hx2 _, Blk.new _ _ _, ownsAt.nil _ _ _, fun y hy => by simp [logL, logTo] at hy, hBw2.alloc hBw2.size _⟩
  obtain ⟨bx, hbx⟩ : ∃ bx, bx = w.heap.size := ⟨_, rfl⟩
  obtain ⟨br, hbr⟩ : ∃ br, br = w2.heap.size := ⟨_, rfl⟩
  have hba3 : ba < br := by omega
  have hbxa' : bx < ba := by omega
  have hwa : w.heap.size ≤ ba := by omega
  have HP1 := Lib.hid hP1
  have HBR := Lib.hid hbr
  have HBX := Lib.hid hbx
  clear hP1 hBw2 hx2 hB2 hA2 hbxa hba2 hB1 hba hbr hbx
  go_wp2_with fail
  rw [← HBR.out] at HP1 ⊢
  rw [← HBX.out] at HP1 ⊢
  go_loopw [10, 11] (fun i _ wr => ∃ (k n : Nat) (g : List Int) (v : Value), k ≤ l.length ∧ k ≤ 300 ∧ n ≤ k ∧ i = .int .i64 k ∧ Pl w bx ba br x wr g n v) (fun i _ _ => 300 - (intOf i).toNat)
  case atStart => exact ⟨0, 0, zeros64, .slice none 0 0, by omega, by omega, by omega, rfl, HP1.out⟩
  case round =>
    obtain ⟨k, n, g, v, hk, hk3, hnk, rfl, hP⟩ := hrel
    by_cases hlt : k < l.length ∧ k < 300
    · have d1 : decide ((k : Int) < l.length) = true := by simp; omega
      have d2 : decide ((k : Int) < 300) = true := by simp; omega
      have hkl : k < l.length := hlt.1
      have hk4 : k < 300 := hlt.2
      obtain ⟨b', off, rfl, hb', hcl⟩ := HC0.out (by omega)
      obtain ⟨z, hz, c0⟩ : ∃ z, Hid (l.getD k 0 = z) ∧ wr.cell? ⟨b', off + k, none⟩ = some (.int .i64 z) := ⟨_, rfl, (hP.hB.cell (by exact hb')).trans (hcl k hkl)⟩
      have hzb : b' < wr.heap.size := Nat.lt_of_lt_of_le hb' hP.hB.size
      clear hcl
      obtain ⟨y, hy⟩ : ∃ y, Hid (bAt bs k = y) := ⟨_, rfl⟩
      by_cases hn : noteB z y = true
      · obtain ⟨rfl, hz0, hz1⟩ := noteB_yes hn
        have hzz : 0 ≤ z ∧ z < 64 := ⟨hz0, hz1⟩
        by_cases hm : k < bs.length
        · have d3 : decide ((k : Int) < bs.length) = true := by simp; omega
          obtain ⟨b2, off2, rfl, hb2, hcl⟩ := HC1.out (by omega)
          have c1 : wr.cell? ⟨b2, off2 + k, none⟩ = some (.bool false) := by
            rw [hP.hB.cell (by exact hb2), hcl k (by omega), ← hy.out]
            simp [bAt, List.getD_eq_getElem?_getD, hm]
          clear hcl
          go_wp2_with fail
          refine (note19_all g n ba z _ hz0 hz1 hP.hA hP.hg (by omega)).mono ?_
          rintro e w3 ⟨rfl, hA3, hs3, hB3, hblk⟩
          obtain ⟨hv3, ho3⟩ := hP.note1 hbxa' hba3 hs3 hblk
          have c1' : w3.cell? ⟨b', off + k, none⟩ = some (.int .i64 z) := (hB3.cell (by show b' < ba; omega)).trans c0
          go_wp2_with fail
          refine (note24_yes (logL g n) br (br + 1) v z _ hz0 hz1 hv3 ho3 (Nat.lt_succ_self _) (by have := Blk.lt hv3; omega) hP.le).mono ?_
          rintro e w4 ⟨rfl, v4, hv4, ho4, hB4⟩
          have c2 : w4.cell? ⟨b', off + k, none⟩ = some (.int .i64 z) := (hB4.cell (by show b' < br; omega)).trans c1'
          have hP2 := hP.note2 hbxa' hba3 hwa hzz hA3 hB3 hv4 ho4 hB4
          have hzb : b' < w4.heap.size := by have := Blk.lt hv4; omega
          obtain ⟨c, hc⟩ : ∃ c : Int, Hid (((cntTo (logL (g.set (n % 64) z) (n + 1)) z (logL (g.set (n % 64) z) (n + 1)).length : Nat) : Int) = c) := ⟨_, rfl⟩
          clear hA3 hv3 ho3 hv4 ho4 hB3 hB4 hblk hP c0 c1'
          go_wp2_with fail
          refine wp_region_below (by kernel_rfl) (by kernel_rfl) ?_
          refine qb_pure rfl _ (fun w' hB' => by go_simp; rfl) ?_
          simp only [Act.put, List.setIfInBounds_toArray, List.set_cons_zero, List.set_cons_succ]
          refine qb_pure rfl _ (fun w' hB' => by go_simp; rfl) ?_
          simp only [Act.put, List.setIfInBounds_toArray, List.set_cons_zero, List.set_cons_succ]
          refine qb_pure rfl _ (fun w' hB' => by go_simp; rfl) ?_
          simp only [Act.put, List.setIfInBounds_toArray, List.set_cons_zero, List.set_cons_succ]
          refine qb_pure rfl _ (fun w' hB' => by go_simp; rfl) ?_
          simp only [Act.put, List.setIfInBounds_toArray, List.set_cons_zero, List.set_cons_succ]
          refine qb_pure rfl _ (fun w' hB' => by have cc := (hB'.cell (by exact hzb)).trans c2; go_simp; rfl) ?_
          simp only [Act.put, List.setIfInBounds_toArray, List.set_cons_zero, List.set_cons_succ]
          refine qb_call rfl 21 #[.pointer (some ⟨ba, 0, none⟩), .int .i64 z] (.int .i64 c) (fun w' => by go_simp) (fun w' hB' => ((weight21 _ _ ba z w' (hP2.below hB').hA hP2.hg (by omega)).mono fun e w'' hh => ⟨by rw [hh.1, hc.out], hh.2⟩)) ?_
          simp only [Act.put, List.setIfInBounds_toArray, List.set_cons_zero, List.set_cons_succ]
          refine qb_pure rfl _ (fun w' hB' => by go_simp; rfl) ?_
          simp only [Act.put, List.setIfInBounds_toArray, List.set_cons_zero, List.set_cons_succ]
          refine qb_pure rfl _ (fun w' hB' => by go_simp; rfl) ?_
          simp only [Act.put, List.setIfInBounds_toArray, List.set_cons_zero, List.set_cons_succ]
          refine qb_pure rfl _ (fun w' hB' => by go_simp; rfl) ?_
          simp only [Act.put, List.setIfInBounds_toArray, List.set_cons_zero, List.set_cons_succ]
          refine qb_pure rfl _ (fun w' hB' => by go_simp; rfl) ?_
          simp only [Act.put, List.setIfInBounds_toArray, List.set_cons_zero, List.set_cons_succ]
          refine qb_pure rfl _ (fun w' hB' => by have cc := (hB'.cell (by exact hzb)).trans c2; go_simp; rfl) ?_
          simp only [Act.put, List.setIfInBounds_toArray, List.set_cons_zero, List.set_cons_succ]
          refine qb_call rfl 25 #[.pointer (some ⟨br, 0, none⟩), .int .i64 z] (.int .i64 c) (fun w' => by go_simp) (fun w' hB' => ((weight25 _ br (br + 1) _ z w' (hP2.below hB').hv (hP2.below hB').ho hP2.le).mono fun e w'' hh => ⟨by rw [hh.1, hc.out], by rw [← hh.2]; exact Below.refl _ _⟩)) ?_
          simp only [Act.put, List.setIfInBounds_toArray, List.set_cons_zero, List.set_cons_succ]
          refine qb_pure rfl (.bool false) (fun w' hB' => by go_simp) ?_
          simp only [Act.put, List.setIfInBounds_toArray, List.set_cons_zero, List.set_cons_succ]
          refine qb_nil ?_
          intro w6 hB7
          have hP6 := hP2.below hB7
          go_wp2_with fail
          go_roundw
          case rel => exact ⟨k + 1, n + 1, _, _, by omega, by omega, by omega, by go_num, hP6⟩
          case measure => simp [intOf]; omega
        · have d3 : decide ((k : Int) < bs.length) = false := by simp; omega
          go_wp2_with fail
          refine (note19_all g n ba z _ hz0 hz1 hP.hA hP.hg (by omega)).mono ?_
          rintro e w3 ⟨rfl, hA3, hs3, hB3, hblk⟩
          obtain ⟨hv3, ho3⟩ := hP.note1 hbxa' hba3 hs3 hblk
          have c1' : w3.cell? ⟨b', off + k, none⟩ = some (.int .i64 z) := (hB3.cell (by show b' < ba; omega)).trans c0
          go_wp2_with fail
          refine (note24_yes (logL g n) br (br + 1) v z _ hz0 hz1 hv3 ho3 (Nat.lt_succ_self _) (by have := Blk.lt hv3; omega) hP.le).mono ?_
          rintro e w4 ⟨rfl, v4, hv4, ho4, hB4⟩
          have c2 : w4.cell? ⟨b', off + k, none⟩ = some (.int .i64 z) := (hB4.cell (by show b' < br; omega)).trans c1'
          have hP2 := hP.note2 hbxa' hba3 hwa hzz hA3 hB3 hv4 ho4 hB4
          have hzb : b' < w4.heap.size := by have := Blk.lt hv4; omega
          obtain ⟨c, hc⟩ : ∃ c : Int, Hid (((cntTo (logL (g.set (n % 64) z) (n + 1)) z (logL (g.set (n % 64) z) (n + 1)).length : Nat) : Int) = c) := ⟨_, rfl⟩
          clear hA3 hv3 ho3 hv4 ho4 hB3 hB4 hblk hP c0 c1'
          go_wp2_with fail
          refine wp_region_below (by kernel_rfl) (by kernel_rfl) ?_
          refine qb_pure rfl _ (fun w' hB' => by go_simp; rfl) ?_
          simp only [Act.put, List.setIfInBounds_toArray, List.set_cons_zero, List.set_cons_succ]
          refine qb_pure rfl _ (fun w' hB' => by go_simp; rfl) ?_
          simp only [Act.put, List.setIfInBounds_toArray, List.set_cons_zero, List.set_cons_succ]
          refine qb_pure rfl _ (fun w' hB' => by go_simp; rfl) ?_
          simp only [Act.put, List.setIfInBounds_toArray, List.set_cons_zero, List.set_cons_succ]
          refine qb_pure rfl _ (fun w' hB' => by go_simp; rfl) ?_
          simp only [Act.put, List.setIfInBounds_toArray, List.set_cons_zero, List.set_cons_succ]
          refine qb_pure rfl _ (fun w' hB' => by have cc := (hB'.cell (by exact hzb)).trans c2; go_simp; rfl) ?_
          simp only [Act.put, List.setIfInBounds_toArray, List.set_cons_zero, List.set_cons_succ]
          refine qb_call rfl 21 #[.pointer (some ⟨ba, 0, none⟩), .int .i64 z] (.int .i64 c) (fun w' => by go_simp) (fun w' hB' => ((weight21 _ _ ba z w' (hP2.below hB').hA hP2.hg (by omega)).mono fun e w'' hh => ⟨by rw [hh.1, hc.out], hh.2⟩)) ?_
          simp only [Act.put, List.setIfInBounds_toArray, List.set_cons_zero, List.set_cons_succ]
          refine qb_pure rfl _ (fun w' hB' => by go_simp; rfl) ?_
          simp only [Act.put, List.setIfInBounds_toArray, List.set_cons_zero, List.set_cons_succ]
          refine qb_pure rfl _ (fun w' hB' => by go_simp; rfl) ?_
          simp only [Act.put, List.setIfInBounds_toArray, List.set_cons_zero, List.set_cons_succ]
          refine qb_pure rfl _ (fun w' hB' => by go_simp; rfl) ?_
          simp only [Act.put, List.setIfInBounds_toArray, List.set_cons_zero, List.set_cons_succ]
          refine qb_pure rfl _ (fun w' hB' => by go_simp; rfl) ?_
          simp only [Act.put, List.setIfInBounds_toArray, List.set_cons_zero, List.set_cons_succ]
          refine qb_pure rfl _ (fun w' hB' => by have cc := (hB'.cell (by exact hzb)).trans c2; go_simp; rfl) ?_
          simp only [Act.put, List.setIfInBounds_toArray, List.set_cons_zero, List.set_cons_succ]
          refine qb_call rfl 25 #[.pointer (some ⟨br, 0, none⟩), .int .i64 z] (.int .i64 c) (fun w' => by go_simp) (fun w' hB' => ((weight25 _ br (br + 1) _ z w' (hP2.below hB').hv (hP2.below hB').ho hP2.le).mono fun e w'' hh => ⟨by rw [hh.1, hc.out], by rw [← hh.2]; exact Below.refl _ _⟩)) ?_
          simp only [Act.put, List.setIfInBounds_toArray, List.set_cons_zero, List.set_cons_succ]
          refine qb_pure rfl (.bool false) (fun w' hB' => by go_simp) ?_
          simp only [Act.put, List.setIfInBounds_toArray, List.set_cons_zero, List.set_cons_succ]
          refine qb_nil ?_
          intro w6 hB7
          have hP6 := hP2.below hB7
          go_wp2_with fail
          go_roundw
          case rel => exact ⟨k + 1, n + 1, _, _, by omega, by omega, by omega, by go_num, hP6⟩
          case measure => simp [intOf]; omega
      · have hn' : noteB z y = false := by simpa using hn
        by_cases hm : k < bs.length
        · have d3 : decide ((k : Int) < bs.length) = true := by simp; omega
          obtain ⟨b2, off2, rfl, hb2, hcl⟩ := HC1.out (by omega)
          have c1 : wr.cell? ⟨b2, off2 + k, none⟩ = some (.bool y) := by
            rw [hP.hB.cell (by exact hb2), hcl k (by omega), ← hy.out]
            simp [bAt, List.getD_eq_getElem?_getD, hm]
          clear hcl
          go_wp2_with fail
          refine (note19_no g n ba z _ _ hn').mono ?_
          rintro e w3 ⟨rfl, rfl⟩
          go_wp2_with fail
          refine (note24_no _ z _ _ hn').mono ?_
          rintro e w3 ⟨rfl, rfl⟩
          have c2 := c0
          have hP2 := hP
          obtain ⟨c, hc⟩ : ∃ c : Int, Hid (((cntTo (logL g n) z (logL g n).length : Nat) : Int) = c) := ⟨_, rfl⟩
          go_wp2_with fail
          refine wp_region_below (by kernel_rfl) (by kernel_rfl) ?_
          refine qb_pure rfl _ (fun w' hB' => by go_simp; rfl) ?_
          simp only [Act.put, List.setIfInBounds_toArray, List.set_cons_zero, List.set_cons_succ]
          refine qb_pure rfl _ (fun w' hB' => by go_simp; rfl) ?_
          simp only [Act.put, List.setIfInBounds_toArray, List.set_cons_zero, List.set_cons_succ]
          refine qb_pure rfl _ (fun w' hB' => by go_simp; rfl) ?_
          simp only [Act.put, List.setIfInBounds_toArray, List.set_cons_zero, List.set_cons_succ]
          refine qb_pure rfl _ (fun w' hB' => by go_simp; rfl) ?_
          simp only [Act.put, List.setIfInBounds_toArray, List.set_cons_zero, List.set_cons_succ]
          refine qb_pure rfl _ (fun w' hB' => by have cc := (hB'.cell (by exact hzb)).trans c2; go_simp; rfl) ?_
          simp only [Act.put, List.setIfInBounds_toArray, List.set_cons_zero, List.set_cons_succ]
          refine qb_call rfl 21 #[.pointer (some ⟨ba, 0, none⟩), .int .i64 z] (.int .i64 c) (fun w' => by go_simp) (fun w' hB' => ((weight21 _ _ ba z w' (hP2.below hB').hA hP2.hg (by omega)).mono fun e w'' hh => ⟨by rw [hh.1, hc.out], hh.2⟩)) ?_
          simp only [Act.put, List.setIfInBounds_toArray, List.set_cons_zero, List.set_cons_succ]
          refine qb_pure rfl _ (fun w' hB' => by go_simp; rfl) ?_
          simp only [Act.put, List.setIfInBounds_toArray, List.set_cons_zero, List.set_cons_succ]
          refine qb_pure rfl _ (fun w' hB' => by go_simp; rfl) ?_
          simp only [Act.put, List.setIfInBounds_toArray, List.set_cons_zero, List.set_cons_succ]
          refine qb_pure rfl _ (fun w' hB' => by go_simp; rfl) ?_
          simp only [Act.put, List.setIfInBounds_toArray, List.set_cons_zero, List.set_cons_succ]
          refine qb_pure rfl _ (fun w' hB' => by go_simp; rfl) ?_
          simp only [Act.put, List.setIfInBounds_toArray, List.set_cons_zero, List.set_cons_succ]
          refine qb_pure rfl _ (fun w' hB' => by have cc := (hB'.cell (by exact hzb)).trans c2; go_simp; rfl) ?_
          simp only [Act.put, List.setIfInBounds_toArray, List.set_cons_zero, List.set_cons_succ]
          refine qb_call rfl 25 #[.pointer (some ⟨br, 0, none⟩), .int .i64 z] (.int .i64 c) (fun w' => by go_simp) (fun w' hB' => ((weight25 _ br (br + 1) _ z w' (hP2.below hB').hv (hP2.below hB').ho hP2.le).mono fun e w'' hh => ⟨by rw [hh.1, hc.out], by rw [← hh.2]; exact Below.refl _ _⟩)) ?_
          simp only [Act.put, List.setIfInBounds_toArray, List.set_cons_zero, List.set_cons_succ]
          refine qb_pure rfl (.bool false) (fun w' hB' => by go_simp) ?_
          simp only [Act.put, List.setIfInBounds_toArray, List.set_cons_zero, List.set_cons_succ]
          refine qb_nil ?_
          intro w6 hB7
          have hP6 := hP2.below hB7
          go_wp2_with fail
          go_roundw
          case rel => exact ⟨k + 1, n, _, _, by omega, by omega, by omega, by go_num, hP6⟩
          case measure => simp [intOf]; omega
        · have d3 : decide ((k : Int) < bs.length) = false := by simp; omega
          obtain rfl : y = false := by rw [← hy.out]; simp [bAt, List.getD_eq_getElem?_getD, hm]
          go_wp2_with fail
          refine (note19_no g n ba z _ _ hn').mono ?_
          rintro e w3 ⟨rfl, rfl⟩
          go_wp2_with fail
          refine (note24_no _ z _ _ hn').mono ?_
          rintro e w3 ⟨rfl, rfl⟩
          have c2 := c0
          have hP2 := hP
          obtain ⟨c, hc⟩ : ∃ c : Int, Hid (((cntTo (logL g n) z (logL g n).length : Nat) : Int) = c) := ⟨_, rfl⟩
          go_wp2_with fail
          refine wp_region_below (by kernel_rfl) (by kernel_rfl) ?_
          refine qb_pure rfl _ (fun w' hB' => by go_simp; rfl) ?_
          simp only [Act.put, List.setIfInBounds_toArray, List.set_cons_zero, List.set_cons_succ]
          refine qb_pure rfl _ (fun w' hB' => by go_simp; rfl) ?_
          simp only [Act.put, List.setIfInBounds_toArray, List.set_cons_zero, List.set_cons_succ]
          refine qb_pure rfl _ (fun w' hB' => by go_simp; rfl) ?_
          simp only [Act.put, List.setIfInBounds_toArray, List.set_cons_zero, List.set_cons_succ]
          refine qb_pure rfl _ (fun w' hB' => by go_simp; rfl) ?_
          simp only [Act.put, List.setIfInBounds_toArray, List.set_cons_zero, List.set_cons_succ]
          refine qb_pure rfl _ (fun w' hB' => by have cc := (hB'.cell (by exact hzb)).trans c2; go_simp; rfl) ?_
          simp only [Act.put, List.setIfInBounds_toArray, List.set_cons_zero, List.set_cons_succ]
          refine qb_call rfl 21 #[.pointer (some ⟨ba, 0, none⟩), .int .i64 z] (.int .i64 c) (fun w' => by go_simp) (fun w' hB' => ((weight21 _ _ ba z w' (hP2.below hB').hA hP2.hg (by omega)).mono fun e w'' hh => ⟨by rw [hh.1, hc.out], hh.2⟩)) ?_
          simp only [Act.put, List.setIfInBounds_toArray, List.set_cons_zero, List.set_cons_succ]
          refine qb_pure rfl _ (fun w' hB' => by go_simp; rfl) ?_
          simp only [Act.put, List.setIfInBounds_toArray, List.set_cons_zero, List.set_cons_succ]
          refine qb_pure rfl _ (fun w' hB' => by go_simp; rfl) ?_
          simp only [Act.put, List.setIfInBounds_toArray, List.set_cons_zero, List.set_cons_succ]
          refine qb_pure rfl _ (fun w' hB' => by go_simp; rfl) ?_
          simp only [Act.put, List.setIfInBounds_toArray, List.set_cons_zero, List.set_cons_succ]
          refine qb_pure rfl _ (fun w' hB' => by go_simp; rfl) ?_
          simp only [Act.put, List.setIfInBounds_toArray, List.set_cons_zero, List.set_cons_succ]
          refine qb_pure rfl _ (fun w' hB' => by have cc := (hB'.cell (by exact hzb)).trans c2; go_simp; rfl) ?_
          simp only [Act.put, List.setIfInBounds_toArray, List.set_cons_zero, List.set_cons_succ]
          refine qb_call rfl 25 #[.pointer (some ⟨br, 0, none⟩), .int .i64 z] (.int .i64 c) (fun w' => by go_simp) (fun w' hB' => ((weight25 _ br (br + 1) _ z w' (hP2.below hB').hv (hP2.below hB').ho hP2.le).mono fun e w'' hh => ⟨by rw [hh.1, hc.out], by rw [← hh.2]; exact Below.refl _ _⟩)) ?_
          simp only [Act.put, List.setIfInBounds_toArray, List.set_cons_zero, List.set_cons_succ]
          refine qb_pure rfl (.bool false) (fun w' hB' => by go_simp) ?_
          simp only [Act.put, List.setIfInBounds_toArray, List.set_cons_zero, List.set_cons_succ]
          refine qb_nil ?_
          intro w6 hB7
          have hP6 := hP2.below hB7
          go_wp2_with fail
          go_roundw
          case rel => exact ⟨k + 1, n, _, _, by omega, by omega, by omega, by go_num, hP6⟩
          case measure => simp [intOf]; omega
    · have hPP := Lib.hid hP
      have cvv : wr.cell? ⟨br, 0, none⟩ = some v := Blk.cell hP.hv 0
      by_cases d1x : k < l.length
      · have d1 : decide ((k : Int) < l.length) = true := by simp; omega
        have d2 : decide ((k : Int) < 300) = false := by simp; omega
        go_wp2_with fail
        refine hp_start (fun w' => Below wr.heap.size wr w') 8 rfl (by kernel_rfl) (fun c a a' w hd h => ⟨hd ▸ h.1, h.2⟩) (fun hP => ?_)
        rw [show Array.replicate 8 false = #[false, false, false, false, false, false, false, false] from rfl]
        have HS0 : Below wr.heap.size wr wr.drew := (Below.refl _ wr).drew
        have hP3 := hPP.out
        have hlr := Blk.lt hP3.hv
        have cv := cvv
        refine hp_take hP 0 (some 68) _ rfl rfl (by kernel_rfl) rfl (fun w' hS' => by go_simp; rfl) HS0 ?_
        simp only [Act.put, List.setIfInBounds_toArray, List.set_cons_zero, List.set_cons_succ]
        refine hp_take hP 2 (some 70) _ rfl rfl (by kernel_rfl) rfl (fun w' hS' => by go_simp; rfl) HS0 ?_
        simp only [Act.put, List.setIfInBounds_toArray, List.set_cons_zero, List.set_cons_succ]
        refine hp_take hP 3 (some 71) _ rfl rfl (by kernel_rfl) rfl (fun w' hS' => by go_simp; rfl) HS0 ?_
        simp only [Act.put, List.setIfInBounds_toArray, List.set_cons_zero, List.set_cons_succ]
        refine hp_take hP 4 (some 72) _ rfl rfl (by kernel_rfl) rfl (fun w' hS' => by go_simp; rfl) HS0 ?_
        simp only [Act.put, List.setIfInBounds_toArray, List.set_cons_zero, List.set_cons_succ]
        refine hp_take hP 5 (some 73) _ rfl rfl (by kernel_rfl) rfl (fun w' hS' => by have cc := (hS'.cell (by exact hlr)).trans cv; go_simp; rfl) HS0 ?_
        simp only [Act.put, List.setIfInBounds_toArray, List.set_cons_zero, List.set_cons_succ]
        refine hp_call 1 (some 69) rfl rfl (by kernel_rfl) rfl 20 #[.pointer (some ⟨ba, 0, none⟩)] (by go_simp) ((log20 g n ba _ (hP3.below HS0).hA hP3.hg (by omega)).mono ?_)
        rintro e w4 ⟨v4, rfl, hown4, hB4⟩
        have HS1 : Below wr.heap.size wr w4 := HS0.trans hB4
        have r4 := RowI.of_owns hown4
        have hP4 := hP3.below HS1
        refine ⟨_, rfl, HS1, ?_⟩
        simp only [Act.put, List.setIfInBounds_toArray, List.set_cons_zero, List.set_cons_succ]
        refine hp_call 6 (some 74) rfl rfl (by kernel_rfl) rfl 11 #[v4, v] (by go_simp) ((same11 w4.heap.size _ _ _ _ r4 (ownsAt_row hP4.ho)).mono ?_)
        rintro e w5 ⟨rfl, q5, rfl⟩
        have HS2 := Below.drewN HS1 q5
        refine ⟨_, rfl, HS2, ?_⟩
        simp only [Act.put, List.setIfInBounds_toArray, List.set_cons_zero, List.set_cons_succ]
        refine hp_take hP 7 (some 12) _ rfl rfl (by kernel_rfl) rfl (fun w' hS' => by go_simp; rfl) HS2 ?_
        simp only [Act.put, List.setIfInBounds_toArray, List.set_cons_zero, List.set_cons_succ]
        refine hk_done (by kernel_rfl) ?_
        have hP5 := hP3.below HS2
        clear hP4 HS1 HS0 hown4 hB4 r4 hP3 hPP cv cvv
        generalize w4.drewN q5 = w5 at *
        obtain ⟨f, hf, c256⟩ : ∃ f, Hid (x.getD 256 0 = f) ∧ w5.cell? ⟨bx, 256, none⟩ = some (.int .i64 f) := ⟨_, rfl, Arr.cell hP5.hx (by omega)⟩
        obtain ⟨u, hu, c257⟩ : ∃ f, Hid (x.getD 257 0 = f) ∧ w5.cell? ⟨bx, 257, none⟩ = some (.int .i64 f) := ⟨_, rfl, Arr.cell hP5.hx (by omega)⟩
        rw [hu.out] at hb0 hb1
        go_wp2_with (first | (refine wpList_load_at rfl 22 (.tmp 76) rfl bx 64 rfl (ints (part x 64)) _ (Arr.part hP5.hx 64 (by omega)) Try.underlying22 rfl (infP x 64 (by omega)) ?_) | (refine wpList_load_at rfl 22 (.tmp 78) rfl bx 128 rfl (ints (part x 128)) _ (Arr.part hP5.hx 128 (by omega)) Try.underlying22 rfl (infP x 128 (by omega)) ?_))
        refine (advice22 (.pointer (some ⟨ba, 0, none⟩)) (logL g n) (part x 64) (part x 128) f u w5 p1.out p2.out hb0 hb1 hP5.le hP5.get (fun w' hb' _ => log20 g n ba w' (hP5.below hb').hA hP5.hg (by omega))).mono ?_
        rintro e w6 ⟨v6, rfl, hown6, hB6⟩
        have hP6 := hP5.below hB6
        have r6 := RowI.of_owns hown6
        have hbl5 := Blk.lt hP5.hx
        have d256 := (hB6.cell (by exact hbl5)).trans c256
        have d257 := (hB6.cell (by exact hbl5)).trans c257
        have hbl := Blk.lt hP6.hx
        clear c256 c257 hown6 hB6 hP5 hbl5
        have c256 := d256
        have c257 := d257
        clear d256 d257
        go_wp2_with fail
        refine hp_start (fun w' => Below w6.heap.size w6 w') 14 rfl (by kernel_rfl) (fun c a a' w hd h => ⟨hd ▸ h.1, h.2⟩) (fun hP => ?_)
        rw [show Array.replicate 14 false = #[false, false, false, false, false, false, false, false, false, false, false, false, false, false] from rfl]
        have HS0 : Below w6.heap.size w6 w6.drew := (Below.refl _ w6).drew
        refine hp_take hP 0 (some 85) _ rfl rfl (by kernel_rfl) rfl (fun w' hS' => by go_simp; rfl) HS0 ?_
        simp only [Act.put, List.setIfInBounds_toArray, List.set_cons_zero, List.set_cons_succ]
        refine hp_take hP 1 (some 86) _ rfl rfl (by kernel_rfl) rfl (fun w' hS' => by go_simp; rfl) HS0 ?_
        simp only [Act.put, List.setIfInBounds_toArray, List.set_cons_zero, List.set_cons_succ]
        refine hp_take hP 3 (some 88) _ rfl rfl (by kernel_rfl) rfl (fun w' hS' => by go_simp; rfl) HS0 ?_
        simp only [Act.put, List.setIfInBounds_toArray, List.set_cons_zero, List.set_cons_succ]
        refine hp_load_at hP 4 (some 89) rfl rfl (by kernel_rfl) rfl 22 _ rfl bx 64 rfl (ints (part x 64)) _ (fun w' hS' j hj => (hS'.cell (by exact hbl)).trans ((Arr.part hP6.hx 64 (by omega)) j hj)) Try.underlying22 rfl (infP x 64 (by omega)) HS0 ?_
        simp only [Act.put, List.setIfInBounds_toArray, List.set_cons_zero, List.set_cons_succ]
        refine hp_take hP 5 (some 90) _ rfl rfl (by kernel_rfl) rfl (fun w' hS' => by go_simp; rfl) HS0 ?_
        simp only [Act.put, List.setIfInBounds_toArray, List.set_cons_zero, List.set_cons_succ]
        refine hp_load_at hP 6 (some 91) rfl rfl (by kernel_rfl) rfl 22 _ rfl bx 128 rfl (ints (part x 128)) _ (fun w' hS' j hj => (hS'.cell (by exact hbl)).trans ((Arr.part hP6.hx 128 (by omega)) j hj)) Try.underlying22 rfl (infP x 128 (by omega)) HS0 ?_
        simp only [Act.put, List.setIfInBounds_toArray, List.set_cons_zero, List.set_cons_succ]
        refine hp_take hP 7 (some 92) _ rfl rfl (by kernel_rfl) rfl (fun w' hS' => by go_simp; rfl) HS0 ?_
        simp only [Act.put, List.setIfInBounds_toArray, List.set_cons_zero, List.set_cons_succ]
        refine hp_take hP 8 (some 93) _ rfl rfl (by kernel_rfl) rfl (fun w' hS' => by have cc := (hS'.cell (by exact hbl)).trans c256; go_simp; rfl) HS0 ?_
        simp only [Act.put, List.setIfInBounds_toArray, List.set_cons_zero, List.set_cons_succ]
        refine hp_take hP 9 (some 94) _ rfl rfl (by kernel_rfl) rfl (fun w' hS' => by go_simp; rfl) HS0 ?_
        simp only [Act.put, List.setIfInBounds_toArray, List.set_cons_zero, List.set_cons_succ]
        refine hp_take hP 10 (some 95) _ rfl rfl (by kernel_rfl) rfl (fun w' hS' => by have cc := (hS'.cell (by exact hbl)).trans c257; go_simp; rfl) HS0 ?_
        simp only [Act.put, List.setIfInBounds_toArray, List.set_cons_zero, List.set_cons_succ]
        refine hp_call 2 (some 87) rfl rfl (by kernel_rfl) rfl 26 #[.pointer (some ⟨br, 0, none⟩)] (by go_simp) ((weights26 (logL g n) br (br + 1) v _ (hP6.below HS0).hv (hP6.below HS0).ho hP6.le).mono ?_)
        rintro e w7 ⟨rfl, hB7⟩
        have HS1 : Below w6.heap.size w6 w7 := HS0.trans (hB7.mono (Nat.le_refl _))
        refine ⟨_, rfl, HS1, ?_⟩
        simp only [Act.put, List.setIfInBounds_toArray, List.set_cons_zero, List.set_cons_succ]
        refine hp_call 11 (some 96) rfl rfl (by kernel_rfl) rfl 12 #[.agg (ints (wOf (logL g n) 64)), .agg (ints (part x 64)), .agg (ints (part x 128)), .int .i64 f, .int .i64 u] (by go_simp) ((choose12 _ _ _ _ _ _ (wOf_len _ _) p1.out p2.out hb0 hb1).mono ?_)
        rintro e w8 ⟨v8, rfl, hown8, hB8⟩
        rw [wOf_eq _ hP6.get] at hown8
        have HS2 : Below w6.heap.size w6 w8 := HS1.trans (hB8.mono HS1.size)
        have r8 := RowI.of_owns hown8
        have r6' := RowI.mono r6 HS2 (Nat.le_trans (Nat.le_refl _) HS2.size)
        refine ⟨_, rfl, HS2, ?_⟩
        simp only [Act.put, List.setIfInBounds_toArray, List.set_cons_zero, List.set_cons_succ]
        refine hp_call 12 (some 97) rfl rfl (by kernel_rfl) rfl 11 #[v6, v8] (by go_simp) ((same11 w8.heap.size _ _ _ _ r6' r8).mono ?_)
        rintro e w9 ⟨rfl, q9, rfl⟩
        have HS3 := Below.drewN HS2 q9
        refine ⟨_, rfl, HS3, ?_⟩
        simp only [Act.put, List.setIfInBounds_toArray, List.set_cons_zero, List.set_cons_succ]
        refine hp_take hP 13 (some 14) _ rfl rfl (by kernel_rfl) rfl (fun w' hS' => by go_simp; rfl) HS3 ?_
        simp only [Act.put, List.setIfInBounds_toArray, List.set_cons_zero, List.set_cons_succ]
        refine hk_done (by kernel_rfl) ?_
        have hP9 := hP6.below HS3
        go_wp2_with fail
        go_ret
        exact ⟨rfl, hP9.hB⟩
      · have d1 : decide ((k : Int) < l.length) = false := by simp; omega
        go_wp2_with fail
        refine hp_start (fun w' => Below wr.heap.size wr w') 8 rfl (by kernel_rfl) (fun c a a' w hd h => ⟨hd ▸ h.1, h.2⟩) (fun hP => ?_)
        rw [show Array.replicate 8 false = #[false, false, false, false, false, false, false, false] from rfl]
        have HS0 : Below wr.heap.size wr wr.drew := (Below.refl _ wr).drew
        have hP3 := hPP.out
        have hlr := Blk.lt hP3.hv
        have cv := cvv
        refine hp_take hP 0 (some 68) _ rfl rfl (by kernel_rfl) rfl (fun w' hS' => by go_simp; rfl) HS0 ?_
        simp only [Act.put, List.setIfInBounds_toArray, List.set_cons_zero, List.set_cons_succ]
        refine hp_take hP 2 (some 70) _ rfl rfl (by kernel_rfl) rfl (fun w' hS' => by go_simp; rfl) HS0 ?_
        simp only [Act.put, List.setIfInBounds_toArray, List.set_cons_zero, List.set_cons_succ]
        refine hp_take hP 3 (some 71) _ rfl rfl (by kernel_rfl) rfl (fun w' hS' => by go_simp; rfl) HS0 ?_
        simp only [Act.put, List.setIfInBounds_toArray, List.set_cons_zero, List.set_cons_succ]
        refine hp_take hP 4 (some 72) _ rfl rfl (by kernel_rfl) rfl (fun w' hS' => by go_simp; rfl) HS0 ?_
        simp only [Act.put, List.setIfInBounds_toArray, List.set_cons_zero, List.set_cons_succ]
        refine hp_take hP 5 (some 73) _ rfl rfl (by kernel_rfl) rfl (fun w' hS' => by have cc := (hS'.cell (by exact hlr)).trans cv; go_simp; rfl) HS0 ?_
        simp only [Act.put, List.setIfInBounds_toArray, List.set_cons_zero, List.set_cons_succ]
        refine hp_call 1 (some 69) rfl rfl (by kernel_rfl) rfl 20 #[.pointer (some ⟨ba, 0, none⟩)] (by go_simp) ((log20 g n ba _ (hP3.below HS0).hA hP3.hg (by omega)).mono ?_)
        rintro e w4 ⟨v4, rfl, hown4, hB4⟩
        have HS1 : Below wr.heap.size wr w4 := HS0.trans hB4
        have r4 := RowI.of_owns hown4
        have hP4 := hP3.below HS1
        refine ⟨_, rfl, HS1, ?_⟩
        simp only [Act.put, List.setIfInBounds_toArray, List.set_cons_zero, List.set_cons_succ]
        refine hp_call 6 (some 74) rfl rfl (by kernel_rfl) rfl 11 #[v4, v] (by go_simp) ((same11 w4.heap.size _ _ _ _ r4 (ownsAt_row hP4.ho)).mono ?_)
        rintro e w5 ⟨rfl, q5, rfl⟩
        have HS2 := Below.drewN HS1 q5
        refine ⟨_, rfl, HS2, ?_⟩
        simp only [Act.put, List.setIfInBounds_toArray, List.set_cons_zero, List.set_cons_succ]
        refine hp_take hP 7 (some 12) _ rfl rfl (by kernel_rfl) rfl (fun w' hS' => by go_simp; rfl) HS2 ?_
        simp only [Act.put, List.setIfInBounds_toArray, List.set_cons_zero, List.set_cons_succ]
        refine hk_done (by kernel_rfl) ?_
        have hP5 := hP3.below HS2
        clear hP4 HS1 HS0 hown4 hB4 r4 hP3 hPP cv cvv
        generalize w4.drewN q5 = w5 at *
        obtain ⟨f, hf, c256⟩ : ∃ f, Hid (x.getD 256 0 = f) ∧ w5.cell? ⟨bx, 256, none⟩ = some (.int .i64 f) := ⟨_, rfl, Arr.cell hP5.hx (by omega)⟩
        obtain ⟨u, hu, c257⟩ : ∃ f, Hid (x.getD 257 0 = f) ∧ w5.cell? ⟨bx, 257, none⟩ = some (.int .i64 f) := ⟨_, rfl, Arr.cell hP5.hx (by omega)⟩
        rw [hu.out] at hb0 hb1
        go_wp2_with (first | (refine wpList_load_at rfl 22 (.tmp 76) rfl bx 64 rfl (ints (part x 64)) _ (Arr.part hP5.hx 64 (by omega)) Try.underlying22 rfl (infP x 64 (by omega)) ?_) | (refine wpList_load_at rfl 22 (.tmp 78) rfl bx 128 rfl (ints (part x 128)) _ (Arr.part hP5.hx 128 (by omega)) Try.underlying22 rfl (infP x 128 (by omega)) ?_))
        refine (advice22 (.pointer (some ⟨ba, 0, none⟩)) (logL g n) (part x 64) (part x 128) f u w5 p1.out p2.out hb0 hb1 hP5.le hP5.get (fun w' hb' _ => log20 g n ba w' (hP5.below hb').hA hP5.hg (by omega))).mono ?_
        rintro e w6 ⟨v6, rfl, hown6, hB6⟩
        have hP6 := hP5.below hB6
        have r6 := RowI.of_owns hown6
        have hbl5 := Blk.lt hP5.hx
        have d256 := (hB6.cell (by exact hbl5)).trans c256
        have d257 := (hB6.cell (by exact hbl5)).trans c257
        have hbl := Blk.lt hP6.hx
        clear c256 c257 hown6 hB6 hP5 hbl5
        have c256 := d256
        have c257 := d257
        clear d256 d257
        go_wp2_with fail
        refine hp_start (fun w' => Below w6.heap.size w6 w') 14 rfl (by kernel_rfl) (fun c a a' w hd h => ⟨hd ▸ h.1, h.2⟩) (fun hP => ?_)
        rw [show Array.replicate 14 false = #[false, false, false, false, false, false, false, false, false, false, false, false, false, false] from rfl]
        have HS0 : Below w6.heap.size w6 w6.drew := (Below.refl _ w6).drew
        refine hp_take hP 0 (some 85) _ rfl rfl (by kernel_rfl) rfl (fun w' hS' => by go_simp; rfl) HS0 ?_
        simp only [Act.put, List.setIfInBounds_toArray, List.set_cons_zero, List.set_cons_succ]
        refine hp_take hP 1 (some 86) _ rfl rfl (by kernel_rfl) rfl (fun w' hS' => by go_simp; rfl) HS0 ?_
        simp only [Act.put, List.setIfInBounds_toArray, List.set_cons_zero, List.set_cons_succ]
        refine hp_take hP 3 (some 88) _ rfl rfl (by kernel_rfl) rfl (fun w' hS' => by go_simp; rfl) HS0 ?_
        simp only [Act.put, List.setIfInBounds_toArray, List.set_cons_zero, List.set_cons_succ]
        refine hp_load_at hP 4 (some 89) rfl rfl (by kernel_rfl) rfl 22 _ rfl bx 64 rfl (ints (part x 64)) _ (fun w' hS' j hj => (hS'.cell (by exact hbl)).trans ((Arr.part hP6.hx 64 (by omega)) j hj)) Try.underlying22 rfl (infP x 64 (by omega)) HS0 ?_
        simp only [Act.put, List.setIfInBounds_toArray, List.set_cons_zero, List.set_cons_succ]
        refine hp_take hP 5 (some 90) _ rfl rfl (by kernel_rfl) rfl (fun w' hS' => by go_simp; rfl) HS0 ?_
        simp only [Act.put, List.setIfInBounds_toArray, List.set_cons_zero, List.set_cons_succ]
        refine hp_load_at hP 6 (some 91) rfl rfl (by kernel_rfl) rfl 22 _ rfl bx 128 rfl (ints (part x 128)) _ (fun w' hS' j hj => (hS'.cell (by exact hbl)).trans ((Arr.part hP6.hx 128 (by omega)) j hj)) Try.underlying22 rfl (infP x 128 (by omega)) HS0 ?_
        simp only [Act.put, List.setIfInBounds_toArray, List.set_cons_zero, List.set_cons_succ]
        refine hp_take hP 7 (some 92) _ rfl rfl (by kernel_rfl) rfl (fun w' hS' => by go_simp; rfl) HS0 ?_
        simp only [Act.put, List.setIfInBounds_toArray, List.set_cons_zero, List.set_cons_succ]
        refine hp_take hP 8 (some 93) _ rfl rfl (by kernel_rfl) rfl (fun w' hS' => by have cc := (hS'.cell (by exact hbl)).trans c256; go_simp; rfl) HS0 ?_
        simp only [Act.put, List.setIfInBounds_toArray, List.set_cons_zero, List.set_cons_succ]
        refine hp_take hP 9 (some 94) _ rfl rfl (by kernel_rfl) rfl (fun w' hS' => by go_simp; rfl) HS0 ?_
        simp only [Act.put, List.setIfInBounds_toArray, List.set_cons_zero, List.set_cons_succ]
        refine hp_take hP 10 (some 95) _ rfl rfl (by kernel_rfl) rfl (fun w' hS' => by have cc := (hS'.cell (by exact hbl)).trans c257; go_simp; rfl) HS0 ?_
        simp only [Act.put, List.setIfInBounds_toArray, List.set_cons_zero, List.set_cons_succ]
        refine hp_call 2 (some 87) rfl rfl (by kernel_rfl) rfl 26 #[.pointer (some ⟨br, 0, none⟩)] (by go_simp) ((weights26 (logL g n) br (br + 1) v _ (hP6.below HS0).hv (hP6.below HS0).ho hP6.le).mono ?_)
        rintro e w7 ⟨rfl, hB7⟩
        have HS1 : Below w6.heap.size w6 w7 := HS0.trans (hB7.mono (Nat.le_refl _))
        refine ⟨_, rfl, HS1, ?_⟩
        simp only [Act.put, List.setIfInBounds_toArray, List.set_cons_zero, List.set_cons_succ]
        refine hp_call 11 (some 96) rfl rfl (by kernel_rfl) rfl 12 #[.agg (ints (wOf (logL g n) 64)), .agg (ints (part x 64)), .agg (ints (part x 128)), .int .i64 f, .int .i64 u] (by go_simp) ((choose12 _ _ _ _ _ _ (wOf_len _ _) p1.out p2.out hb0 hb1).mono ?_)
        rintro e w8 ⟨v8, rfl, hown8, hB8⟩
        rw [wOf_eq _ hP6.get] at hown8
        have HS2 : Below w6.heap.size w6 w8 := HS1.trans (hB8.mono HS1.size)
        have r8 := RowI.of_owns hown8
        have r6' := RowI.mono r6 HS2 (Nat.le_trans (Nat.le_refl _) HS2.size)
        refine ⟨_, rfl, HS2, ?_⟩
        simp only [Act.put, List.setIfInBounds_toArray, List.set_cons_zero, List.set_cons_succ]
        refine hp_call 12 (some 97) rfl rfl (by kernel_rfl) rfl 11 #[v6, v8] (by go_simp) ((same11 w8.heap.size _ _ _ _ r6' r8).mono ?_)
        rintro e w9 ⟨rfl, q9, rfl⟩
        have HS3 := Below.drewN HS2 q9
        refine ⟨_, rfl, HS3, ?_⟩
        simp only [Act.put, List.setIfInBounds_toArray, List.set_cons_zero, List.set_cons_succ]
        refine hp_take hP 13 (some 14) _ rfl rfl (by kernel_rfl) rfl (fun w' hS' => by go_simp; rfl) HS3 ?_
        simp only [Act.put, List.setIfInBounds_toArray, List.set_cons_zero, List.set_cons_succ]
        refine hk_done (by kernel_rfl) ?_
        have hP9 := hP6.below HS3
        go_wp2_with fail
        go_ret
        exact ⟨rfl, hP9.hB⟩

theorem playsLaw (v0 v1 : Value) (x : List Int) (w : World) (n0 : Nat) (l : List Int) (r0 : Row w.heap.size w v0 n0 1 (l.map (Value.int .i64))) (_s0 : n0 * 8 ≤ 140737488351232)
    (bs : List Bool) (r1 : Row w.heap.size w v1 bs.length 1 (bs.map Value.bool)) (hx : x.length = 258) (hw : ∀ y ∈ x, (Lit.int .i64 y).wf = true) :
    Calls Try.prog 8 #[v0, v1, .agg (ints x)] w fun e w' => e = .returned (.bool true) ∧ Below w.heap.size w w' := by
  have hn : n0 = l.length := by have := r0.len; simpa using this.symm
  subst hn
  exact plays8 l bs x v0 v1 w r0 r1 hx (getD_bd hw 257 (by omega)).1 (getD_bd hw 257 (by omega)).2
end Go.Proofs.Ytfgnmcmkjfnogaa
