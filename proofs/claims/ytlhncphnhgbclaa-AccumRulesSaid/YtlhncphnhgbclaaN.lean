/- AccumSums and AccumRules: the walks. -/
import Derived.Test.YtlhncphnhgbclaaM
namespace Go.Proofs.Ytlhncphnhgbclaa
open Go.RowKit Go.WideShapes
set_option linter.unusedVariables false
set_option linter.unusedSimpArgs false

/-! the text tells the number -/
def dv (l : List UInt8) (u : Nat) : Nat := l.foldl (fun acc d => acc * 10 + (d.toNat - 48)) u
theorem dv_dec (n u : Nat) (s : List UInt8) (hn : 1 ≤ n) (hu : u < 10 ^ n) : dv (decF n u s) 0 = dv s u := by
  induction n generalizing u s with
  | zero => omega
  | succ n ih =>
    simp only [decF]
    split
    · rename_i h
      show dv s (0 * 10 + ((dgt u).toNat - 48)) = dv s u
      rw [dgt_nat]; congr 1; omega
    · rename_i h
      have h1 : u / 10 < 10 ^ n := by rw [Nat.pow_succ] at hu; omega
      have hn1 : 1 ≤ n := by
        rcases Nat.eq_zero_or_pos n with h0 | h0
        · subst h0; simp at h1; omega
        · exact h0
      rw [ih (u / 10) (dgt u :: s) hn1 h1]
      show dv s (u / 10 * 10 + ((dgt u).toNat - 48)) = dv s u
      rw [dgt_nat]; congr 1; omega
theorem dec_head (n u : Nat) (s : List UInt8) (hn : 1 ≤ n) (hu : u < 10 ^ n) : ∃ d t, decF n u s = d :: t ∧ 48 ≤ d.toNat := by
  induction n generalizing u s with
  | zero => omega
  | succ n ih =>
    simp only [decF]
    split
    · exact ⟨_, _, rfl, by rw [dgt_nat]; omega⟩
    · rename_i h
      have h1 : u / 10 < 10 ^ n := by rw [Nat.pow_succ] at hu; omega
      have hn1 : 1 ≤ n := by
        rcases Nat.eq_zero_or_pos n with h0 | h0
        · subst h0; simp at h1; omega
        · exact h0
      exact ih _ _ hn1 h1
theorem txt_inj (a b : Int) (ha : In128 a) (hb : In128 b) (h : txt a = txt b) : a = b := by
  have la := abs_lt a ha
  have lb := abs_lt b hb
  have va := dv_dec 39 a.natAbs [] (by omega) la
  have vb := dv_dec 39 b.natAbs [] (by omega) lb
  have key : decF 39 a.natAbs [] = decF 39 b.natAbs [] → a.natAbs = b.natAbs := by
    intro h2
    rw [h2, vb] at va
    exact va.symm
  obtain ⟨d1, t1, e1, g1⟩ := dec_head 39 a.natAbs [] (by omega) la
  obtain ⟨d2, t2, e2, g2⟩ := dec_head 39 b.natAbs [] (by omega) lb
  unfold txt at h
  split at h <;> split at h
  · injection h with _ h; have := key h; omega
  · rw [e2] at h; injection h with h _; subst h; simp at g2
  · rw [e1] at h; injection h with h _; subst h; simp at g1
  · have := key h; omega

set_option maxRecDepth 100000 in
set_option maxHeartbeats 8000000 in
theorem sums3 (a b n : Int) (w : World) (ha : In128 a) (hb : In128 b) (hn : (Lit.int .i64 n).wf = true) :
    Calls Try.prog 3 #[sumV a, sumV b, .int .i64 n] w fun e w' => e = .returned (.bool true) ∧ Below w.heap.size w w' := by
  have hn64 := wf_bd hn
  have c11 := fun w => value11 a w ha
  have c12 := fun w => value12 a w ha
  have c13 := fun w => plus13 a b w
  have c14 := fun w => plus14 a b w
  have c15 := fun w => add15 a n w hn64
  have c16 := fun w => add16 a n w hn64
  have c17 := fun w => minus17 a w
  have c18 := fun w => minus18 a w
  have c19 := fun w => text19 a w ha
  have c20 := fun w => text20 a w ha
  obtain ⟨S1, h1⟩ : ∃ S, w128 (a + b) = S := ⟨_, rfl⟩
  obtain ⟨S2, h2⟩ : ∃ S, w128 (a + n) = S := ⟨_, rfl⟩
  obtain ⟨S3, h3⟩ : ∃ S, w128 (-a) = S := ⟨_, rfl⟩
  obtain ⟨T, h4⟩ : ∃ T : ByteArray, ⟨(txt a).toArray⟩ = T := ⟨_, rfl⟩
  obtain ⟨fn, h5⟩ : ∃ x, fitN a = x := ⟨_, rfl⟩
  obtain ⟨fb, h6⟩ : ∃ x, fitB a = x := ⟨_, rfl⟩
  rw [h1] at c13 c14
  rw [h2] at c15 c16
  rw [h3] at c17 c18
  rw [h4] at c19 c20
  rw [h5, h6] at c11 c12
  clear h1 h2 h3 h4 h5 h6 hn
  unfold sumV at c11 c12 c13 c14 c15 c16 c17 c18 c19 c20
  unfold sumV
  have hA0 : Blk ((w.alloc (Obj.cells #[.int .i64 (hiW a), .int .u64 (loW a)] 24)).alloc (Obj.cells #[.int .i64 (hiW b), .int .u64 (loW b)] 24)) w.heap.size 24 #[.int .i64 (hiW a), .int .u64 (loW a)] := (Blk.newAt _ _ _ rfl).alloc _
  have hB0 : Blk ((w.alloc (Obj.cells #[.int .i64 (hiW a), .int .u64 (loW a)] 24)).alloc (Obj.cells #[.int .i64 (hiW b), .int .u64 (loW b)] 24)) (w.heap.size + 1) 24 #[.int .i64 (hiW b), .int .u64 (loW b)] := Blk.newAt _ _ _ (by simp)
  have hX0 : Below w.heap.size w ((w.alloc (Obj.cells #[.int .i64 (hiW a), .int .u64 (loW a)] 24)).alloc (Obj.cells #[.int .i64 (hiW b), .int .u64 (loW b)] 24)) := Below.al (Below.al (Below.refl _ _) _) _
  go_enter Try.func3, Try.ntmps3
  go_wp2_with fail
  refine (awake10 _).mono ?_
  rintro e w1 ⟨rfl, hX1⟩
  have hA1 := Blk.below hA0 hX1 (Blk.lt hA0)
  have hB1 := Blk.below hB0 hX1 (Blk.lt hB0)
  have hX2 := Below.call hX0 hX1
  clear hA0 hB0 hX0 hX1
  have y0 : w1.cell? ⟨w.heap.size, 0, none⟩ = some (.int .i64 (hiW a)) := Blk.cell hA1 0
  have y1 : w1.cell? ⟨w.heap.size, 1, none⟩ = some (.int .u64 (loW a)) := Blk.cell hA1 1
  go_wp2_with fail
  refine (c11 _).mono ?_
  rintro e w2 ⟨rfl, hX3⟩
  have hA2 := Blk.below hA1 hX3 (Blk.lt hA1)
  have hB2 := Blk.below hB1 hX3 (Blk.lt hB1)
  have hX4 := Below.call hX2 hX3
  clear hA1 hB1 hX2 hX3 y0 y1
  have y0 : w2.cell? ⟨w.heap.size, 0, none⟩ = some (.int .i64 (hiW a)) := Blk.cell hA2 0
  have y1 : w2.cell? ⟨w.heap.size, 1, none⟩ = some (.int .u64 (loW a)) := Blk.cell hA2 1
  go_wp2_with fail
  refine (c12 _).mono ?_
  rintro e w3 ⟨rfl, hX5⟩
  have hA3 := Blk.below hA2 hX5 (Blk.lt hA2)
  have hB3 := Blk.below hB2 hX5 (Blk.lt hB2)
  have hX6 := Below.call hX4 hX5
  have hlA := Blk.lt hA3
  have hlB := Blk.lt hB3
  clear hA2 hB2 hX4 hX5 y0 y1
  go_wp2_with fail
  refine wp_region_below (by kernel_rfl) (by kernel_rfl) ?_
  refine qb_pure rfl _ (fun w' hB' => by go_simp; rfl) ?_
  simp only [Act.put, List.setIfInBounds_toArray, List.set_cons_zero, List.set_cons_succ]
  refine qb_pure rfl _ (fun w' hB' => by go_simp; rfl) ?_
  simp only [Act.put, List.setIfInBounds_toArray, List.set_cons_zero, List.set_cons_succ]
  refine qb_load_at rfl 24 (.tmp 3) rfl w.heap.size 0 rfl #[.int .i64 (hiW a), .int .u64 (loW a)] _ hlA (fun j _ => by rw [Nat.zero_add]; exact Blk.cell hA3 j) Try.underlying24 rfl info24 ?_
  simp only [Act.put, List.setIfInBounds_toArray, List.set_cons_zero, List.set_cons_succ]
  refine qb_load_at rfl 24 (.tmp 4) rfl (w.heap.size + 1) 0 rfl #[.int .i64 (hiW b), .int .u64 (loW b)] _ hlB (fun j _ => by rw [Nat.zero_add]; exact Blk.cell hB3 j) Try.underlying24 rfl info24 ?_
  simp only [Act.put, List.setIfInBounds_toArray, List.set_cons_zero, List.set_cons_succ]
  refine qb_call rfl 13 #[.agg #[.int .i64 (hiW a), .int .u64 (loW a)], .agg #[.int .i64 (hiW b), .int .u64 (loW b)]] (.agg #[.int .i64 (hiW S1), .int .u64 (loW S1)]) (fun w' => by go_simp) (fun w' hB' => c13 w') ?_
  simp only [Act.put, List.setIfInBounds_toArray, List.set_cons_zero, List.set_cons_succ]
  refine qb_load_at rfl 24 (.tmp 3) rfl w.heap.size 0 rfl #[.int .i64 (hiW a), .int .u64 (loW a)] _ hlA (fun j _ => by rw [Nat.zero_add]; exact Blk.cell hA3 j) Try.underlying24 rfl info24 ?_
  simp only [Act.put, List.setIfInBounds_toArray, List.set_cons_zero, List.set_cons_succ]
  refine qb_load_at rfl 24 (.tmp 4) rfl (w.heap.size + 1) 0 rfl #[.int .i64 (hiW b), .int .u64 (loW b)] _ hlB (fun j _ => by rw [Nat.zero_add]; exact Blk.cell hB3 j) Try.underlying24 rfl info24 ?_
  simp only [Act.put, List.setIfInBounds_toArray, List.set_cons_zero, List.set_cons_succ]
  refine qb_call rfl 14 #[.agg #[.int .i64 (hiW a), .int .u64 (loW a)], .agg #[.int .i64 (hiW b), .int .u64 (loW b)]] (.agg #[.int .i64 (hiW S1), .int .u64 (loW S1)]) (fun w' => by go_simp) (fun w' hB' => c14 w') ?_
  simp only [Act.put, List.setIfInBounds_toArray, List.set_cons_zero, List.set_cons_succ]
  refine qb_pure rfl (.bool true) (fun w' hB' => by go_simp) ?_
  simp only [Act.put, List.setIfInBounds_toArray, List.set_cons_zero, List.set_cons_succ]
  refine qb_pure rfl _ (fun w' hB' => by go_simp; rfl) ?_
  simp only [Act.put, List.setIfInBounds_toArray, List.set_cons_zero, List.set_cons_succ]
  refine qb_pure rfl _ (fun w' hB' => by go_simp; rfl) ?_
  simp only [Act.put, List.setIfInBounds_toArray, List.set_cons_zero, List.set_cons_succ]
  refine qb_load_at rfl 24 (.tmp 3) rfl w.heap.size 0 rfl #[.int .i64 (hiW a), .int .u64 (loW a)] _ hlA (fun j _ => by rw [Nat.zero_add]; exact Blk.cell hA3 j) Try.underlying24 rfl info24 ?_
  simp only [Act.put, List.setIfInBounds_toArray, List.set_cons_zero, List.set_cons_succ]
  refine qb_pure rfl _ (fun w' hB' => by go_simp; rfl) ?_
  simp only [Act.put, List.setIfInBounds_toArray, List.set_cons_zero, List.set_cons_succ]
  refine qb_call rfl 15 #[.agg #[.int .i64 (hiW a), .int .u64 (loW a)], .int .i64 n] (.agg #[.int .i64 (hiW S2), .int .u64 (loW S2)]) (fun w' => by go_simp) (fun w' hB' => c15 w') ?_
  simp only [Act.put, List.setIfInBounds_toArray, List.set_cons_zero, List.set_cons_succ]
  refine qb_load_at rfl 24 (.tmp 3) rfl w.heap.size 0 rfl #[.int .i64 (hiW a), .int .u64 (loW a)] _ hlA (fun j _ => by rw [Nat.zero_add]; exact Blk.cell hA3 j) Try.underlying24 rfl info24 ?_
  simp only [Act.put, List.setIfInBounds_toArray, List.set_cons_zero, List.set_cons_succ]
  refine qb_pure rfl _ (fun w' hB' => by go_simp; rfl) ?_
  simp only [Act.put, List.setIfInBounds_toArray, List.set_cons_zero, List.set_cons_succ]
  refine qb_call rfl 16 #[.agg #[.int .i64 (hiW a), .int .u64 (loW a)], .int .i64 n] (.agg #[.int .i64 (hiW S2), .int .u64 (loW S2)]) (fun w' => by go_simp) (fun w' hB' => c16 w') ?_
  simp only [Act.put, List.setIfInBounds_toArray, List.set_cons_zero, List.set_cons_succ]
  refine qb_pure rfl (.bool true) (fun w' hB' => by go_simp) ?_
  simp only [Act.put, List.setIfInBounds_toArray, List.set_cons_zero, List.set_cons_succ]
  refine qb_pure rfl _ (fun w' hB' => by go_simp; rfl) ?_
  simp only [Act.put, List.setIfInBounds_toArray, List.set_cons_zero, List.set_cons_succ]
  refine qb_pure rfl _ (fun w' hB' => by go_simp; rfl) ?_
  simp only [Act.put, List.setIfInBounds_toArray, List.set_cons_zero, List.set_cons_succ]
  refine qb_load_at rfl 24 (.tmp 3) rfl w.heap.size 0 rfl #[.int .i64 (hiW a), .int .u64 (loW a)] _ hlA (fun j _ => by rw [Nat.zero_add]; exact Blk.cell hA3 j) Try.underlying24 rfl info24 ?_
  simp only [Act.put, List.setIfInBounds_toArray, List.set_cons_zero, List.set_cons_succ]
  refine qb_call rfl 17 #[.agg #[.int .i64 (hiW a), .int .u64 (loW a)]] (.agg #[.int .i64 (hiW S3), .int .u64 (loW S3)]) (fun w' => by go_simp) (fun w' hB' => c17 w') ?_
  simp only [Act.put, List.setIfInBounds_toArray, List.set_cons_zero, List.set_cons_succ]
  refine qb_load_at rfl 24 (.tmp 3) rfl w.heap.size 0 rfl #[.int .i64 (hiW a), .int .u64 (loW a)] _ hlA (fun j _ => by rw [Nat.zero_add]; exact Blk.cell hA3 j) Try.underlying24 rfl info24 ?_
  simp only [Act.put, List.setIfInBounds_toArray, List.set_cons_zero, List.set_cons_succ]
  refine qb_call rfl 18 #[.agg #[.int .i64 (hiW a), .int .u64 (loW a)]] (.agg #[.int .i64 (hiW S3), .int .u64 (loW S3)]) (fun w' => by go_simp) (fun w' hB' => c18 w') ?_
  simp only [Act.put, List.setIfInBounds_toArray, List.set_cons_zero, List.set_cons_succ]
  refine qb_pure rfl (.bool true) (fun w' hB' => by go_simp) ?_
  simp only [Act.put, List.setIfInBounds_toArray, List.set_cons_zero, List.set_cons_succ]
  refine qb_pure rfl _ (fun w' hB' => by go_simp; rfl) ?_
  simp only [Act.put, List.setIfInBounds_toArray, List.set_cons_zero, List.set_cons_succ]
  refine qb_pure rfl _ (fun w' hB' => by go_simp; rfl) ?_
  simp only [Act.put, List.setIfInBounds_toArray, List.set_cons_zero, List.set_cons_succ]
  refine qb_load_at rfl 24 (.tmp 3) rfl w.heap.size 0 rfl #[.int .i64 (hiW a), .int .u64 (loW a)] _ hlA (fun j _ => by rw [Nat.zero_add]; exact Blk.cell hA3 j) Try.underlying24 rfl info24 ?_
  simp only [Act.put, List.setIfInBounds_toArray, List.set_cons_zero, List.set_cons_succ]
  refine qb_call rfl 19 #[.agg #[.int .i64 (hiW a), .int .u64 (loW a)]] (.string T) (fun w' => by go_simp) (fun w' hB' => c19 w') ?_
  simp only [Act.put, List.setIfInBounds_toArray, List.set_cons_zero, List.set_cons_succ]
  refine qb_load_at rfl 24 (.tmp 3) rfl w.heap.size 0 rfl #[.int .i64 (hiW a), .int .u64 (loW a)] _ hlA (fun j _ => by rw [Nat.zero_add]; exact Blk.cell hA3 j) Try.underlying24 rfl info24 ?_
  simp only [Act.put, List.setIfInBounds_toArray, List.set_cons_zero, List.set_cons_succ]
  refine qb_call rfl 20 #[.agg #[.int .i64 (hiW a), .int .u64 (loW a)]] (.string T) (fun w' => by go_simp) (fun w' hB' => c20 w') ?_
  simp only [Act.put, List.setIfInBounds_toArray, List.set_cons_zero, List.set_cons_succ]
  refine qb_pure rfl (.bool true) (fun w' hB' => by go_simp) ?_
  simp only [Act.put, List.setIfInBounds_toArray, List.set_cons_zero, List.set_cons_succ]
  refine qb_pure rfl _ (fun w' hB' => by go_simp; rfl) ?_
  simp only [Act.put, List.setIfInBounds_toArray, List.set_cons_zero, List.set_cons_succ]
  refine qb_pure rfl _ (fun w' hB' => by go_simp; rfl) ?_
  simp only [Act.put, List.setIfInBounds_toArray, List.set_cons_zero, List.set_cons_succ]
  refine qb_pure rfl _ (fun w' hB' => by go_simp; rfl) ?_
  simp only [Act.put, List.setIfInBounds_toArray, List.set_cons_zero, List.set_cons_succ]
  refine qb_pure rfl _ (fun w' hB' => by go_simp; rfl) ?_
  simp only [Act.put, List.setIfInBounds_toArray, List.set_cons_zero, List.set_cons_succ]
  refine qb_pure rfl (.bool true) (fun w' hB' => by go_simp) ?_
  simp only [Act.put, List.setIfInBounds_toArray, List.set_cons_zero, List.set_cons_succ]
  refine qb_pure rfl _ (fun w' hB' => by go_simp; rfl) ?_
  simp only [Act.put, List.setIfInBounds_toArray, List.set_cons_zero, List.set_cons_succ]
  refine qb_pure rfl _ (fun w' hB' => by go_simp; rfl) ?_
  simp only [Act.put, List.setIfInBounds_toArray, List.set_cons_zero, List.set_cons_succ]
  refine qb_pure rfl _ (fun w' hB' => by go_simp; rfl) ?_
  simp only [Act.put, List.setIfInBounds_toArray, List.set_cons_zero, List.set_cons_succ]
  refine qb_pure rfl _ (fun w' hB' => by go_simp; rfl) ?_
  simp only [Act.put, List.setIfInBounds_toArray, List.set_cons_zero, List.set_cons_succ]
  refine qb_pure rfl (.bool true) (fun w' hB' => by go_simp) ?_
  simp only [Act.put, List.setIfInBounds_toArray, List.set_cons_zero, List.set_cons_succ]
  refine qb_pure rfl _ (fun w' hB' => by go_simp; rfl) ?_
  simp only [Act.put, List.setIfInBounds_toArray, List.set_cons_zero, List.set_cons_succ]
  refine qb_pure rfl _ (fun w' hB' => by go_simp; rfl) ?_
  simp only [Act.put, List.setIfInBounds_toArray, List.set_cons_zero, List.set_cons_succ]
  refine qb_nil ?_
  intro w4 hX7
  have hX8 := Below.call hX6 hX7
  go_wp2_with fail
  go_ret
  exact ⟨by first | rfl | simp, hX8⟩

theorem w128_assoc (a b c : Int) : w128 (a + w128 (b + c)) = w128 (w128 (a + b) + c) := by unfold w128; omega
theorem w128_gone (a b : Int) (ha : In128 a) : w128 (w128 (a + b) + w128 (-b)) = a := by unfold In128 at ha; unfold w128; omega
theorem w128_none (a : Int) : w128 (a + w128 (-a)) = 0 := by unfold w128; omega
theorem w128_back (a : Int) (ha : In128 a) : w128 (-w128 (-a)) = a := by unfold In128 at ha; unfold w128; omega
theorem sumV0 : sumV 0 = .agg #[.int .i64 0, .int .u64 0] := by kernel_rfl
theorem sum_ne (a b : Int) (h : a ≠ b) : (hiW a == hiW b) = false ∨ ((hiW a = hiW b) ∧ (loW a == loW b) = false) := by
  have h1 := hi_lo a
  have h2 := hi_lo b
  by_cases e : hiW a = hiW b
  · right
    refine ⟨e, ?_⟩
    simp only [beq_eq_false_iff_ne, ne_eq]
    intro e2; apply h; omega
  · left; simpa using e
theorem txt_ne (a b : Int) (ha : In128 a) (hb : In128 b) (h : a ≠ b) : ¬ (⟨(txt a).toArray⟩ : ByteArray).toList = (⟨(txt b).toArray⟩ : ByteArray).toList := by
  rw [ByteArray.toList_mk, ByteArray.toList_mk]
  exact fun e => h (txt_inj a b ha hb e)

set_option maxRecDepth 100000 in
set_option maxHeartbeats 8000000 in
theorem rules4 (a b c : Int) (w : World) (ha : In128 a) (hb : In128 b) (hc : In128 c) :
    Calls Try.prog 4 #[sumV a, sumV b, sumV c] w fun e w' => e = .returned (.bool true) ∧ Below w.heap.size w w' := by
  have p1 := fun w => plus13 a b w
  have p2 := fun w => plus13 b a w
  have p3 := fun w => plus13 (w128 (a + b)) c w
  have p4 := fun w => plus13 b c w
  have p5 := fun w => plus13 a (w128 (b + c)) w
  have m1 := fun w => minus17 b w
  have p6 := fun w => plus13 (w128 (a + b)) (w128 (-b)) w
  have m2 := fun w => minus17 a w
  have p7 := fun w => plus13 a (w128 (-a)) w
  have m3 := fun w => minus17 (w128 (-a)) w
  have t1 := fun w => text19 a w ha
  have t2 := fun w => text19 b w hb
  rw [Int.add_comm b a] at p2
  rw [w128_assoc] at p5
  rw [w128_gone a b ha] at p6
  rw [w128_none, sumV0] at p7
  rw [w128_back a ha] at m3
  have hne : a ≠ b → ¬ (⟨(txt a).toArray⟩ : ByteArray).toList = (⟨(txt b).toArray⟩ : ByteArray).toList := txt_ne a b ha hb
  have heq : a = b → (⟨(txt a).toArray⟩ : ByteArray).toList = (⟨(txt b).toArray⟩ : ByteArray).toList := fun h => by rw [h]
  obtain ⟨S2, h2⟩ : ∃ S, w128 (w128 (a + b) + c) = S := ⟨_, rfl⟩
  obtain ⟨S1, h1⟩ : ∃ S, w128 (a + b) = S := ⟨_, rfl⟩
  obtain ⟨S3, h3⟩ : ∃ S, w128 (b + c) = S := ⟨_, rfl⟩
  obtain ⟨M1, h4⟩ : ∃ S, w128 (-b) = S := ⟨_, rfl⟩
  obtain ⟨M2, h5⟩ : ∃ S, w128 (-a) = S := ⟨_, rfl⟩
  obtain ⟨Ta, h6⟩ : ∃ T : ByteArray, ⟨(txt a).toArray⟩ = T := ⟨_, rfl⟩
  obtain ⟨Tb, h7⟩ : ∃ T : ByteArray, ⟨(txt b).toArray⟩ = T := ⟨_, rfl⟩
  rw [h2, h1] at p3
  rw [h2, h3] at p5
  rw [h1] at p1 p2 p6
  rw [h3] at p4
  rw [h4] at m1 p6
  rw [h5] at m2 p7 m3
  rw [h6] at t1 hne heq
  rw [h7] at t2 hne heq
  clear h1 h2 h3 h4 h5 h6 h7
  unfold sumV at p1 p2 p3 p4 p5 p6 p7 m1 m2 m3 t1 t2
  unfold sumV
  have hA0 : Blk (((w.alloc (Obj.cells #[.int .i64 (hiW a), .int .u64 (loW a)] 24)).alloc (Obj.cells #[.int .i64 (hiW b), .int .u64 (loW b)] 24)).alloc (Obj.cells #[.int .i64 (hiW c), .int .u64 (loW c)] 24)) w.heap.size 24 #[.int .i64 (hiW a), .int .u64 (loW a)] := ((Blk.newAt _ _ _ rfl).alloc _).alloc _
  have hB0 : Blk (((w.alloc (Obj.cells #[.int .i64 (hiW a), .int .u64 (loW a)] 24)).alloc (Obj.cells #[.int .i64 (hiW b), .int .u64 (loW b)] 24)).alloc (Obj.cells #[.int .i64 (hiW c), .int .u64 (loW c)] 24)) (w.heap.size + 1) 24 #[.int .i64 (hiW b), .int .u64 (loW b)] := (Blk.newAt _ _ _ (by simp)).alloc _
  have hC0 : Blk (((w.alloc (Obj.cells #[.int .i64 (hiW a), .int .u64 (loW a)] 24)).alloc (Obj.cells #[.int .i64 (hiW b), .int .u64 (loW b)] 24)).alloc (Obj.cells #[.int .i64 (hiW c), .int .u64 (loW c)] 24)) (w.heap.size + 1 + 1) 24 #[.int .i64 (hiW c), .int .u64 (loW c)] := Blk.newAt _ _ _ (by simp)
  have hX0 : Below w.heap.size w (((w.alloc (Obj.cells #[.int .i64 (hiW a), .int .u64 (loW a)] 24)).alloc (Obj.cells #[.int .i64 (hiW b), .int .u64 (loW b)] 24)).alloc (Obj.cells #[.int .i64 (hiW c), .int .u64 (loW c)] 24)) := Below.al (Below.al (Below.al (Below.refl _ _) _) _) _
  go_enter Try.func4, Try.ntmps4
  go_wp2_with fail
  refine (awake10 _).mono ?_
  rintro e w3 ⟨rfl, hX1⟩
  have hA3 := Blk.below hA0 hX1 (Blk.lt hA0)
  have hB3 := Blk.below hB0 hX1 (Blk.lt hB0)
  have hC3 := Blk.below hC0 hX1 (Blk.lt hC0)
  have hX6 := Below.call hX0 hX1
  have hlA := Blk.lt hA3
  have hlB := Blk.lt hB3
  have hlC := Blk.lt hC3
  clear hA0 hB0 hC0 hX0 hX1
  go_wp2_with fail
  refine wp_region_below (by kernel_rfl) (by kernel_rfl) ?_
  refine qb_load_at rfl 24 (.tmp 3) rfl w.heap.size 0 rfl #[.int .i64 (hiW a), .int .u64 (loW a)] _ hlA (fun j _ => by rw [Nat.zero_add]; exact Blk.cell hA3 j) Try.underlying24 rfl info24 ?_
  simp only [Act.put, List.setIfInBounds_toArray, List.set_cons_zero, List.set_cons_succ]
  refine qb_load_at rfl 24 (.tmp 4) rfl (w.heap.size + 1) 0 rfl #[.int .i64 (hiW b), .int .u64 (loW b)] _ hlB (fun j _ => by rw [Nat.zero_add]; exact Blk.cell hB3 j) Try.underlying24 rfl info24 ?_
  simp only [Act.put, List.setIfInBounds_toArray, List.set_cons_zero, List.set_cons_succ]
  refine qb_call rfl 13 #[.agg #[.int .i64 (hiW a), .int .u64 (loW a)], .agg #[.int .i64 (hiW b), .int .u64 (loW b)]] (.agg #[.int .i64 (hiW S1), .int .u64 (loW S1)]) (fun w' => by go_simp) (fun w' hB' => p1 w') ?_
  simp only [Act.put, List.setIfInBounds_toArray, List.set_cons_zero, List.set_cons_succ]
  refine qb_load_at rfl 24 (.tmp 4) rfl (w.heap.size + 1) 0 rfl #[.int .i64 (hiW b), .int .u64 (loW b)] _ hlB (fun j _ => by rw [Nat.zero_add]; exact Blk.cell hB3 j) Try.underlying24 rfl info24 ?_
  simp only [Act.put, List.setIfInBounds_toArray, List.set_cons_zero, List.set_cons_succ]
  refine qb_load_at rfl 24 (.tmp 3) rfl w.heap.size 0 rfl #[.int .i64 (hiW a), .int .u64 (loW a)] _ hlA (fun j _ => by rw [Nat.zero_add]; exact Blk.cell hA3 j) Try.underlying24 rfl info24 ?_
  simp only [Act.put, List.setIfInBounds_toArray, List.set_cons_zero, List.set_cons_succ]
  refine qb_call rfl 13 #[.agg #[.int .i64 (hiW b), .int .u64 (loW b)], .agg #[.int .i64 (hiW a), .int .u64 (loW a)]] (.agg #[.int .i64 (hiW S1), .int .u64 (loW S1)]) (fun w' => by go_simp) (fun w' hB' => p2 w') ?_
  simp only [Act.put, List.setIfInBounds_toArray, List.set_cons_zero, List.set_cons_succ]
  refine qb_pure rfl (.bool true) (fun w' hB' => by go_simp) ?_
  simp only [Act.put, List.setIfInBounds_toArray, List.set_cons_zero, List.set_cons_succ]
  refine qb_pure rfl _ (fun w' hB' => by go_simp; rfl) ?_
  simp only [Act.put, List.setIfInBounds_toArray, List.set_cons_zero, List.set_cons_succ]
  refine qb_load_at rfl 24 (.tmp 3) rfl w.heap.size 0 rfl #[.int .i64 (hiW a), .int .u64 (loW a)] _ hlA (fun j _ => by rw [Nat.zero_add]; exact Blk.cell hA3 j) Try.underlying24 rfl info24 ?_
  simp only [Act.put, List.setIfInBounds_toArray, List.set_cons_zero, List.set_cons_succ]
  refine qb_load_at rfl 24 (.tmp 4) rfl (w.heap.size + 1) 0 rfl #[.int .i64 (hiW b), .int .u64 (loW b)] _ hlB (fun j _ => by rw [Nat.zero_add]; exact Blk.cell hB3 j) Try.underlying24 rfl info24 ?_
  simp only [Act.put, List.setIfInBounds_toArray, List.set_cons_zero, List.set_cons_succ]
  refine qb_call rfl 13 #[.agg #[.int .i64 (hiW a), .int .u64 (loW a)], .agg #[.int .i64 (hiW b), .int .u64 (loW b)]] (.agg #[.int .i64 (hiW S1), .int .u64 (loW S1)]) (fun w' => by go_simp) (fun w' hB' => p1 w') ?_
  simp only [Act.put, List.setIfInBounds_toArray, List.set_cons_zero, List.set_cons_succ]
  refine qb_load_at rfl 24 (.tmp 5) rfl (w.heap.size + 1 + 1) 0 rfl #[.int .i64 (hiW c), .int .u64 (loW c)] _ hlC (fun j _ => by rw [Nat.zero_add]; exact Blk.cell hC3 j) Try.underlying24 rfl info24 ?_
  simp only [Act.put, List.setIfInBounds_toArray, List.set_cons_zero, List.set_cons_succ]
  refine qb_call rfl 13 #[.agg #[.int .i64 (hiW S1), .int .u64 (loW S1)], .agg #[.int .i64 (hiW c), .int .u64 (loW c)]] (.agg #[.int .i64 (hiW S2), .int .u64 (loW S2)]) (fun w' => by go_simp) (fun w' hB' => p3 w') ?_
  simp only [Act.put, List.setIfInBounds_toArray, List.set_cons_zero, List.set_cons_succ]
  refine qb_load_at rfl 24 (.tmp 3) rfl w.heap.size 0 rfl #[.int .i64 (hiW a), .int .u64 (loW a)] _ hlA (fun j _ => by rw [Nat.zero_add]; exact Blk.cell hA3 j) Try.underlying24 rfl info24 ?_
  simp only [Act.put, List.setIfInBounds_toArray, List.set_cons_zero, List.set_cons_succ]
  refine qb_load_at rfl 24 (.tmp 4) rfl (w.heap.size + 1) 0 rfl #[.int .i64 (hiW b), .int .u64 (loW b)] _ hlB (fun j _ => by rw [Nat.zero_add]; exact Blk.cell hB3 j) Try.underlying24 rfl info24 ?_
  simp only [Act.put, List.setIfInBounds_toArray, List.set_cons_zero, List.set_cons_succ]
  refine qb_load_at rfl 24 (.tmp 5) rfl (w.heap.size + 1 + 1) 0 rfl #[.int .i64 (hiW c), .int .u64 (loW c)] _ hlC (fun j _ => by rw [Nat.zero_add]; exact Blk.cell hC3 j) Try.underlying24 rfl info24 ?_
  simp only [Act.put, List.setIfInBounds_toArray, List.set_cons_zero, List.set_cons_succ]
  refine qb_call rfl 13 #[.agg #[.int .i64 (hiW b), .int .u64 (loW b)], .agg #[.int .i64 (hiW c), .int .u64 (loW c)]] (.agg #[.int .i64 (hiW S3), .int .u64 (loW S3)]) (fun w' => by go_simp) (fun w' hB' => p4 w') ?_
  simp only [Act.put, List.setIfInBounds_toArray, List.set_cons_zero, List.set_cons_succ]
  refine qb_call rfl 13 #[.agg #[.int .i64 (hiW a), .int .u64 (loW a)], .agg #[.int .i64 (hiW S3), .int .u64 (loW S3)]] (.agg #[.int .i64 (hiW S2), .int .u64 (loW S2)]) (fun w' => by go_simp) (fun w' hB' => p5 w') ?_
  simp only [Act.put, List.setIfInBounds_toArray, List.set_cons_zero, List.set_cons_succ]
  refine qb_pure rfl (.bool true) (fun w' hB' => by go_simp) ?_
  simp only [Act.put, List.setIfInBounds_toArray, List.set_cons_zero, List.set_cons_succ]
  refine qb_pure rfl _ (fun w' hB' => by go_simp; rfl) ?_
  simp only [Act.put, List.setIfInBounds_toArray, List.set_cons_zero, List.set_cons_succ]
  refine qb_pure rfl _ (fun w' hB' => by go_simp; rfl) ?_
  simp only [Act.put, List.setIfInBounds_toArray, List.set_cons_zero, List.set_cons_succ]
  refine qb_nil ?_
  intro w4 hX7
  have hA4 := Blk.below hA3 hX7 hlA
  have hB4 := Blk.below hB3 hX7 hlB
  have hC4 := Blk.below hC3 hX7 hlC
  have hX6 := Below.call hX6 hX7
  have hlA4 := Blk.lt hA4
  have hlB4 := Blk.lt hB4
  have hlC4 := Blk.lt hC4
  clear hX7
  go_wp2_with fail
  refine wp_region_below (by kernel_rfl) (by kernel_rfl) ?_
  refine qb_load_at rfl 24 (.tmp 3) rfl w.heap.size 0 rfl #[.int .i64 (hiW a), .int .u64 (loW a)] _ hlA4 (fun j _ => by rw [Nat.zero_add]; exact Blk.cell hA4 j) Try.underlying24 rfl info24 ?_
  simp only [Act.put, List.setIfInBounds_toArray, List.set_cons_zero, List.set_cons_succ]
  refine qb_load_at rfl 24 (.tmp 4) rfl (w.heap.size + 1) 0 rfl #[.int .i64 (hiW b), .int .u64 (loW b)] _ hlB4 (fun j _ => by rw [Nat.zero_add]; exact Blk.cell hB4 j) Try.underlying24 rfl info24 ?_
  simp only [Act.put, List.setIfInBounds_toArray, List.set_cons_zero, List.set_cons_succ]
  refine qb_call rfl 13 #[.agg #[.int .i64 (hiW a), .int .u64 (loW a)], .agg #[.int .i64 (hiW b), .int .u64 (loW b)]] (.agg #[.int .i64 (hiW S1), .int .u64 (loW S1)]) (fun w' => by go_simp) (fun w' hB' => p1 w') ?_
  simp only [Act.put, List.setIfInBounds_toArray, List.set_cons_zero, List.set_cons_succ]
  refine qb_load_at rfl 24 (.tmp 4) rfl (w.heap.size + 1) 0 rfl #[.int .i64 (hiW b), .int .u64 (loW b)] _ hlB4 (fun j _ => by rw [Nat.zero_add]; exact Blk.cell hB4 j) Try.underlying24 rfl info24 ?_
  simp only [Act.put, List.setIfInBounds_toArray, List.set_cons_zero, List.set_cons_succ]
  refine qb_call rfl 17 #[.agg #[.int .i64 (hiW b), .int .u64 (loW b)]] (.agg #[.int .i64 (hiW M1), .int .u64 (loW M1)]) (fun w' => by go_simp) (fun w' hB' => m1 w') ?_
  simp only [Act.put, List.setIfInBounds_toArray, List.set_cons_zero, List.set_cons_succ]
  refine qb_call rfl 13 #[.agg #[.int .i64 (hiW S1), .int .u64 (loW S1)], .agg #[.int .i64 (hiW M1), .int .u64 (loW M1)]] (.agg #[.int .i64 (hiW a), .int .u64 (loW a)]) (fun w' => by go_simp) (fun w' hB' => p6 w') ?_
  simp only [Act.put, List.setIfInBounds_toArray, List.set_cons_zero, List.set_cons_succ]
  refine qb_load_at rfl 24 (.tmp 3) rfl w.heap.size 0 rfl #[.int .i64 (hiW a), .int .u64 (loW a)] _ hlA4 (fun j _ => by rw [Nat.zero_add]; exact Blk.cell hA4 j) Try.underlying24 rfl info24 ?_
  simp only [Act.put, List.setIfInBounds_toArray, List.set_cons_zero, List.set_cons_succ]
  refine qb_pure rfl (.bool true) (fun w' hB' => by go_simp) ?_
  simp only [Act.put, List.setIfInBounds_toArray, List.set_cons_zero, List.set_cons_succ]
  refine qb_pure rfl _ (fun w' hB' => by go_simp; rfl) ?_
  simp only [Act.put, List.setIfInBounds_toArray, List.set_cons_zero, List.set_cons_succ]
  refine qb_load_at rfl 24 (.tmp 3) rfl w.heap.size 0 rfl #[.int .i64 (hiW a), .int .u64 (loW a)] _ hlA4 (fun j _ => by rw [Nat.zero_add]; exact Blk.cell hA4 j) Try.underlying24 rfl info24 ?_
  simp only [Act.put, List.setIfInBounds_toArray, List.set_cons_zero, List.set_cons_succ]
  refine qb_load_at rfl 24 (.tmp 3) rfl w.heap.size 0 rfl #[.int .i64 (hiW a), .int .u64 (loW a)] _ hlA4 (fun j _ => by rw [Nat.zero_add]; exact Blk.cell hA4 j) Try.underlying24 rfl info24 ?_
  simp only [Act.put, List.setIfInBounds_toArray, List.set_cons_zero, List.set_cons_succ]
  refine qb_call rfl 17 #[.agg #[.int .i64 (hiW a), .int .u64 (loW a)]] (.agg #[.int .i64 (hiW M2), .int .u64 (loW M2)]) (fun w' => by go_simp) (fun w' hB' => m2 w') ?_
  simp only [Act.put, List.setIfInBounds_toArray, List.set_cons_zero, List.set_cons_succ]
  refine qb_call rfl 13 #[.agg #[.int .i64 (hiW a), .int .u64 (loW a)], .agg #[.int .i64 (hiW M2), .int .u64 (loW M2)]] (.agg #[.int .i64 0, .int .u64 0]) (fun w' => by go_simp) (fun w' hB' => p7 w') ?_
  simp only [Act.put, List.setIfInBounds_toArray, List.set_cons_zero, List.set_cons_succ]
  refine qb_pure rfl (.agg #[.int .i64 0, .int .u64 0]) (fun w' hB' => by go_simp) ?_
  simp only [Act.put, List.setIfInBounds_toArray, List.set_cons_zero, List.set_cons_succ]
  refine qb_pure rfl (.bool true) (fun w' hB' => by go_simp) ?_
  simp only [Act.put, List.setIfInBounds_toArray, List.set_cons_zero, List.set_cons_succ]
  refine qb_pure rfl _ (fun w' hB' => by go_simp; rfl) ?_
  simp only [Act.put, List.setIfInBounds_toArray, List.set_cons_zero, List.set_cons_succ]
  refine qb_pure rfl _ (fun w' hB' => by go_simp; rfl) ?_
  simp only [Act.put, List.setIfInBounds_toArray, List.set_cons_zero, List.set_cons_succ]
  refine qb_nil ?_
  intro w5 hX7
  have hA5 := Blk.below hA4 hX7 hlA4
  have hB5 := Blk.below hB4 hX7 hlB4
  have hC5 := Blk.below hC4 hX7 hlC4
  have hX6 := Below.call hX6 hX7
  have hlA5 := Blk.lt hA5
  have hlB5 := Blk.lt hB5
  have hlC5 := Blk.lt hC5
  clear hX7
  go_wp2_with fail
  by_cases hab : a = b
  · have htt : Ta.toList = Tb.toList := heq hab
    have he1 : hiW a = hiW b := by rw [hab]
    have he2 : loW a = loW b := by rw [hab]
    clear hne heq
    refine wp_region_below (by kernel_rfl) (by kernel_rfl) ?_
    refine qb_pure rfl _ (fun w' hB' => by go_simp; rfl) ?_
    simp only [Act.put, List.setIfInBounds_toArray, List.set_cons_zero, List.set_cons_succ]
    refine qb_pure rfl _ (fun w' hB' => by go_simp; rfl) ?_
    simp only [Act.put, List.setIfInBounds_toArray, List.set_cons_zero, List.set_cons_succ]
    refine qb_pure rfl _ (fun w' hB' => by go_simp; rfl) ?_
    simp only [Act.put, List.setIfInBounds_toArray, List.set_cons_zero, List.set_cons_succ]
    refine qb_pure rfl _ (fun w' hB' => by go_simp; rfl) ?_
    simp only [Act.put, List.setIfInBounds_toArray, List.set_cons_zero, List.set_cons_succ]
    refine qb_pure rfl _ (fun w' hB' => by go_simp; rfl) ?_
    simp only [Act.put, List.setIfInBounds_toArray, List.set_cons_zero, List.set_cons_succ]
    refine qb_pure rfl _ (fun w' hB' => by go_simp; rfl) ?_
    simp only [Act.put, List.setIfInBounds_toArray, List.set_cons_zero, List.set_cons_succ]
    refine qb_pure rfl _ (fun w' hB' => by go_simp; rfl) ?_
    simp only [Act.put, List.setIfInBounds_toArray, List.set_cons_zero, List.set_cons_succ]
    refine qb_pure rfl _ (fun w' hB' => by go_simp; rfl) ?_
    simp only [Act.put, List.setIfInBounds_toArray, List.set_cons_zero, List.set_cons_succ]
    refine qb_load_at rfl 24 (.tmp 3) rfl w.heap.size 0 rfl #[.int .i64 (hiW a), .int .u64 (loW a)] _ hlA5 (fun j _ => by rw [Nat.zero_add]; exact Blk.cell hA5 j) Try.underlying24 rfl info24 ?_
    simp only [Act.put, List.setIfInBounds_toArray, List.set_cons_zero, List.set_cons_succ]
    refine qb_call rfl 19 #[.agg #[.int .i64 (hiW a), .int .u64 (loW a)]] (.string Ta) (fun w' => by go_simp) (fun w' hB' => t1 w') ?_
    simp only [Act.put, List.setIfInBounds_toArray, List.set_cons_zero, List.set_cons_succ]
    refine qb_load_at rfl 24 (.tmp 4) rfl (w.heap.size + 1) 0 rfl #[.int .i64 (hiW b), .int .u64 (loW b)] _ hlB5 (fun j _ => by rw [Nat.zero_add]; exact Blk.cell hB5 j) Try.underlying24 rfl info24 ?_
    simp only [Act.put, List.setIfInBounds_toArray, List.set_cons_zero, List.set_cons_succ]
    refine qb_call rfl 19 #[.agg #[.int .i64 (hiW b), .int .u64 (loW b)]] (.string Tb) (fun w' => by go_simp) (fun w' hB' => t2 w') ?_
    simp only [Act.put, List.setIfInBounds_toArray, List.set_cons_zero, List.set_cons_succ]
    refine qb_pure rfl (.bool true) (fun w' hB' => by go_simp) ?_
    simp only [Act.put, List.setIfInBounds_toArray, List.set_cons_zero, List.set_cons_succ]
    refine qb_load_at rfl 24 (.tmp 3) rfl w.heap.size 0 rfl #[.int .i64 (hiW a), .int .u64 (loW a)] _ hlA5 (fun j _ => by rw [Nat.zero_add]; exact Blk.cell hA5 j) Try.underlying24 rfl info24 ?_
    simp only [Act.put, List.setIfInBounds_toArray, List.set_cons_zero, List.set_cons_succ]
    refine qb_load_at rfl 24 (.tmp 4) rfl (w.heap.size + 1) 0 rfl #[.int .i64 (hiW b), .int .u64 (loW b)] _ hlB5 (fun j _ => by rw [Nat.zero_add]; exact Blk.cell hB5 j) Try.underlying24 rfl info24 ?_
    simp only [Act.put, List.setIfInBounds_toArray, List.set_cons_zero, List.set_cons_succ]
    refine qb_pure rfl (.bool true) (fun w' hB' => by go_simp) ?_
    simp only [Act.put, List.setIfInBounds_toArray, List.set_cons_zero, List.set_cons_succ]
    refine qb_pure rfl (.bool true) (fun w' hB' => by go_simp) ?_
    simp only [Act.put, List.setIfInBounds_toArray, List.set_cons_zero, List.set_cons_succ]
    refine qb_pure rfl _ (fun w' hB' => by go_simp; rfl) ?_
    simp only [Act.put, List.setIfInBounds_toArray, List.set_cons_zero, List.set_cons_succ]
    refine qb_pure rfl _ (fun w' hB' => by go_simp; rfl) ?_
    simp only [Act.put, List.setIfInBounds_toArray, List.set_cons_zero, List.set_cons_succ]
    refine qb_load_at rfl 24 (.tmp 3) rfl w.heap.size 0 rfl #[.int .i64 (hiW a), .int .u64 (loW a)] _ hlA5 (fun j _ => by rw [Nat.zero_add]; exact Blk.cell hA5 j) Try.underlying24 rfl info24 ?_
    simp only [Act.put, List.setIfInBounds_toArray, List.set_cons_zero, List.set_cons_succ]
    refine qb_call rfl 17 #[.agg #[.int .i64 (hiW a), .int .u64 (loW a)]] (.agg #[.int .i64 (hiW M2), .int .u64 (loW M2)]) (fun w' => by go_simp) (fun w' hB' => m2 w') ?_
    simp only [Act.put, List.setIfInBounds_toArray, List.set_cons_zero, List.set_cons_succ]
    refine qb_call rfl 17 #[.agg #[.int .i64 (hiW M2), .int .u64 (loW M2)]] (.agg #[.int .i64 (hiW a), .int .u64 (loW a)]) (fun w' => by go_simp) (fun w' hB' => m3 w') ?_
    simp only [Act.put, List.setIfInBounds_toArray, List.set_cons_zero, List.set_cons_succ]
    refine qb_load_at rfl 24 (.tmp 3) rfl w.heap.size 0 rfl #[.int .i64 (hiW a), .int .u64 (loW a)] _ hlA5 (fun j _ => by rw [Nat.zero_add]; exact Blk.cell hA5 j) Try.underlying24 rfl info24 ?_
    simp only [Act.put, List.setIfInBounds_toArray, List.set_cons_zero, List.set_cons_succ]
    refine qb_pure rfl (.bool true) (fun w' hB' => by go_simp) ?_
    simp only [Act.put, List.setIfInBounds_toArray, List.set_cons_zero, List.set_cons_succ]
    refine qb_pure rfl _ (fun w' hB' => by go_simp; rfl) ?_
    simp only [Act.put, List.setIfInBounds_toArray, List.set_cons_zero, List.set_cons_succ]
    refine qb_pure rfl _ (fun w' hB' => by go_simp; rfl) ?_
    simp only [Act.put, List.setIfInBounds_toArray, List.set_cons_zero, List.set_cons_succ]
    refine qb_nil ?_
    intro w6 hX7
    have hX8 := Below.call hX6 hX7
    go_wp2_with fail
    go_ret
    exact ⟨by first | rfl | simp, hX8⟩
  · have htt := hne hab
    clear hne heq
    rcases sum_ne a b hab with hs1 | ⟨hs1, hs2⟩
    · clear hab
      refine wp_region_below (by kernel_rfl) (by kernel_rfl) ?_
      refine qb_pure rfl _ (fun w' hB' => by go_simp; rfl) ?_
      simp only [Act.put, List.setIfInBounds_toArray, List.set_cons_zero, List.set_cons_succ]
      refine qb_pure rfl _ (fun w' hB' => by go_simp; rfl) ?_
      simp only [Act.put, List.setIfInBounds_toArray, List.set_cons_zero, List.set_cons_succ]
      refine qb_pure rfl _ (fun w' hB' => by go_simp; rfl) ?_
      simp only [Act.put, List.setIfInBounds_toArray, List.set_cons_zero, List.set_cons_succ]
      refine qb_pure rfl _ (fun w' hB' => by go_simp; rfl) ?_
      simp only [Act.put, List.setIfInBounds_toArray, List.set_cons_zero, List.set_cons_succ]
      refine qb_pure rfl _ (fun w' hB' => by go_simp; rfl) ?_
      simp only [Act.put, List.setIfInBounds_toArray, List.set_cons_zero, List.set_cons_succ]
      refine qb_pure rfl _ (fun w' hB' => by go_simp; rfl) ?_
      simp only [Act.put, List.setIfInBounds_toArray, List.set_cons_zero, List.set_cons_succ]
      refine qb_pure rfl _ (fun w' hB' => by go_simp; rfl) ?_
      simp only [Act.put, List.setIfInBounds_toArray, List.set_cons_zero, List.set_cons_succ]
      refine qb_pure rfl _ (fun w' hB' => by go_simp; rfl) ?_
      simp only [Act.put, List.setIfInBounds_toArray, List.set_cons_zero, List.set_cons_succ]
      refine qb_load_at rfl 24 (.tmp 3) rfl w.heap.size 0 rfl #[.int .i64 (hiW a), .int .u64 (loW a)] _ hlA5 (fun j _ => by rw [Nat.zero_add]; exact Blk.cell hA5 j) Try.underlying24 rfl info24 ?_
      simp only [Act.put, List.setIfInBounds_toArray, List.set_cons_zero, List.set_cons_succ]
      refine qb_call rfl 19 #[.agg #[.int .i64 (hiW a), .int .u64 (loW a)]] (.string Ta) (fun w' => by go_simp) (fun w' hB' => t1 w') ?_
      simp only [Act.put, List.setIfInBounds_toArray, List.set_cons_zero, List.set_cons_succ]
      refine qb_load_at rfl 24 (.tmp 4) rfl (w.heap.size + 1) 0 rfl #[.int .i64 (hiW b), .int .u64 (loW b)] _ hlB5 (fun j _ => by rw [Nat.zero_add]; exact Blk.cell hB5 j) Try.underlying24 rfl info24 ?_
      simp only [Act.put, List.setIfInBounds_toArray, List.set_cons_zero, List.set_cons_succ]
      refine qb_call rfl 19 #[.agg #[.int .i64 (hiW b), .int .u64 (loW b)]] (.string Tb) (fun w' => by go_simp) (fun w' hB' => t2 w') ?_
      simp only [Act.put, List.setIfInBounds_toArray, List.set_cons_zero, List.set_cons_succ]
      refine qb_pure rfl (.bool false) (fun w' hB' => by go_simp) ?_
      simp only [Act.put, List.setIfInBounds_toArray, List.set_cons_zero, List.set_cons_succ]
      refine qb_load_at rfl 24 (.tmp 3) rfl w.heap.size 0 rfl #[.int .i64 (hiW a), .int .u64 (loW a)] _ hlA5 (fun j _ => by rw [Nat.zero_add]; exact Blk.cell hA5 j) Try.underlying24 rfl info24 ?_
      simp only [Act.put, List.setIfInBounds_toArray, List.set_cons_zero, List.set_cons_succ]
      refine qb_load_at rfl 24 (.tmp 4) rfl (w.heap.size + 1) 0 rfl #[.int .i64 (hiW b), .int .u64 (loW b)] _ hlB5 (fun j _ => by rw [Nat.zero_add]; exact Blk.cell hB5 j) Try.underlying24 rfl info24 ?_
      simp only [Act.put, List.setIfInBounds_toArray, List.set_cons_zero, List.set_cons_succ]
      refine qb_pure rfl (.bool false) (fun w' hB' => by go_simp) ?_
      simp only [Act.put, List.setIfInBounds_toArray, List.set_cons_zero, List.set_cons_succ]
      refine qb_pure rfl (.bool true) (fun w' hB' => by go_simp) ?_
      simp only [Act.put, List.setIfInBounds_toArray, List.set_cons_zero, List.set_cons_succ]
      refine qb_pure rfl _ (fun w' hB' => by go_simp; rfl) ?_
      simp only [Act.put, List.setIfInBounds_toArray, List.set_cons_zero, List.set_cons_succ]
      refine qb_pure rfl _ (fun w' hB' => by go_simp; rfl) ?_
      simp only [Act.put, List.setIfInBounds_toArray, List.set_cons_zero, List.set_cons_succ]
      refine qb_load_at rfl 24 (.tmp 3) rfl w.heap.size 0 rfl #[.int .i64 (hiW a), .int .u64 (loW a)] _ hlA5 (fun j _ => by rw [Nat.zero_add]; exact Blk.cell hA5 j) Try.underlying24 rfl info24 ?_
      simp only [Act.put, List.setIfInBounds_toArray, List.set_cons_zero, List.set_cons_succ]
      refine qb_call rfl 17 #[.agg #[.int .i64 (hiW a), .int .u64 (loW a)]] (.agg #[.int .i64 (hiW M2), .int .u64 (loW M2)]) (fun w' => by go_simp) (fun w' hB' => m2 w') ?_
      simp only [Act.put, List.setIfInBounds_toArray, List.set_cons_zero, List.set_cons_succ]
      refine qb_call rfl 17 #[.agg #[.int .i64 (hiW M2), .int .u64 (loW M2)]] (.agg #[.int .i64 (hiW a), .int .u64 (loW a)]) (fun w' => by go_simp) (fun w' hB' => m3 w') ?_
      simp only [Act.put, List.setIfInBounds_toArray, List.set_cons_zero, List.set_cons_succ]
      refine qb_load_at rfl 24 (.tmp 3) rfl w.heap.size 0 rfl #[.int .i64 (hiW a), .int .u64 (loW a)] _ hlA5 (fun j _ => by rw [Nat.zero_add]; exact Blk.cell hA5 j) Try.underlying24 rfl info24 ?_
      simp only [Act.put, List.setIfInBounds_toArray, List.set_cons_zero, List.set_cons_succ]
      refine qb_pure rfl (.bool true) (fun w' hB' => by go_simp) ?_
      simp only [Act.put, List.setIfInBounds_toArray, List.set_cons_zero, List.set_cons_succ]
      refine qb_pure rfl _ (fun w' hB' => by go_simp; rfl) ?_
      simp only [Act.put, List.setIfInBounds_toArray, List.set_cons_zero, List.set_cons_succ]
      refine qb_pure rfl _ (fun w' hB' => by go_simp; rfl) ?_
      simp only [Act.put, List.setIfInBounds_toArray, List.set_cons_zero, List.set_cons_succ]
      refine qb_nil ?_
      intro w6 hX7
      have hX8 := Below.call hX6 hX7
      go_wp2_with fail
      go_ret
      exact ⟨by first | rfl | simp, hX8⟩
    · clear hab
      refine wp_region_below (by kernel_rfl) (by kernel_rfl) ?_
      refine qb_pure rfl _ (fun w' hB' => by go_simp; rfl) ?_
      simp only [Act.put, List.setIfInBounds_toArray, List.set_cons_zero, List.set_cons_succ]
      refine qb_pure rfl _ (fun w' hB' => by go_simp; rfl) ?_
      simp only [Act.put, List.setIfInBounds_toArray, List.set_cons_zero, List.set_cons_succ]
      refine qb_pure rfl _ (fun w' hB' => by go_simp; rfl) ?_
      simp only [Act.put, List.setIfInBounds_toArray, List.set_cons_zero, List.set_cons_succ]
      refine qb_pure rfl _ (fun w' hB' => by go_simp; rfl) ?_
      simp only [Act.put, List.setIfInBounds_toArray, List.set_cons_zero, List.set_cons_succ]
      refine qb_pure rfl _ (fun w' hB' => by go_simp; rfl) ?_
      simp only [Act.put, List.setIfInBounds_toArray, List.set_cons_zero, List.set_cons_succ]
      refine qb_pure rfl _ (fun w' hB' => by go_simp; rfl) ?_
      simp only [Act.put, List.setIfInBounds_toArray, List.set_cons_zero, List.set_cons_succ]
      refine qb_pure rfl _ (fun w' hB' => by go_simp; rfl) ?_
      simp only [Act.put, List.setIfInBounds_toArray, List.set_cons_zero, List.set_cons_succ]
      refine qb_pure rfl _ (fun w' hB' => by go_simp; rfl) ?_
      simp only [Act.put, List.setIfInBounds_toArray, List.set_cons_zero, List.set_cons_succ]
      refine qb_load_at rfl 24 (.tmp 3) rfl w.heap.size 0 rfl #[.int .i64 (hiW a), .int .u64 (loW a)] _ hlA5 (fun j _ => by rw [Nat.zero_add]; exact Blk.cell hA5 j) Try.underlying24 rfl info24 ?_
      simp only [Act.put, List.setIfInBounds_toArray, List.set_cons_zero, List.set_cons_succ]
      refine qb_call rfl 19 #[.agg #[.int .i64 (hiW a), .int .u64 (loW a)]] (.string Ta) (fun w' => by go_simp) (fun w' hB' => t1 w') ?_
      simp only [Act.put, List.setIfInBounds_toArray, List.set_cons_zero, List.set_cons_succ]
      refine qb_load_at rfl 24 (.tmp 4) rfl (w.heap.size + 1) 0 rfl #[.int .i64 (hiW b), .int .u64 (loW b)] _ hlB5 (fun j _ => by rw [Nat.zero_add]; exact Blk.cell hB5 j) Try.underlying24 rfl info24 ?_
      simp only [Act.put, List.setIfInBounds_toArray, List.set_cons_zero, List.set_cons_succ]
      refine qb_call rfl 19 #[.agg #[.int .i64 (hiW b), .int .u64 (loW b)]] (.string Tb) (fun w' => by go_simp) (fun w' hB' => t2 w') ?_
      simp only [Act.put, List.setIfInBounds_toArray, List.set_cons_zero, List.set_cons_succ]
      refine qb_pure rfl (.bool false) (fun w' hB' => by go_simp) ?_
      simp only [Act.put, List.setIfInBounds_toArray, List.set_cons_zero, List.set_cons_succ]
      refine qb_load_at rfl 24 (.tmp 3) rfl w.heap.size 0 rfl #[.int .i64 (hiW a), .int .u64 (loW a)] _ hlA5 (fun j _ => by rw [Nat.zero_add]; exact Blk.cell hA5 j) Try.underlying24 rfl info24 ?_
      simp only [Act.put, List.setIfInBounds_toArray, List.set_cons_zero, List.set_cons_succ]
      refine qb_load_at rfl 24 (.tmp 4) rfl (w.heap.size + 1) 0 rfl #[.int .i64 (hiW b), .int .u64 (loW b)] _ hlB5 (fun j _ => by rw [Nat.zero_add]; exact Blk.cell hB5 j) Try.underlying24 rfl info24 ?_
      simp only [Act.put, List.setIfInBounds_toArray, List.set_cons_zero, List.set_cons_succ]
      refine qb_pure rfl (.bool false) (fun w' hB' => by go_simp) ?_
      simp only [Act.put, List.setIfInBounds_toArray, List.set_cons_zero, List.set_cons_succ]
      refine qb_pure rfl (.bool true) (fun w' hB' => by go_simp) ?_
      simp only [Act.put, List.setIfInBounds_toArray, List.set_cons_zero, List.set_cons_succ]
      refine qb_pure rfl _ (fun w' hB' => by go_simp; rfl) ?_
      simp only [Act.put, List.setIfInBounds_toArray, List.set_cons_zero, List.set_cons_succ]
      refine qb_pure rfl _ (fun w' hB' => by go_simp; rfl) ?_
      simp only [Act.put, List.setIfInBounds_toArray, List.set_cons_zero, List.set_cons_succ]
      refine qb_load_at rfl 24 (.tmp 3) rfl w.heap.size 0 rfl #[.int .i64 (hiW a), .int .u64 (loW a)] _ hlA5 (fun j _ => by rw [Nat.zero_add]; exact Blk.cell hA5 j) Try.underlying24 rfl info24 ?_
      simp only [Act.put, List.setIfInBounds_toArray, List.set_cons_zero, List.set_cons_succ]
      refine qb_call rfl 17 #[.agg #[.int .i64 (hiW a), .int .u64 (loW a)]] (.agg #[.int .i64 (hiW M2), .int .u64 (loW M2)]) (fun w' => by go_simp) (fun w' hB' => m2 w') ?_
      simp only [Act.put, List.setIfInBounds_toArray, List.set_cons_zero, List.set_cons_succ]
      refine qb_call rfl 17 #[.agg #[.int .i64 (hiW M2), .int .u64 (loW M2)]] (.agg #[.int .i64 (hiW a), .int .u64 (loW a)]) (fun w' => by go_simp) (fun w' hB' => m3 w') ?_
      simp only [Act.put, List.setIfInBounds_toArray, List.set_cons_zero, List.set_cons_succ]
      refine qb_load_at rfl 24 (.tmp 3) rfl w.heap.size 0 rfl #[.int .i64 (hiW a), .int .u64 (loW a)] _ hlA5 (fun j _ => by rw [Nat.zero_add]; exact Blk.cell hA5 j) Try.underlying24 rfl info24 ?_
      simp only [Act.put, List.setIfInBounds_toArray, List.set_cons_zero, List.set_cons_succ]
      refine qb_pure rfl (.bool true) (fun w' hB' => by go_simp) ?_
      simp only [Act.put, List.setIfInBounds_toArray, List.set_cons_zero, List.set_cons_succ]
      refine qb_pure rfl _ (fun w' hB' => by go_simp; rfl) ?_
      simp only [Act.put, List.setIfInBounds_toArray, List.set_cons_zero, List.set_cons_succ]
      refine qb_pure rfl _ (fun w' hB' => by go_simp; rfl) ?_
      simp only [Act.put, List.setIfInBounds_toArray, List.set_cons_zero, List.set_cons_succ]
      refine qb_nil ?_
      intro w6 hX7
      have hX8 := Below.call hX6 hX7
      go_wp2_with fail
      go_ret
      exact ⟨by first | rfl | simp, hX8⟩
end Go.Proofs.Ytlhncphnhgbclaa
