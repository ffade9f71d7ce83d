/- Accumulators: Same of both, in general. -/
import Derived.Test.YtlhncphnhgbclaaP
namespace Go.Proofs.Ytlhncphnhgbclaa
open Go.RowKit
set_option linter.unusedVariables false
set_option linter.unusedSimpArgs false

/-- are two parts the same, cell by cell? -/
def eqB (p q : Prt) : Bool := (p.any == q.any) && (hiW p.sum == hiW q.sum) && (loW p.sum == loW q.sum) && (p.mn == q.mn) && (p.mx == q.mx)
theorem eqB_yes {p q : Prt} (h : eqB p q = true) : p.any = q.any ∧ hiW p.sum = hiW q.sum ∧ loW p.sum = loW q.sum ∧ p.mn = q.mn ∧ p.mx = q.mx := by
  unfold eqB at h
  simp only [Bool.and_eq_true, beq_iff_eq] at h
  exact ⟨h.1.1.1.1, h.1.1.1.2, h.1.1.2, h.1.2, h.2⟩
theorem eqB_no {p q : Prt} (h : eqB p q = false) : (p.any == q.any) = false ∨ (hiW p.sum == hiW q.sum) = false ∨ (loW p.sum == loW q.sum) = false ∨ (p.mn == q.mn) = false ∨ (p.mx == q.mx) = false := by
  unfold eqB at h
  simp only [Bool.and_eq_false_iff] at h
  rcases h with (((h | h) | h) | h) | h
  · exact .inl h
  · exact .inr (.inl h)
  · exact .inr (.inr (.inl h))
  · exact .inr (.inr (.inr (.inl h)))
  · exact .inr (.inr (.inr (.inr h)))
def eqAll (ps qs : List Prt) : Bool := decide (ps.length = qs.length) && (List.range ps.length).all fun i => eqB (ps.getD i zeroP) (qs.getD i zeroP)
theorem eqAll_yes {ps qs : List Prt} (hl : ps.length = qs.length) (h : ∀ j, j < ps.length → eqB (ps.getD j zeroP) (qs.getD j zeroP) = true) : eqAll ps qs = true := by
  unfold eqAll
  simp only [Bool.and_eq_true, decide_eq_true_eq, List.all_eq_true, List.mem_range]
  exact ⟨hl, h⟩
theorem eqAll_no {ps qs : List Prt} {k : Nat} (hk : k < ps.length) (h : eqB (ps.getD k zeroP) (qs.getD k zeroP) = false) : eqAll ps qs = false := by
  unfold eqAll
  rw [Bool.and_eq_false_iff]
  right
  rw [List.all_eq_false]
  exact ⟨k, List.mem_range.2 hk, by show ¬ (eqB _ _ = true); rw [h]; decide⟩
theorem eqAll_len {ps qs : List Prt} (h : ps.length ≠ qs.length) : eqAll ps qs = false := by
  unfold eqAll
  simp [h]

set_option maxHeartbeats 4000000 in
theorem equal39g (v1 v2 : Value) (ps qs : List Prt) (w : World) (h1 : RowP w.heap.size w v1 ps) (h2 : RowP w.heap.size w v2 qs) :
    Calls Try.prog 39 #[v1, v2] w fun e w' => e = .returned (.bool (eqAll ps qs)) ∧ Below w.heap.size w w' := by
  obtain ⟨a1, cap1, rfl, hcap1, hmax1, hc1⟩ := h1.open
  obtain ⟨a2, cap2, rfl, hcap2, hmax2, hc2⟩ := h2.open
  have HC1 := Lib.hid hc1
  have HC2 := Lib.hid hc2
  clear hc1 hc2 h1 h2
  by_cases hl : ps.length = qs.length
  · have hlI : ((ps.length : Int) == qs.length) = true := by rw [hl]; simp
    have HL := Lib.hid hl
    rw [← hl] at hcap2 HC2 ⊢
    clear hl hlI
    go_enter Try.func39, Try.ntmps39
    go_wp2_with fail
    go_loopw [5, 13] (fun _ i wr => ∃ k : Nat, k ≤ ps.length ∧ i = .int .i64 k ∧ Hid (∀ j, j < k → eqB (ps.getD j zeroP) (qs.getD j zeroP) = true) ∧ Below w.heap.size w wr) (fun _ i _ => ps.length - (intOf i).toNat)
    case atStart => exact ⟨0, by omega, rfl, fun j h => absurd h (by omega), Below.refl _ _⟩
    case round =>
      obtain ⟨k, hk, rfl, HN, hB⟩ := hrel
      by_cases hlt : k < ps.length
      · have d1 : decide ((k : Int) < ps.length) = true := by simp; omega
        obtain ⟨b1, off1, rfl, hb1, hcell1⟩ := HC1.out (by omega)
        obtain ⟨b2, off2, rfl, hb2, hcell2⟩ := HC2.out (by omega)
        obtain ⟨p, hp⟩ : ∃ p, ps.getD k zeroP = p := ⟨_, rfl⟩
        obtain ⟨q, hq⟩ : ∃ q, qs.getD k zeroP = q := ⟨_, rfl⟩
        have l1 : b1 < wr.heap.size := Nat.lt_of_lt_of_le hb1 hB.size
        have l2 : b2 < wr.heap.size := Nat.lt_of_lt_of_le hb2 hB.size
        have q1 : ∀ j, j < 5 → wr.cell? ⟨b1, off1 + k * 5 + j, none⟩ = (partA p)[j]? := fun j hj => by rw [hB.cell (by exact hb1), hcell1 k j hlt hj, hp]
        have q2 : ∀ j, j < 5 → wr.cell? ⟨b2, off2 + k * 5 + j, none⟩ = (partA q)[j]? := fun j hj => by rw [hB.cell (by exact hb2), hcell2 k j (by omega) hj, hq]
        unfold partA at q1 q2
        have Q1 := Lib.hid q1
        have Q2 := Lib.hid q2
        clear hcell1 hcell2 q1 q2
        cases heq : eqB p q with
        | true =>
          obtain ⟨g1, g2, g3, g4, g5⟩ := eqB_yes heq
          have HN2 : Hid (∀ j, j < k + 1 → eqB (ps.getD j zeroP) (qs.getD j zeroP) = true) := by
            intro j hj
            by_cases e : j = k
            · subst e; rw [hp, hq]; exact heq
            · exact HN.out j (by omega)
          clear heq hp hq
          go_wp2_with fail
          refine wp_region_below (by kernel_rfl) (by kernel_rfl) ?_
          refine qb_pure rfl _ (fun w' hB' => by go_simp; rfl) ?_
          simp only [Act.put, List.setIfInBounds_toArray, List.set_cons_zero, List.set_cons_succ]
          refine qb_pure rfl _ (fun w' hB' => by go_simp; rfl) ?_
          simp only [Act.put, List.setIfInBounds_toArray, List.set_cons_zero, List.set_cons_succ]
          refine qb_pure rfl (.pointer (some ⟨b1, off1 + k * 5, none⟩)) (fun w' hB' => by go_simp) ?_
          simp only [Act.put, List.setIfInBounds_toArray, List.set_cons_zero, List.set_cons_succ]
          refine qb_load_at rfl 46 (.tmp 18) rfl b1 (off1 + k * 5) rfl #[.bool p.any, .int .i64 (hiW p.sum), .int .u64 (loW p.sum), .int .i64 p.mn, .int .i64 p.mx] _ l1 Q1.out Try.underlying46 rfl info46s ?_
          simp only [Act.put, List.setIfInBounds_toArray, List.set_cons_zero, List.set_cons_succ]
          refine qb_pure rfl _ (fun w' hB' => by go_simp; rfl) ?_
          simp only [Act.put, List.setIfInBounds_toArray, List.set_cons_zero, List.set_cons_succ]
          refine qb_pure rfl _ (fun w' hB' => by go_simp; rfl) ?_
          simp only [Act.put, List.setIfInBounds_toArray, List.set_cons_zero, List.set_cons_succ]
          refine qb_pure rfl (.pointer (some ⟨b2, off2 + k * 5, none⟩)) (fun w' hB' => by go_simp) ?_
          simp only [Act.put, List.setIfInBounds_toArray, List.set_cons_zero, List.set_cons_succ]
          refine qb_load_at rfl 46 (.tmp 22) rfl b2 (off2 + k * 5) rfl #[.bool q.any, .int .i64 (hiW q.sum), .int .u64 (loW q.sum), .int .i64 q.mn, .int .i64 q.mx] _ l2 Q2.out Try.underlying46 rfl info46s ?_
          simp only [Act.put, List.setIfInBounds_toArray, List.set_cons_zero, List.set_cons_succ]
          refine qb_pure rfl (.bool false) (fun w' hB' => by go_simp) ?_
          simp only [Act.put, List.setIfInBounds_toArray, List.set_cons_zero, List.set_cons_succ]
          refine qb_nil ?_
          intro w2 hB2
          have hB3 := Below.call hB hB2
          go_wp2_with fail
          go_roundw
          case rel => exact ⟨k + 1, by omega, by go_num, HN2, hB3⟩
          case measure => simp [intOf]; omega
        | false =>
          have HNO := Lib.hid (eqAll_no (ps := ps) (qs := qs) hlt (by rw [hp, hq]; exact heq))
          have hd := eqB_no heq
          clear heq hp hq
          go_wp2_with fail
          rcases hd with hd | hd | hd | hd | hd
          all_goals
            refine wp_region_below (by kernel_rfl) (by kernel_rfl) ?_
            refine qb_pure rfl _ (fun w' hB' => by go_simp; rfl) ?_
            simp only [Act.put, List.setIfInBounds_toArray, List.set_cons_zero, List.set_cons_succ]
            refine qb_pure rfl _ (fun w' hB' => by go_simp; rfl) ?_
            simp only [Act.put, List.setIfInBounds_toArray, List.set_cons_zero, List.set_cons_succ]
            refine qb_pure rfl (.pointer (some ⟨b1, off1 + k * 5, none⟩)) (fun w' hB' => by go_simp) ?_
            simp only [Act.put, List.setIfInBounds_toArray, List.set_cons_zero, List.set_cons_succ]
            refine qb_load_at rfl 46 (.tmp 18) rfl b1 (off1 + k * 5) rfl #[.bool p.any, .int .i64 (hiW p.sum), .int .u64 (loW p.sum), .int .i64 p.mn, .int .i64 p.mx] _ l1 Q1.out Try.underlying46 rfl info46s ?_
            simp only [Act.put, List.setIfInBounds_toArray, List.set_cons_zero, List.set_cons_succ]
            refine qb_pure rfl _ (fun w' hB' => by go_simp; rfl) ?_
            simp only [Act.put, List.setIfInBounds_toArray, List.set_cons_zero, List.set_cons_succ]
            refine qb_pure rfl _ (fun w' hB' => by go_simp; rfl) ?_
            simp only [Act.put, List.setIfInBounds_toArray, List.set_cons_zero, List.set_cons_succ]
            refine qb_pure rfl (.pointer (some ⟨b2, off2 + k * 5, none⟩)) (fun w' hB' => by go_simp) ?_
            simp only [Act.put, List.setIfInBounds_toArray, List.set_cons_zero, List.set_cons_succ]
            refine qb_load_at rfl 46 (.tmp 22) rfl b2 (off2 + k * 5) rfl #[.bool q.any, .int .i64 (hiW q.sum), .int .u64 (loW q.sum), .int .i64 q.mn, .int .i64 q.mx] _ l2 Q2.out Try.underlying46 rfl info46s ?_
            simp only [Act.put, List.setIfInBounds_toArray, List.set_cons_zero, List.set_cons_succ]
            refine qb_pure rfl (.bool true) (fun w' hB' => by go_simp) ?_
            simp only [Act.put, List.setIfInBounds_toArray, List.set_cons_zero, List.set_cons_succ]
            refine qb_nil ?_
            intro w2 hB2
            have hB3 := Below.call hB hB2
            go_wp2_with fail
            go_ret
            exact ⟨by rw [HNO.out] <;> rfl, hB3⟩
      · obtain rfl : k = ps.length := by omega
        have HY := Lib.hid (eqAll_yes HL.out HN.out)
        go_wp2_with fail
        go_ret
        exact ⟨by rw [HY.out] <;> rfl, hB⟩
  · have hlI : ((ps.length : Int) == qs.length) = false := beq_eq_false_iff_ne.2 (by omega)
    have HNO := Lib.hid (eqAll_len hl)
    go_enter Try.func39, Try.ntmps39
    go_wp2_with fail
    go_ret
    exact ⟨by rw [HNO.out] <;> rfl, Below.refl _ _⟩

def sameB (c d : Int) (ps qs : List Prt) : Bool := (c == d) && eqAll ps qs
theorem same24g (c d : Int) (v1 v2 : Value) (ps qs : List Prt) (w : World) (h1 : RowP w.heap.size w v1 ps) (h2 : RowP w.heap.size w v2 qs) :
    Calls Try.prog 24 #[.agg #[.int .i64 c, v1], .agg #[.int .i64 d, v2]] w fun e w' => e = .returned (.bool (sameB c d ps qs)) ∧ Below w.heap.size w w' := by
  have hB : Below w.heap.size w ((w.alloc (Obj.cells #[.int .i64 c, v1] 39)).alloc (Obj.cells #[.int .i64 d, v2] 39)) := Below.al (Below.al (Below.refl _ _) _) _
  have h1' : RowP ((w.alloc (Obj.cells #[.int .i64 c, v1] 39)).alloc (Obj.cells #[.int .i64 d, v2] 39)).heap.size ((w.alloc (Obj.cells #[.int .i64 c, v1] 39)).alloc (Obj.cells #[.int .i64 d, v2] 39)) v1 ps := Row.mono h1 hB hB.size
  have h2' : RowP ((w.alloc (Obj.cells #[.int .i64 c, v1] 39)).alloc (Obj.cells #[.int .i64 d, v2] 39)).heap.size ((w.alloc (Obj.cells #[.int .i64 c, v1] 39)).alloc (Obj.cells #[.int .i64 d, v2] 39)) v2 qs := Row.mono h2 hB hB.size
  obtain ⟨a1, cap1, rfl, hcap1, hmax1, -⟩ := h1.open
  obtain ⟨a2, cap2, rfl, hcap2, hmax2, -⟩ := h2.open
  have H1 := Lib.hid h1'
  have H2 := Lib.hid h2'
  have HB := Lib.hid hB
  clear h1 h2 h1' h2' hB
  by_cases hc : c = d
  · subst hc
    have hs : sameB c c ps qs = eqAll ps qs := by simp [sameB]
    have HS := Lib.hid hs
    clear hs
    go_enter Try.func24, Try.ntmps24
    go_wp2_with fail
    refine (equal39g _ _ ps qs _ H1.out H2.out).mono ?_
    rintro e w2 ⟨rfl, hB2⟩
    have hB3 := Below.call HB.out hB2
    go_wp2_with fail
    go_ret
    exact ⟨by rw [HS.out] <;> rfl, hB3⟩
  · have hcb : (c == d) = false := by simpa using hc
    have hs : sameB c d ps qs = false := by simp [sameB, hc]
    have HS := Lib.hid hs
    clear hs hc
    go_enter Try.func24, Try.ntmps24
    go_wp2_with fail
    go_ret
    exact ⟨by rw [HS.out] <;> rfl, HB.out⟩

set_option maxHeartbeats 4000000 in
theorem same22g (c d : Int) (v1 v2 : Value) (ps qs : List Prt) (w : World) (h1 : RowP w.heap.size w v1 ps) (h2 : RowP w.heap.size w v2 qs) :
    Calls Try.prog 22 #[.agg #[.int .i64 c, v1], .agg #[.int .i64 d, v2]] w fun e w' => e = .returned (.bool (sameB c d ps qs)) ∧ Below w.heap.size w w' := by
  have hA0 : Blk ((w.alloc (Obj.cells #[.int .i64 c, v1] 39)).alloc (Obj.cells #[.int .i64 d, v2] 39)) w.heap.size 39 #[.int .i64 c, v1] := (Blk.newAt _ _ _ rfl).alloc _
  have hC0 : Blk ((w.alloc (Obj.cells #[.int .i64 c, v1] 39)).alloc (Obj.cells #[.int .i64 d, v2] 39)) (w.heap.size + 1) 39 #[.int .i64 d, v2] := Blk.newAt _ _ _ (by simp)
  have hB0 : Below w.heap.size w ((w.alloc (Obj.cells #[.int .i64 c, v1] 39)).alloc (Obj.cells #[.int .i64 d, v2] 39)) := Below.al (Below.al (Below.refl _ _) _) _
  obtain ⟨a1, cap1, rfl, hcap1, hmax1, hc1⟩ := h1.open
  obtain ⟨a2, cap2, rfl, hcap2, hmax2, hc2⟩ := h2.open
  have HC1 := Lib.hid hc1
  have HC2 := Lib.hid hc2
  have HB0 := Lib.hid hB0
  clear hc1 hc2 h1 h2
  by_cases hc : c = d
  · subst hc
    have hs : sameB c c ps qs = eqAll ps qs := by simp [sameB]
    have HS := Lib.hid hs
    clear hs
    by_cases hl : ps.length = qs.length
    · have HL := Lib.hid hl
      rw [← hl] at hcap2 HC2 hA0 hC0 HB0 ⊢
      have HA0 := Lib.hid hA0
      have HCC := Lib.hid hC0
      clear hl hA0 hC0 hB0
      go_enter Try.func22, Try.ntmps22
      go_wp2_with fail
      go_loopw [5] (fun i wr => ∃ k : Nat, k ≤ ps.length ∧ i = .int .i64 k ∧ Hid (∀ j, j < k → eqB (ps.getD j zeroP) (qs.getD j zeroP) = true) ∧ Blk wr w.heap.size 39 #[.int .i64 c, .slice a1 ps.length cap1] ∧ Blk wr (w.heap.size + 1) 39 #[.int .i64 c, .slice a2 ps.length cap2] ∧ Below w.heap.size w wr) (fun i _ => ps.length - (intOf i).toNat)
      case atStart => exact ⟨0, by omega, rfl, fun j h => absurd h (by omega), HA0.out, HCC.out, HB0.out⟩
      case round =>
        obtain ⟨k, hk, rfl, HN, hA, hC, hB⟩ := hrel
        have k1 : wr.cell? ⟨w.heap.size, 1, none⟩ = some (.slice a1 ps.length cap1) := Blk.cell hA 1
        have k2 : wr.cell? ⟨w.heap.size + 1, 1, none⟩ = some (.slice a2 ps.length cap2) := Blk.cell hC 1
        have lA := Blk.lt hA
        have lC := Blk.lt hC
        by_cases hlt : k < ps.length
        · have d1 : decide ((k : Int) < ps.length) = true := by simp; omega
          obtain ⟨b1, off1, rfl, hb1, hcell1⟩ := HC1.out (by omega)
          obtain ⟨b2, off2, rfl, hb2, hcell2⟩ := HC2.out (by omega)
          obtain ⟨p, hp⟩ : ∃ p, ps.getD k zeroP = p := ⟨_, rfl⟩
          obtain ⟨q, hq⟩ : ∃ q, qs.getD k zeroP = q := ⟨_, rfl⟩
          have l1 : b1 < wr.heap.size := Nat.lt_of_lt_of_le hb1 hB.size
          have l2 : b2 < wr.heap.size := Nat.lt_of_lt_of_le hb2 hB.size
          have q1 : ∀ j, j < 5 → wr.cell? ⟨b1, off1 + k * 5 + j, none⟩ = (partA p)[j]? := fun j hj => by rw [hB.cell (by exact hb1), hcell1 k j hlt hj, hp]
          have q2 : ∀ j, j < 5 → wr.cell? ⟨b2, off2 + k * 5 + j, none⟩ = (partA q)[j]? := fun j hj => by rw [hB.cell (by exact hb2), hcell2 k j (by omega) hj, hq]
          unfold partA at q1 q2
          have Q1 := Lib.hid q1
          have Q2 := Lib.hid q2
          clear hcell1 hcell2 q1 q2
          cases heq : eqB p q with
          | true =>
            obtain ⟨g1, g2, g3, g4, g5⟩ := eqB_yes heq
            have HN2 : Hid (∀ j, j < k + 1 → eqB (ps.getD j zeroP) (qs.getD j zeroP) = true) := by
              intro j hj
              by_cases e : j = k
              · subst e; rw [hp, hq]; exact heq
              · exact HN.out j (by omega)
            clear heq hp hq
            go_wp2_with fail
            refine wp_region_below (by kernel_rfl) (by kernel_rfl) ?_
            refine qb_pure rfl _ (fun w' hB' => by go_simp; rfl) ?_
            simp only [Act.put, List.setIfInBounds_toArray, List.set_cons_zero, List.set_cons_succ]
            refine qb_pure rfl (.slice (some ⟨b1, off1, none⟩) ps.length cap1) (fun w' hB' => by have cc := (hB'.cell (by exact lA)).trans k1; go_simp) ?_
            simp only [Act.put, List.setIfInBounds_toArray, List.set_cons_zero, List.set_cons_succ]
            refine qb_pure rfl _ (fun w' hB' => by go_simp; rfl) ?_
            simp only [Act.put, List.setIfInBounds_toArray, List.set_cons_zero, List.set_cons_succ]
            refine qb_pure rfl (.pointer (some ⟨b1, off1 + k * 5, none⟩)) (fun w' hB' => by go_simp) ?_
            simp only [Act.put, List.setIfInBounds_toArray, List.set_cons_zero, List.set_cons_succ]
            refine qb_load_at rfl 46 (.tmp 30) rfl b1 (off1 + k * 5) rfl #[.bool p.any, .int .i64 (hiW p.sum), .int .u64 (loW p.sum), .int .i64 p.mn, .int .i64 p.mx] _ l1 Q1.out Try.underlying46 rfl info46s ?_
            simp only [Act.put, List.setIfInBounds_toArray, List.set_cons_zero, List.set_cons_succ]
            refine qb_pure rfl _ (fun w' hB' => by go_simp; rfl) ?_
            simp only [Act.put, List.setIfInBounds_toArray, List.set_cons_zero, List.set_cons_succ]
            refine qb_pure rfl (.slice (some ⟨b2, off2, none⟩) ps.length cap2) (fun w' hB' => by have cc := (hB'.cell (by exact lC)).trans k2; go_simp) ?_
            simp only [Act.put, List.setIfInBounds_toArray, List.set_cons_zero, List.set_cons_succ]
            refine qb_pure rfl _ (fun w' hB' => by go_simp; rfl) ?_
            simp only [Act.put, List.setIfInBounds_toArray, List.set_cons_zero, List.set_cons_succ]
            refine qb_pure rfl (.pointer (some ⟨b2, off2 + k * 5, none⟩)) (fun w' hB' => by go_simp) ?_
            simp only [Act.put, List.setIfInBounds_toArray, List.set_cons_zero, List.set_cons_succ]
            refine qb_load_at rfl 46 (.tmp 35) rfl b2 (off2 + k * 5) rfl #[.bool q.any, .int .i64 (hiW q.sum), .int .u64 (loW q.sum), .int .i64 q.mn, .int .i64 q.mx] _ l2 Q2.out Try.underlying46 rfl info46s ?_
            simp only [Act.put, List.setIfInBounds_toArray, List.set_cons_zero, List.set_cons_succ]
            refine qb_pure rfl (.bool false) (fun w' hB' => by go_simp) ?_
            simp only [Act.put, List.setIfInBounds_toArray, List.set_cons_zero, List.set_cons_succ]
            refine qb_nil ?_
            intro w2 hB2
            have hB3 := Below.call hB hB2
            have hA3 := Blk.below hA hB2 lA
            have hC3 := Blk.below hC hB2 lC
            go_wp2_with fail
            go_roundw
            case rel => exact ⟨k + 1, by omega, by go_num, HN2, hA3, hC3, hB3⟩
            case measure => simp [intOf]; omega
          | false =>
            have HNO := Lib.hid (eqAll_no (ps := ps) (qs := qs) hlt (by rw [hp, hq]; exact heq))
            have hd := eqB_no heq
            clear heq hp hq
            go_wp2_with fail
            rcases hd with hd | hd | hd | hd | hd
            all_goals
              refine wp_region_below (by kernel_rfl) (by kernel_rfl) ?_
              refine qb_pure rfl _ (fun w' hB' => by go_simp; rfl) ?_
              simp only [Act.put, List.setIfInBounds_toArray, List.set_cons_zero, List.set_cons_succ]
              refine qb_pure rfl (.slice (some ⟨b1, off1, none⟩) ps.length cap1) (fun w' hB' => by have cc := (hB'.cell (by exact lA)).trans k1; go_simp) ?_
              simp only [Act.put, List.setIfInBounds_toArray, List.set_cons_zero, List.set_cons_succ]
              refine qb_pure rfl _ (fun w' hB' => by go_simp; rfl) ?_
              simp only [Act.put, List.setIfInBounds_toArray, List.set_cons_zero, List.set_cons_succ]
              refine qb_pure rfl (.pointer (some ⟨b1, off1 + k * 5, none⟩)) (fun w' hB' => by go_simp) ?_
              simp only [Act.put, List.setIfInBounds_toArray, List.set_cons_zero, List.set_cons_succ]
              refine qb_load_at rfl 46 (.tmp 30) rfl b1 (off1 + k * 5) rfl #[.bool p.any, .int .i64 (hiW p.sum), .int .u64 (loW p.sum), .int .i64 p.mn, .int .i64 p.mx] _ l1 Q1.out Try.underlying46 rfl info46s ?_
              simp only [Act.put, List.setIfInBounds_toArray, List.set_cons_zero, List.set_cons_succ]
              refine qb_pure rfl _ (fun w' hB' => by go_simp; rfl) ?_
              simp only [Act.put, List.setIfInBounds_toArray, List.set_cons_zero, List.set_cons_succ]
              refine qb_pure rfl (.slice (some ⟨b2, off2, none⟩) ps.length cap2) (fun w' hB' => by have cc := (hB'.cell (by exact lC)).trans k2; go_simp) ?_
              simp only [Act.put, List.setIfInBounds_toArray, List.set_cons_zero, List.set_cons_succ]
              refine qb_pure rfl _ (fun w' hB' => by go_simp; rfl) ?_
              simp only [Act.put, List.setIfInBounds_toArray, List.set_cons_zero, List.set_cons_succ]
              refine qb_pure rfl (.pointer (some ⟨b2, off2 + k * 5, none⟩)) (fun w' hB' => by go_simp) ?_
              simp only [Act.put, List.setIfInBounds_toArray, List.set_cons_zero, List.set_cons_succ]
              refine qb_load_at rfl 46 (.tmp 35) rfl b2 (off2 + k * 5) rfl #[.bool q.any, .int .i64 (hiW q.sum), .int .u64 (loW q.sum), .int .i64 q.mn, .int .i64 q.mx] _ l2 Q2.out Try.underlying46 rfl info46s ?_
              simp only [Act.put, List.setIfInBounds_toArray, List.set_cons_zero, List.set_cons_succ]
              refine qb_pure rfl (.bool true) (fun w' hB' => by go_simp) ?_
              simp only [Act.put, List.setIfInBounds_toArray, List.set_cons_zero, List.set_cons_succ]
              refine qb_nil ?_
              intro w2 hB2
              have hB3 := Below.call hB hB2
              go_wp2_with fail
              go_ret
              exact ⟨by rw [HS.out, HNO.out] <;> rfl, hB3⟩
        · obtain rfl : k = ps.length := by omega
          have HY := Lib.hid (eqAll_yes HL.out HN.out)
          go_wp2_with fail
          go_ret
          exact ⟨by rw [HS.out, HY.out] <;> rfl, hB⟩
    · have hlI : ((ps.length : Int) == qs.length) = false := beq_eq_false_iff_ne.2 (by omega)
      have HNO := Lib.hid (eqAll_len hl)
      clear hA0 hC0 hB0
      go_enter Try.func22, Try.ntmps22
      go_wp2_with fail
      go_ret
      exact ⟨by rw [HS.out, HNO.out] <;> rfl, HB0.out⟩
  · have hcb : (c == d) = false := by simpa using hc
    have hs : sameB c d ps qs = false := by simp [sameB, hc]
    have HS := Lib.hid hs
    clear hs hc hA0 hC0 hB0
    go_enter Try.func22, Try.ntmps22
    go_wp2_with fail
    go_ret
    exact ⟨by rw [HS.out] <;> rfl, HB0.out⟩

end Go.Proofs.Ytlhncphnhgbclaa
