/- AdviseNothing: what nobody asks for is not advised: the plain law, and the walk. -/
import Derived.Test.YtfgnmcmkjfnogaaI
namespace Go.Proofs.Ytfgnmcmkjfnogaa
open Go.RowKit
set_option linter.unusedVariables false
set_option linter.unusedSimpArgs false

def zeros64 : List Int := List.replicate 64 0
theorem zeros64_len : zeros64.length = 64 := by decide
theorem zeros64_at (k : Nat) : zeros64.getD k 0 = 0 := by
  unfold zeros64
  rw [List.getD_eq_getElem?_getD, List.getElem?_replicate]
  split <;> rfl
theorem cost0_at (c : Int) (k : Nat) (h : k < 64) : (cost0 c).getD k 0 = keepZ c 16777216 := by
  unfold cost0
  rw [List.getD_eq_getElem?_getD, List.getElem?_replicate, if_pos h]
  rfl
theorem pick_none (W R Y C out : List Int) (budget : Int) (h : ∀ s, s < 64 → skipB Y out budget s = true ∨ benTo s W C (R.getD s 0) 64 ≤ 0) (k : Nat) (hk : k ≤ 64) : pickTo W R Y C out budget k = (-1, 0) := by
  induction k with
  | zero => rfl
  | succ k ih =>
    simp only [pickTo, pickOne, ih (by omega)]
    rcases h k (by omega) with h | h
    · rw [if_pos h]
    · split
      · rfl
      · rw [if_neg (by simp only [Bool.and_eq_true, decide_eq_true_eq]; omega)]
theorem choose_none (W R Y : List Int) (facts budget : Int) (h : ∀ s, s < 64 → skipB Y [] budget s = true ∨ benTo s W (cost0 facts) (R.getD s 0) 64 ≤ 0) : chooseL W R Y facts budget = [] := by
  unfold chooseL
  simp only [chooseGo]
  rw [if_pos (by rw [pick_none W R Y _ _ _ h 64 (by omega)]; decide)]
theorem benTo_le0 (s : Int) (W C : List Int) (r : Int) (h : ∀ k, k < 64 → benOne s W C r k ≤ 0) (k : Nat) (hk : k ≤ 64) : benTo s W C r k ≤ 0 := by
  induction k with
  | zero => simp [benTo]
  | succ k ih => have := ih (by omega); have := h k (by omega); simp only [benTo]; omega
theorem none_w (R Y : List Int) (facts budget : Int) : chooseL zeros64 R Y facts budget = [] := by
  apply choose_none
  intro s hs
  refine .inr (benTo_le0 _ _ _ _ (fun k hk => ?_) 64 (by omega))
  unfold benOne
  have : zeros64.getD k 0 = 0 := zeros64_at k
  rw [this]
  split
  · simp [keepZ]
  · omega
theorem none_f (W R Y : List Int) (budget : Int) : chooseL W R Y 0 budget = [] := by
  apply choose_none
  intro s hs
  refine .inr (benTo_le0 _ _ _ _ (fun k hk => ?_) 64 (by omega))
  unfold benOne
  have e : keepZ ((cost0 0).getD k 0) 16777216 = 0 := by
    rw [cost0_at 0 k hk]; rfl
  have h5 := @keepZ_ge (R.getD s 0) 16777216 (by omega)
  rw [e]
  split
  · split
    · simp
    · have : (0 : Int) - keepZ (R.getD s 0) 16777216 = 0 := by omega
      rw [this]; simp
  · omega
theorem none_b (W R Y : List Int) (facts : Int) : chooseL W R Y facts (-1) = [] := by
  apply choose_none
  intro s hs
  left
  have := spaceZ_bd Y s
  simp [skipB]
  omega

/-- somebody asks for what a set covers -/
def askedB (W : List Int) (s : Int) (n : Nat) : Bool := decide (0 < W.getD n 0) && coversB s n
theorem asked_of_gain (s : Int) (W C : List Int) (r : Int) (k : Nat) (h : 0 < benTo s W C r k) : anyTo (askedB W s) k = true := by
  induction k with
  | zero => simp [benTo] at h
  | succ k ih =>
    simp only [benTo] at h
    by_cases h0 : 0 < benTo s W C r k
    · have := ih h0
      simp only [anyTo, List.range_succ, List.any_append, Bool.or_eq_true] at this ⊢
      exact .inl this
    · have h1 : 0 < benOne s W C r k := by omega
      refine anyTo_yes (k := k) (by omega) ?_
      unfold benOne at h1
      split at h1
      · rename_i hc
        have hw : 0 < W.getD k 0 := by
          apply Decidable.byContradiction
          intro hn
          have : keepZ (W.getD k 0) 64 = 0 := by unfold keepZ; split <;> (try split) <;> omega
          rw [this] at h1
          simp at h1
        unfold askedB
        rw [hc]
        simpa using hw
      · omega
theorem chooseGo_all (p : Int → Prop) (W R Y : List Int) (hp : ∀ out b C, 0 ≤ (pickTo W R Y C out b 64).1 → p (pickTo W R Y C out b 64).1) (n : Nat) :
    ∀ out b C, (∀ s ∈ out, p s) → ∀ s ∈ chooseGo W R Y n out b C, p s := by
  induction n with
  | zero => intro out b C h s hs; exact h s (by simpa [chooseGo] using hs)
  | succ n ih =>
    intro out b C h s hs
    simp only [chooseGo] at hs
    split at hs
    · exact h s hs
    · rename_i hn
      refine ih _ _ _ ?_ s hs
      intro t ht
      simp only [List.mem_append, List.mem_singleton] at ht
      rcases ht with ht | rfl
      · exact h t ht
      · exact hp _ _ _ (by omega)
theorem chosen_asked (W R Y : List Int) (facts budget : Int) : ∀ s ∈ chooseL W R Y facts budget, (0 ≤ s ∧ s < 64) ∧ anyTo (askedB W s) 64 = true := by
  refine chooseGo_all _ W R Y (fun out b C h0 => ?_) 16 [] budget (cost0 facts) (by simp)
  have ok := pick_ok W R Y C out b 64
  refine ⟨⟨h0, ok.hi⟩, asked_of_gain _ W C (R.getD (pickTo W R Y C out b 64).1.toNat 0) 64 ?_⟩
  rw [← ok.val h0]
  exact ok.gain h0
theorem anyTo_succ (p : Nat → Bool) (k : Nat) : anyTo p (k + 1) = (anyTo p k || p k) := by simp [anyTo, List.range_succ]

set_option maxRecDepth 100000 in
set_option maxHeartbeats 4000000 in
theorem nothing6 (x : List Int) (w : World) (hx : x.length = 258) (hb0 : -9223372036854775808 ≤ x.getD 257 0) (hb1 : x.getD 257 0 ≤ 9223372036854775807) :
    Calls Try.prog 6 #[.agg (ints x)] w fun e w' => e = .returned (.bool true) ∧ Below w.heap.size w w' := by
  have p0 := Lib.hid (part_len x 0 (by omega))
  have p1 := Lib.hid (part_len x 64 (by omega))
  have p2 := Lib.hid (part_len x 128 (by omega))
  have pz : Hid (zeros64.length = 64) := zeros64_len
  have HX := Lib.hid hx
  have hx1 : 258 ≤ x.length := by omega
  have hzv : ∀ w, (zeroValue 22).run Try.prog w = .ok (.agg (ints zeros64)) w := fun _ => by kernel_rfl
  clear hx
  go_enter Try.func6, Try.ntmps6
  go_wp2_with fail
  have hA0 : Arr (w.alloc (Obj.cells (ints x) 24)) w.heap.size 24 x := Blk.newAt _ _ _ rfl
  have hB0 : Below w.heap.size w (w.alloc (Obj.cells (ints x) 24)) := (Below.refl _ _).alloc (Nat.le_refl _) _
  refine (awake9 _).mono ?_
  rintro e w1 ⟨rfl, hB1⟩
  have hA1 := Blk.below hA0 hB1 (Blk.lt hA0)
  have hA2 : Arr (w1.alloc (Obj.cells (ints zeros64) 22)) w.heap.size 24 x := Blk.alloc hA1 _
  have hZ : Arr (w1.alloc (Obj.cells (ints zeros64) 22)) w1.heap.size 22 zeros64 := Blk.newAt _ _ _ rfl
  have hB3 := hB0.trans (hB1.mono hB0.size)
  have hB2 : Below w.heap.size w (w1.alloc (Obj.cells (ints zeros64) 22)) := hB3.alloc hB3.size _
  obtain ⟨bx, hbx⟩ : ∃ bx, bx = w.heap.size := ⟨_, rfl⟩
  obtain ⟨bz, hbz⟩ : ∃ bz, bz = w1.heap.size := ⟨_, rfl⟩
  have hs2 := hB2.size
  have hA := hA2
  rw [← hbx] at hA hs2 hB2 ⊢
  rw [← hbz] at hZ
  have hlz := Blk.lt hZ
  have hbl := Blk.lt hA
  obtain ⟨f, hf, c256⟩ : ∃ f, Hid (x.getD 256 0 = f) ∧ (w1.alloc (Obj.cells (ints zeros64) 22)).cell? ⟨bx, 256, none⟩ = some (.int .i64 f) := ⟨_, rfl, Arr.cell hA (by omega)⟩
  obtain ⟨u, hu, c257⟩ : ∃ f, Hid (x.getD 257 0 = f) ∧ (w1.alloc (Obj.cells (ints zeros64) 22)).cell? ⟨bx, 257, none⟩ = some (.int .i64 f) := ⟨_, rfl, Arr.cell hA (by omega)⟩
  rw [hu.out] at hb0 hb1
  have HBX := Lib.hid hbx
  have HBZ := Lib.hid hbz
  clear hA0 hB0 hB1 hA1 hA2 hB3
  clear hbz hbx
  go_upto_region 3 with (fail)
  rw [← HBZ.out]
  generalize w1.alloc (Obj.cells (ints zeros64) 22) = w2 at *
  have hA2 := hA
  have hB2x := hB2
  have c2562 := c256
  have c2572 := c257
  clear hA hB2 c256 c257
  go_wp2_with (first | (refine wpList_load_at rfl 22 (.tmp 4) rfl bz 0 rfl (ints zeros64) _ (fun j _ => by rw [Nat.zero_add]; exact Blk.cell hZ j) Try.underlying22 rfl (by rw [size_ints, zeros64_len]; exact Try.info22) ?_) | (refine wpList_load_at rfl 22 (.tmp 14) rfl bx 64 rfl (ints (part x 64)) _ (Arr.part hA2 64 (by omega)) Try.underlying22 rfl (infP x 64 (by omega)) ?_) | (refine wpList_load_at rfl 22 (.tmp 16) rfl bx 128 rfl (ints (part x 128)) _ (Arr.part hA2 128 (by omega)) Try.underlying22 rfl (infP x 128 (by omega)) ?_))
  refine (choose10 _ _ _ _ _ _ pz.out p1.out p2.out hb0 hb1).mono ?_
  rw [none_w]
  rintro e w3 ⟨v3, rfl, own3, hB3⟩
  have hA3 : Arr w3 bx 24 x := Blk.below hA2 hB3 hbl
  have hB3x : Below bx w w3 := hB2x.trans (hB3.mono (Nat.le_of_lt hbl))
  have hs3 := hB3x.size
  have c2563 := (hB3.cell (by exact hbl)).trans c2562
  have c2573 := (hB3.cell (by exact hbl)).trans c2572
  have hbl3 := Blk.lt hA3
  clear hZ hlz hA2 hB2x hB3 c2562 c2572 hbl hs2
  have hbl := hbl3
  clear hbl3
  go_wp2_with (first | (refine wpList_load_at rfl 22 (.tmp 23) rfl bx 0 rfl (ints (part x 0)) _ (Arr.part hA3 0 (by omega)) Try.underlying22 rfl (infP x 0 (by omega)) ?_) | (refine wpList_load_at rfl 22 (.tmp 25) rfl bx 64 rfl (ints (part x 64)) _ (Arr.part hA3 64 (by omega)) Try.underlying22 rfl (infP x 64 (by omega)) ?_) | (refine wpList_load_at rfl 22 (.tmp 27) rfl bx 128 rfl (ints (part x 128)) _ (Arr.part hA3 128 (by omega)) Try.underlying22 rfl (infP x 128 (by omega)) ?_))
  refine (choose10 _ _ _ _ _ _ p0.out p1.out p2.out hb0 hb1).mono ?_
  rw [none_f]
  rintro e w4 ⟨v4, rfl, own4, hB3⟩
  have hA4 : Arr w4 bx 24 x := Blk.below hA3 hB3 hbl
  have hB4x : Below bx w w4 := hB3x.trans (hB3.mono (Nat.le_of_lt hbl))
  have hs4 := hB4x.size
  have c2564 := (hB3.cell (by exact hbl)).trans c2563
  have c2574 := (hB3.cell (by exact hbl)).trans c2573
  have hbl4 := Blk.lt hA4
  have own3 := owns_below own3 hB3 (Nat.le_refl _)
  clear hA3 hB3x hB3 c2563 c2573 hbl hs3
  have hbl := hbl4
  clear hbl4
  go_wp2_with (first | (refine wpList_load_at rfl 22 (.tmp 32) rfl bx 0 rfl (ints (part x 0)) _ (Arr.part hA4 0 (by omega)) Try.underlying22 rfl (infP x 0 (by omega)) ?_) | (refine wpList_load_at rfl 22 (.tmp 34) rfl bx 64 rfl (ints (part x 64)) _ (Arr.part hA4 64 (by omega)) Try.underlying22 rfl (infP x 64 (by omega)) ?_) | (refine wpList_load_at rfl 22 (.tmp 36) rfl bx 128 rfl (ints (part x 128)) _ (Arr.part hA4 128 (by omega)) Try.underlying22 rfl (infP x 128 (by omega)) ?_))
  refine (choose10 _ _ _ _ _ _ p0.out p1.out p2.out (by omega) (by omega)).mono ?_
  rw [none_b]
  rintro e w5 ⟨v5, rfl, own5, hB3⟩
  have hA5 : Arr w5 bx 24 x := Blk.below hA4 hB3 hbl
  have hB5x : Below bx w w5 := hB4x.trans (hB3.mono (Nat.le_of_lt hbl))
  have hs5 := hB5x.size
  have c2565 := (hB3.cell (by exact hbl)).trans c2564
  have c2575 := (hB3.cell (by exact hbl)).trans c2574
  have hbl5 := Blk.lt hA5
  have own3 := owns_below own3 hB3 (Nat.le_refl _)
  have own4 := owns_below own4 hB3 (Nat.le_refl _)
  clear hA4 hB4x hB3 c2564 c2574 hbl hs4
  have hbl := hbl5
  clear hbl5
  go_wp2_with (first | (refine wpList_load_at rfl 22 (.tmp 41) rfl bx 0 rfl (ints (part x 0)) _ (Arr.part hA5 0 (by omega)) Try.underlying22 rfl (infP x 0 (by omega)) ?_) | (refine wpList_load_at rfl 22 (.tmp 43) rfl bx 64 rfl (ints (part x 64)) _ (Arr.part hA5 64 (by omega)) Try.underlying22 rfl (infP x 64 (by omega)) ?_) | (refine wpList_load_at rfl 22 (.tmp 45) rfl bx 128 rfl (ints (part x 128)) _ (Arr.part hA5 128 (by omega)) Try.underlying22 rfl (infP x 128 (by omega)) ?_))
  refine (choose10 _ _ _ _ _ _ p0.out p1.out p2.out hb0 hb1).mono ?_
  rintro e w6 ⟨v6, rfl, own6, hB3⟩
  have hA6 : Arr w6 bx 24 x := Blk.below hA5 hB3 hbl
  have hB6x : Below bx w w6 := hB5x.trans (hB3.mono (Nat.le_of_lt hbl))
  have hs6 := hB6x.size
  have c2566 := (hB3.cell (by exact hbl)).trans c2565
  have c2576 := (hB3.cell (by exact hbl)).trans c2575
  have hbl6 := Blk.lt hA6
  have own3 := owns_below own3 hB3 (Nat.le_refl _)
  have own4 := owns_below own4 hB3 (Nat.le_refl _)
  have own5 := owns_below own5 hB3 (Nat.le_refl _)
  clear hA5 hB5x hB3 c2565 c2575 hbl hs5
  have hbl := hbl6
  clear hbl6
  have hall := chosen_asked (part x 0) (part x 64) (part x 128) f u
  have hlen : (chooseL (part x 0) (part x 64) (part x 128) f u).length ≤ 16 := by have := chooseGo_len (part x 0) (part x 64) (part x 128) 16 [] u (cost0 f); simpa [chooseL] using this
  generalize chooseL (part x 0) (part x 64) (part x 128) f u = L at *
  have HALL := Lib.hid hall
  clear hall
  obtain ⟨a3, k3, hv3, _, _, _⟩ := (RowI.of_owns own3).open
  obtain ⟨a4, k4, hv4, _, _, _⟩ := (RowI.of_owns own4).open
  obtain ⟨a5, k5, hv5, _, _, _⟩ := (RowI.of_owns own5).open
  obtain ⟨a6, k6, hv6, hk6, hm6, hcell⟩ := (RowI.of_owns own6).open
  subst hv3 hv4 hv5 hv6
  clear own3 own4 own5 own6
  go_wp2_with fail
  go_loop [9, 10, 11] (fun i _ _ => ∃ k : Nat, k ≤ L.length ∧ i = .int .i64 k) (fun i _ _ => L.length - (intOf i).toNat)
  case atStart => exact ⟨0, by omega, rfl⟩
  case round =>
    obtain ⟨k, hk, rfl⟩ := hrel
    by_cases hlt : k < L.length
    · obtain ⟨b, off, rfl, hb, hcl⟩ := hcell (by omega)
      obtain ⟨s, hs, ck⟩ : ∃ s, Hid (L.getD k 0 = s) ∧ w6.cell? ⟨b, off + k, none⟩ = some (.int .i64 s) := ⟨_, rfl, hcl k hlt⟩
      have hask := HALL.out s (by rw [← hs.out, List.getD_eq_getElem?_getD, List.getElem?_eq_getElem hlt]; exact List.getElem_mem hlt)
      have HASK := Lib.hid hask.2
      have hltb : decide ((k : Int) < L.length) = true := by simp; omega
      clear hask hcell hcl
      go_wp2_with fail
      go_loop [10, 11] (fun t j => ∃ (m : Nat) (y : Bool), m ≤ 64 ∧ j = .int .i64 m ∧ t = .bool y ∧ Hid (anyTo (askedB (part x 0) s) m = y)) (fun _ j => 64 - (intOf j).toNat)
      case atStart => exact ⟨0, false, by omega, rfl, rfl, rfl⟩
      case round =>
        obtain ⟨m, y, hm, rfl, rfl, hy⟩ := hrel
        by_cases hmt : m < 64
        · have hstep := anyTo_succ (askedB (part x 0) s) m
          rw [hy.out] at hstep
          have HSTEP := Lib.hid hstep
          have hmI : (m : Int) < 64 := by omega
          have hmb : decide ((m : Int) < 64) = true := by simpa using hmI
          obtain ⟨c, hc, cm⟩ : ∃ c, Hid ((part x 0).getD m 0 = c) ∧ w6.cell? ⟨bx, m, none⟩ = some (.int .i64 c) := ⟨_, rfl, by
            have := Arr.cell hA6 (j := m) (by omega)
            rw [this]; simp [part, List.getD_eq_getElem?_getD, List.getElem?_take, hmt]⟩
          clear hstep
          cases y
          · by_cases hcp : 0 < c
            · have hcb : decide (0 < c) = true := by simpa using hcp
              go_wp2_with (go_at_call 16; refine (covers16 _ _ _).mono ?_; rintro e w' ⟨rfl, rfl⟩)
              go_round
              case rel => exact ⟨m + 1, coversB s m, by omega, by go_num, rfl, by rw [HSTEP.out]; unfold askedB; rw [hc.out, hcb]; simp [Hid]⟩
              case measure => simp [intOf]; omega
            · have hcb : decide (0 < c) = false := by simpa using hcp
              go_wp2_with fail
              go_round
              case rel => exact ⟨m + 1, false, by omega, by go_num, rfl, by rw [HSTEP.out]; unfold askedB; rw [hc.out, hcb]; simp [Hid]⟩
              case measure => simp [intOf]; omega
          · go_wp2_with fail
            go_round
            case rel => exact ⟨m + 1, true, by omega, by go_num, rfl, by rw [HSTEP.out]; rfl⟩
            case measure => simp [intOf]; omega
        · obtain rfl : m = 64 := by omega
          obtain rfl : true = y := HASK.out.symm.trans hy.out
          go_wp2_with fail
          go_round
          case rel => exact ⟨k + 1, by omega, by go_num⟩
          case measure => simp [intOf]; omega
    · go_wp2_with fail
      go_ret
      have e := HBX.out
      rw [e] at hB6x
      exact ⟨rfl, hB6x⟩

theorem nothingLaw (x : List Int) (w : World) (hx : x.length = 258) (hw : ∀ y ∈ x, (Lit.int .i64 y).wf = true) :
    Calls Try.prog 6 #[.agg (ints x)] w fun e w' => e = .returned (.bool true) ∧ Below w.heap.size w w' :=
  nothing6 x w hx (getD_bd hw 257 (by omega)).1 (getD_bd hw 257 (by omega)).2

end Go.Proofs.Ytfgnmcmkjfnogaa
