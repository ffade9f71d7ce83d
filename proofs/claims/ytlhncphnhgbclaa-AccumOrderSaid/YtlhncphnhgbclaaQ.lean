/- AccumOrder: the walk. -/
import Derived.Test.YtlhncphnhgbclaaP
import Derived.Test.YtlhncphnhgbclaaBase11
namespace Go.Proofs.Ytlhncphnhgbclaa
open Go.RowKit
set_option linter.unusedVariables false
set_option linter.unusedSimpArgs false

/-- an accumulator of one measure in a variable -/
structure Bx (wr : World) (B7 B8 B9 b : Nat) (k : Nat) (p : Prt) (v : Value) : Prop where
  blk : Blk wr b 39 #[.int .i64 (k : Int), v]
  own : wr.ownsRow 0 46 5 v 1 (partsC [p])
  ne : ∀ g, v.ownBlock = some g → g ≠ B7 ∧ g ≠ B8 ∧ g ≠ B9
theorem Bx.below {wr wr' : World} {B7 B8 B9 b k : Nat} {p : Prt} {v : Value} (h : Bx wr B7 B8 B9 b k p v) (hb : Below wr.heap.size wr wr') : Bx wr' B7 B8 B9 b k p v :=
  ⟨Blk.below h.blk hb (Blk.lt h.blk), owns_below h.own hb (Nat.le_refl _), h.ne⟩
theorem Bx.other {wr : World} {B7 B8 B9 b k : Nat} {p : Prt} {v : Value} (h : Bx wr B7 B8 B9 b k p v) {g : Nat} (hg : g = B7 ∨ g = B8 ∨ g = B9) (hb : b ≠ g) (cs : Array Value) : Bx (wr.setRow g cs) B7 B8 B9 b k p v := by
  refine ⟨Blk.otherRow h.blk hb, ⟨h.own.1, ?_⟩, h.ne⟩
  rcases h.own.2 with h2 | ⟨g2, cap, cur, hv, h0, hh, r⟩
  · exact .inl h2
  · have := h.ne g2 (by rw [hv]; rfl)
    exact .inr ⟨g2, cap, cur, hv, h0, (setRow_other wr g g2 _ (by rcases hg with e | e | e <;> omega)).trans hh, r⟩
theorem Bx.row {wr : World} {B7 B8 B9 b k : Nat} {p : Prt} {v : Value} (h : Bx wr B7 B8 B9 b k p v) : RowP wr.heap.size wr v [p] := Row.of_owns h.own
theorem Bx.som {wr : World} {B7 B8 B9 b k : Nat} {p : Prt} {v : Value} (h : Bx wr B7 B8 B9 b k p v) : Som v [p].length := owns_som h.own
/-- a number more -/
theorem Bx.taken {w3 : World} {B7 B8 B9 b k : Nat} {p : Prt} {v v' : Value} {x c : Int} {base : Nat} (h : Bx w3 B7 B8 B9 b k p v) (hb : b = B7 ∨ b = B8 ∨ b = B9) (hB : B7 < base ∧ B8 < base ∧ B9 < base) (hc : c = ((k + 1 : Nat) : Int))
    (hown : w3.ownsRow base 46 5 v' [p].length (partsC (takeL [p] [x]))) : Bx (w3.setRow b #[.int .i64 c, v']) B7 B8 B9 b (k + 1) (takeP p x) v' := by
  subst hc
  have hne : ∀ g, v'.ownBlock = some g → g ≠ B7 ∧ g ≠ B8 ∧ g ≠ B9 := fun g hg => by have := (hown.lt g hg).1; omega
  refine ⟨Blk.setRow h.blk, ⟨by have := hown.1; exact this, ?_⟩, hne⟩
  rcases hown.2 with ⟨_, h2⟩ | ⟨g2, cap, cur, hv, h0, hh, r⟩
  · simp at h2
  · have := hne g2 (by rw [hv]; rfl)
    exact .inr ⟨g2, cap, cur, hv, Nat.zero_le _, (setRow_other w3 b g2 _ (by rcases hb with e | e | e <;> omega)).trans hh, r⟩

set_option maxRecDepth 100000 in
set_option maxHeartbeats 8000000 in
theorem order7 (v : Value) (ms : List Int) (turn : Int) (w : World) (h1 : RowI w.heap.size w v ms) (hms : ∀ i, i < ms.length → -9223372036854775808 ≤ ms.getD i 0 ∧ ms.getD i 0 ≤ 9223372036854775807) (ht : -9223372036854775808 ≤ turn ∧ turn ≤ 9223372036854775807) :
    Calls Try.prog 7 #[v, .int .i64 turn] w fun e w' => e = .returned (.bool true) ∧ Below w.heap.size w w' := by
  obtain ⟨a1, cap1, rfl, hcap1, hmax1, hc1⟩ := h1.open
  have HC1 := Lib.hid hc1
  have HMS := Lib.hid hms
  obtain ⟨K, hK, hK0, hKc⟩ : ∃ K : Int, (K = if turn < 0 then -(turn + 1) else turn) ∧ 0 ≤ K ∧ K ≤ 9223372036854775807 := ⟨_, rfl, by split <;> omega, by split <;> omega⟩
  clear hc1 hms h1
  have start : ∀ (d : Bool), True := fun _ => trivial
  by_cases h200 : 200 < ms.length
  · have g200 : decide ((200 : Int) < ms.length) = true := by simp; omega
    by_cases ht0 : turn < 0
    · obtain ⟨n, hn⟩ : ∃ n : Nat, n = 200 := ⟨200, rfl⟩
      have hnle : n ≤ 200 := by omega
      have hnm : n ≤ ms.length := by omega
      have HNN := Lib.hid hn
      clear hn
      have gt0 : decide (turn < 0) = true := by simpa using ht0
      have hKt : K = -(turn + 1) := by rw [hK, if_pos ht0]
      have kw : IntKind.i64.wrap (turn + 1) = turn + 1 := IntWalk.i64_in _ (by omega)
      have kn2 : -(turn + 1) = K := hKt.symm
      have kn : IntKind.i64.wrap K = K := IntWalk.i64_in _ (by omega)
      clear hK hKt
      go_enter Try.func7, Try.ntmps7
      go_wp2_with fail
      refine (awake10 _).mono ?_
      rintro e w1 ⟨rfl, hX1⟩
      go_wp2_with fail
      refine (new21 1 1 _ (by decide) (by omega)).mono ?_
      rintro e w2 ⟨va, rfl, own7, hX2⟩
      obtain ⟨aa', ca', rfl⟩ := owns_form own7
      go_upto_region 6 with (fail)
      have hX3 := Below.al (Below.call hX1 hX2) (Obj.cells #[.int .i64 0, (.slice aa' 1 ca')] 39)
      have hb7 : Blk (w2.alloc (Obj.cells #[.int .i64 0, (.slice aa' 1 ca')] 39)) w2.heap.size 39 #[.int .i64 0, (.slice aa' 1 ca')] := Blk.newAt _ _ _ rfl
      have hs2 : w.heap.size ≤ w2.heap.size := (Below.call hX1 hX2).size
      have own7' := owns_base (owns_below own7 (Below.al (Below.refl _ _) (Obj.cells #[.int .i64 0, (.slice aa' 1 ca')] 39)) (Nat.le_refl _)) (Nat.zero_le _)
      have ne7 : ∀ g, (Value.slice aa' 1 ca').ownBlock = some g → g < w2.heap.size := fun g hg => (own7.lt g hg).2
      obtain ⟨B7, hB7⟩ : ∃ b, b = w2.heap.size := ⟨_, rfl⟩
      have hl7 : B7 < (w2.alloc (Obj.cells #[.int .i64 0, (.slice aa' 1 ca')] 39)).heap.size := by rw [hB7]; simp
      rw [← hB7] at hb7 ne7 hs2 ⊢
      generalize w2.alloc (Obj.cells #[.int .i64 0, (.slice aa' 1 ca')] 39) = w3 at *
      clear hX1 hX2 own7 hB7
      go_wp2_with fail
      refine (new21 1 1 _ (by decide) (by omega)).mono ?_
      rintro e w4 ⟨vb, rfl, own8, hX4⟩
      obtain ⟨ab', cb', rfl⟩ := owns_form own8
      go_upto_region 7 with (fail)
      have hX5 := Below.al (Below.call hX3 hX4) (Obj.cells #[.int .i64 0, (.slice ab' 1 cb')] 39)
      have hD4 := Below.al hX4 (Obj.cells #[.int .i64 0, (.slice ab' 1 cb')] 39)
      have hb7' := Blk.below hb7 hD4 hl7
      have own7'' := owns_below own7' hD4 (Nat.le_refl _)
      have hb8 : Blk (w4.alloc (Obj.cells #[.int .i64 0, (.slice ab' 1 cb')] 39)) w4.heap.size 39 #[.int .i64 0, (.slice ab' 1 cb')] := Blk.newAt _ _ _ rfl
      have own8' := owns_base (owns_below own8 (Below.al (Below.refl _ _) (Obj.cells #[.int .i64 0, (.slice ab' 1 cb')] 39)) (Nat.le_refl _)) (Nat.zero_le _)
      have ne8 : ∀ g, (Value.slice ab' 1 cb').ownBlock = some g → w3.heap.size ≤ g ∧ g < w4.heap.size := fun g hg => own8.lt g hg
      have h34 := hX4.size
      obtain ⟨B8, hB8⟩ : ∃ b, b = w4.heap.size := ⟨_, rfl⟩
      have hl8 : B8 < (w4.alloc (Obj.cells #[.int .i64 0, (.slice ab' 1 cb')] 39)).heap.size := by rw [hB8]; simp
      have hB78 : B7 < B8 := by omega
      have ne8' : ∀ g, (Value.slice ab' 1 cb').ownBlock = some g → B7 < g ∧ g < B8 := fun g hg => by have := ne8 g hg; omega
      rw [← hB8] at hb8 ⊢
      generalize w4.alloc (Obj.cells #[.int .i64 0, (.slice ab' 1 cb')] 39) = w5 at *
      clear hX3 hX4 own8 hB8 hb7 own7' hD4 ne8 h34 hl7
      go_wp2_with fail
      refine (new21 1 1 _ (by decide) (by omega)).mono ?_
      rintro e w6 ⟨vc, rfl, own9, hX6⟩
      obtain ⟨ac', cc', rfl⟩ := owns_form own9
      go_upto_region 8 with (fail)
      have hX7 := Below.al (Below.call hX5 hX6) (Obj.cells #[.int .i64 0, (.slice ac' 1 cc')] 39)
      have hD6 := Below.al hX6 (Obj.cells #[.int .i64 0, (.slice ac' 1 cc')] 39)
      have hb7e := Blk.below hb7' hD6 (Blk.lt hb7')
      have hb8e := Blk.below hb8 hD6 hl8
      have own7e := owns_below own7'' hD6 (Nat.le_refl _)
      have own8e := owns_below own8' hD6 (Nat.le_refl _)
      have hb9e : Blk (w6.alloc (Obj.cells #[.int .i64 0, (.slice ac' 1 cc')] 39)) w6.heap.size 39 #[.int .i64 0, (.slice ac' 1 cc')] := Blk.newAt _ _ _ rfl
      have own9e := owns_base (owns_below own9 (Below.al (Below.refl _ _) (Obj.cells #[.int .i64 0, (.slice ac' 1 cc')] 39)) (Nat.le_refl _)) (Nat.zero_le _)
      have ne9 : ∀ g, (Value.slice ac' 1 cc').ownBlock = some g → w5.heap.size ≤ g ∧ g < w6.heap.size := fun g hg => own9.lt g hg
      have h56 := hX6.size
      obtain ⟨B9, hB9⟩ : ∃ b, b = w6.heap.size := ⟨_, rfl⟩
      have hB89 : B8 < B9 := by omega
      have ne9' : ∀ g, (Value.slice ac' 1 cc').ownBlock = some g → B8 < g ∧ g < B9 := fun g hg => by have := ne9 g hg; omega
      rw [← hB9] at hb9e ⊢
      generalize w6.alloc (Obj.cells #[.int .i64 0, (.slice ac' 1 cc')] 39) = w7 at *
      have HA : Hid (Bx w7 B7 B8 B9 B7 0 zeroP (.slice aa' 1 ca')) := ⟨hb7e, own7e, fun g hg => by have := ne7 g hg; omega⟩
      have HB : Hid (Bx w7 B7 B8 B9 B8 0 zeroP (.slice ab' 1 cb')) := ⟨hb8e, own8e, fun g hg => by have := ne8' g hg; omega⟩
      have HC : Hid (Bx w7 B7 B8 B9 B9 0 zeroP (.slice ac' 1 cc')) := ⟨hb9e, own9e, fun g hg => by have := ne9' g hg; omega⟩
      have HX := Lib.hid hX7
      have hBB : w.heap.size ≤ B7 ∧ B7 < B8 ∧ B8 < B9 := ⟨hs2, hB78, hB89⟩
      obtain ⟨q, hq⟩ : ∃ q : Nat, q = K.toNat % n := ⟨_, rfl⟩
      have hqn : 0 < n → K.tmod (n : Int) = (q : Int) ∧ q < n := by
        intro h
        refine ⟨?_, by rw [hq]; exact Nat.mod_lt _ h⟩
        have h2 := (Int.ofNat_tmod K.toNat n).symm
        rw [Int.toNat_of_nonneg hK0] at h2
        rw [h2, hq]
      clear hX5 hX6 own9 hB9 hb7' hb8 own7'' own8' hD6 ne9 h56 hl8 hb7e hb8e hb9e own7e own8e own9e ne7 ne8' ne9' hX7 hs2 hB78 hB89 hq
      go_wp2_with fail
      rw [show (Value.int .i64 200) = Value.int .i64 ((n : Nat) : Int) from by rw [HNN.out]; rfl]
      go_loopw [11] (fun i wr => ∃ (k : Nat) (va vb vc : Value) (pa pb pc : Prt), k ≤ n ∧ i = .int .i64 k ∧ Bx wr B7 B8 B9 B7 k pa va ∧ Bx wr B7 B8 B9 B8 k pb vb ∧ Bx wr B7 B8 B9 B9 k pc vc ∧
        Hid (foldF (fun i => ms.getD i 0) k = pa) ∧ Hid (foldF (fun i => ms.getD (n - 1 - i) 0) k = pb) ∧ Hid (foldF (fun i => ms.getD ((i + q) % n) 0) k = pc) ∧ Below w.heap.size w wr) (fun i _ => n - (intOf i).toNat)
      case atStart => exact ⟨0, _, _, _, zeroP, zeroP, zeroP, by omega, rfl, HA.out, HB.out, HC.out, rfl, rfl, rfl, HX.out⟩
      case round =>
        obtain ⟨k, va, vb, vc, pa, pb, pc, hk, rfl, hA, hB, hC, hpa, hpb, hpc, hBq⟩ := hrel
        obtain ⟨wq, hwq⟩ : ∃ wq : World, wq = wr := ⟨_, rfl⟩
        rw [← hwq] at hA hB hC hBq ⊢
        clear hwq
        by_cases hlt : k < n
        · have d1 : decide ((k : Int) < n) = true := by simp; omega
          have hn0 : ((n : Int) == 0) = false := beq_eq_false_iff_ne.2 (by omega)
          have hne : ¬ ms = [] := fun h => by have h5 : ms.length = 0 := by rw [h]; rfl
                                              omega
          have hnz : ¬ n = 0 := by omega
          have hql := (hqn (by omega)).2
          obtain ⟨j1, hj1⟩ : ∃ j, n - 1 - k = j := ⟨_, rfl⟩
          obtain ⟨j2, hj2⟩ : ∃ j, (k + q) % n = j := ⟨_, rfl⟩
          have hnp : 0 < n := by omega
          have hq2 := hqn hnp
          have hj1l : j1 < n := by omega
          have hj2l : j2 < n := by rw [← hj2]; exact Nat.mod_lt _ hnp
          have i1 : (n : Int) - 1 - (k : Int) = (j1 : Int) := by omega
          have i2 : K.tmod (n : Int) = (q : Int) := hq2.1
          have i3 : ((k : Int) + (q : Int)).tmod (n : Int) = (j2 : Int) := by
            have h := (Int.ofNat_tmod (k + q) n).symm
            rw [hj2] at h
            simpa using h
          obtain ⟨cn, hcn⟩ : ∃ c : Int, wrap64 ((k : Int) + 1) = c := ⟨_, rfl⟩
          have hcnt : cn = ((k + 1 : Nat) : Int) := by rw [← hcn, w64 (by omega)]; omega
          have HCN := Lib.hid hcn
          clear hcn
          have HI1 := Lib.hid i1
          have HI2 := Lib.hid i2
          have HI3 := Lib.hid i3
          have dk : decide ((k : Int) < ms.length) = true := by simp; omega
          have dj1 : decide ((j1 : Int) < ms.length) = true := by simp; omega
          have dj2 : decide ((j2 : Int) < ms.length) = true := by simp; omega
          obtain ⟨b', off, rfl, hb', hcl⟩ := HC1.out (by omega)
          obtain ⟨x, hx⟩ : ∃ x, ms.getD k 0 = x := ⟨_, rfl⟩
          obtain ⟨y, hy⟩ : ∃ x, ms.getD j1 0 = x := ⟨_, rfl⟩
          obtain ⟨z, hz⟩ : ∃ x, ms.getD j2 0 = x := ⟨_, rfl⟩
          have hx64x := HMS.out k (by omega)
          have hx64y := HMS.out j1 (by omega)
          have hx64z := HMS.out j2 (by omega)
          rw [hx] at hx64x
          rw [hy] at hx64y
          rw [hz] at hx64z
          have rx := hcl k (by omega)
          have ry := hcl j1 (by omega)
          have rz := hcl j2 (by omega)
          rw [hx] at rx
          rw [hy] at ry
          rw [hz] at rz
          have sa : Hid (foldF (fun i => ms.getD i 0) (k + 1) = takeP pa x) := by rw [Hid, foldF_step, hpa.out, hx]
          have sb : Hid (foldF (fun i => ms.getD (n - 1 - i) 0) (k + 1) = takeP pb y) := by rw [Hid, foldF_step, hpb.out, hj1, hy]
          have sc : Hid (foldF (fun i => ms.getD ((i + q) % n) 0) (k + 1) = takeP pc z) := by rw [Hid, foldF_step, hpc.out, hj2, hz]
          have hw0 : w.heap.size ≤ B7 ∧ B7 < B8 ∧ B8 < B9 := hBB
          clear hcl hx hy hz hpa hpb hpc hq2 hj1 hj2 i1 i2 i3
          have cmx : wq.cell? ⟨b', off + k, none⟩ = some (.int .i64 x) := (hBq.cell (by exact hb')).trans rx
          go_wp2_with fail
          refine hp_start (fun w' => Below w.heap.size wq w') 8 rfl (by kernel_rfl) (fun c a a' w hd h => ⟨hd ▸ h.1, h.2⟩) (fun hP => ?_)
          rw [show Array.replicate 8 false = #[false, false, false, false, false, false, false, false] from rfl]
          have HS0 : Below w.heap.size wq wq.drew := (Below.refl _ _).drew
          refine hp_take hP 1 (some 34) _ rfl rfl (by kernel_rfl) rfl (fun w' hS' => by go_simp; rfl) HS0 ?_
          simp only [Act.put, List.setIfInBounds_toArray, List.set_cons_zero, List.set_cons_succ]
          refine hp_take hP 2 (some 35) _ rfl rfl (by kernel_rfl) rfl (fun w' hS' => by go_simp; rfl) HS0 ?_
          simp only [Act.put, List.setIfInBounds_toArray, List.set_cons_zero, List.set_cons_succ]
          refine hp_take hP 3 (some 36) (.pointer (some ⟨b', off + k, none⟩)) rfl rfl (by kernel_rfl) rfl (fun w' hS' => by go_simp <;> (intro h; omega)) HS0 ?_
          simp only [Act.put, List.setIfInBounds_toArray, List.set_cons_zero, List.set_cons_succ]
          refine hp_take hP 4 (some 37) _ rfl rfl (by kernel_rfl) rfl (fun w' hS' => by have cc := (hS'.cell (show b' < w.heap.size by omega)).trans cmx; go_simp; rfl) HS0 ?_
          simp only [Act.put, List.setIfInBounds_toArray, List.set_cons_zero, List.set_cons_succ]
          have hlq : w.heap.size ≤ wq.heap.size := hBq.size
          refine hp_pair 0 5 33 38 (.agg #[.int .i64 (k : Int), va]) (.slice (some ⟨wq.heap.size, 0, none⟩) 1 1) (wq.drew.alloc (Obj.cells #[.int .i64 x] 2)) (by decide) (by decide) rfl rfl rfl rfl (by kernel_rfl) (by kernel_rfl) (by kernel_rfl) rfl rfl (exec_load_at (w := wq.drew) 39 (.tmp 7) rfl B7 0 rfl #[.int .i64 (k : Int), va] _ (fun i _ => by rw [Nat.zero_add]; exact Blk.cell (Blk.drew hA.blk) i) Try.underlying39 rfl info39) (exec_load_at (w := wq.drew.alloc (Obj.cells #[.int .i64 x] 2)) 39 (.tmp 7) rfl B7 0 rfl #[.int .i64 (k : Int), va] _ (fun i _ => by rw [Nat.zero_add]; exact Blk.cell (Blk.alloc (Blk.drew hA.blk) _) i) Try.underlying39 rfl info39) (by go_simp) (by go_simp) HS0 (HS0.alloc hlq _) ?_
          simp only [Act.put, List.setIfInBounds_toArray, List.set_cons_zero, List.set_cons_succ]
          have hD := Below.al (Below.drew (Below.refl wq.heap.size wq)) (Obj.cells #[.int .i64 x] 2)
          have g0 := Bx.below hA hD
          have g1 := Bx.below hB hD
          have g2 := Bx.below hC hD
          have HS1 : Below w.heap.size wq (wq.drew.alloc (Obj.cells #[.int .i64 x] 2)) := HS0.alloc hlq _
          refine hp_call 6 (some 39) rfl rfl (by kernel_rfl) rfl 27 #[.agg #[.int .i64 (k : Int), va], .slice (some ⟨wq.heap.size, 0, none⟩) 1 1] (by go_simp) ((take27 [pa] [x] k va _ _ g0.row g0.som (rowI_one wq.drew x) (by simp) (one_in x hx64x)).mono ?_)
          rw [HCN.out]
          rintro e w3 ⟨v', rfl, hown, hB3⟩
          have HS2 : Below w.heap.size wq w3 := HS1.trans (hB3.mono (Nat.le_trans hlq hD.size))
          have f0 := Bx.taken (c := cn) (g0.below hB3) (by simp) ⟨Blk.lt g0.blk, Blk.lt g1.blk, Blk.lt g2.blk⟩ hcnt hown
          have f1 := Bx.other (g1.below hB3) (g := B7) (by simp) (by omega) #[.int .i64 cn, v']
          have f2 := Bx.other (g2.below hB3) (g := B7) (by simp) (by omega) #[.int .i64 cn, v']
          refine ⟨_, rfl, HS2, ?_⟩
          simp only [Act.put, List.setIfInBounds_toArray, List.set_cons_zero, List.set_cons_succ]
          refine hp_store_row 7 rfl rfl (by kernel_rfl) rfl 39 _ _ rfl B7 #[.int .i64 cn, v'] rfl rfl 39 _ (g0.below hB3).blk info39 rfl (by have := owns_form hown; obtain ⟨a, c, rfl⟩ := this; simp [Value.oneCell']) (Below.setRow HS2 (by omega) _) ?_
          simp only [List.setIfInBounds_toArray, List.set_cons_zero, List.set_cons_succ]
          refine hk_done (by kernel_rfl) ?_
          have hBz : Below w.heap.size w (w3.setRow B7 #[.int .i64 cn, v']) := hBq.trans (Below.setRow HS2 (by omega) _)
          generalize w3.setRow B7 #[.int .i64 cn, v'] = wz at *
          clear g0 g1 g2 hD HS0 HS1 HS2 hB3 hown hP hlq hA hB hC hBq
          have cmy : wz.cell? ⟨b', off + j1, none⟩ = some (.int .i64 y) := (hBz.cell (by exact hb')).trans ry
          clear cmx rx
          have hBq := hBz
          obtain ⟨wq, hwq⟩ : ∃ wq : World, wq = wz := ⟨_, rfl⟩
          rw [← hwq] at f0 f1 f2 hBq cmy ⊢
          clear hwq hBz
          have hA := f0
          have hB := f1
          have hC := f2
          clear f0 f1 f2
          go_wp2_with fail
          refine hp_start (fun w' => Below w.heap.size wq w') 11 rfl (by kernel_rfl) (fun c a a' w hd h => ⟨hd ▸ h.1, h.2⟩) (fun hP => ?_)
          rw [show Array.replicate 11 false = #[false, false, false, false, false, false, false, false, false, false, false] from rfl]
          have HS0 : Below w.heap.size wq wq.drew := (Below.refl _ _).drew
          refine hp_take hP 1 (some 41) _ rfl rfl (by kernel_rfl) rfl (fun w' hS' => by go_simp; rfl) HS0 ?_
          simp only [Act.put, List.setIfInBounds_toArray, List.set_cons_zero, List.set_cons_succ]
          refine hp_take hP 2 (some 42) _ rfl rfl (by kernel_rfl) rfl (fun w' hS' => by go_simp; rfl) HS0 ?_
          simp only [Act.put, List.setIfInBounds_toArray, List.set_cons_zero, List.set_cons_succ]
          refine hp_take hP 3 (some 43) (.int .i64 ((n : Int) - 1)) rfl rfl (by kernel_rfl) rfl (fun w' hS' => by go_simp <;> exact IntWalk.i64_in _ (by omega)) HS0 ?_
          simp only [Act.put, List.setIfInBounds_toArray, List.set_cons_zero, List.set_cons_succ]
          refine hp_take hP 4 (some 44) _ rfl rfl (by kernel_rfl) rfl (fun w' hS' => by go_simp; rfl) HS0 ?_
          simp only [Act.put, List.setIfInBounds_toArray, List.set_cons_zero, List.set_cons_succ]
          refine hp_take hP 5 (some 45) (.int .i64 (j1 : Int)) rfl rfl (by kernel_rfl) rfl (fun w' hS' => by have h2 := HI1.out; go_simp <;> (first | exact h2 | (rw [IntWalk.i64_in _ (by omega)] <;> exact h2))) HS0 ?_
          simp only [Act.put, List.setIfInBounds_toArray, List.set_cons_zero, List.set_cons_succ]
          refine hp_take hP 6 (some 46) (.pointer (some ⟨b', off + j1, none⟩)) rfl rfl (by kernel_rfl) rfl (fun w' hS' => by go_simp <;> (intro h; omega)) HS0 ?_
          simp only [Act.put, List.setIfInBounds_toArray, List.set_cons_zero, List.set_cons_succ]
          refine hp_take hP 7 (some 47) _ rfl rfl (by kernel_rfl) rfl (fun w' hS' => by have cc := (hS'.cell (show b' < w.heap.size by omega)).trans cmy; go_simp; rfl) HS0 ?_
          simp only [Act.put, List.setIfInBounds_toArray, List.set_cons_zero, List.set_cons_succ]
          have hlq : w.heap.size ≤ wq.heap.size := hBq.size
          refine hp_pair 0 8 40 48 (.agg #[.int .i64 (k : Int), vb]) (.slice (some ⟨wq.heap.size, 0, none⟩) 1 1) (wq.drew.alloc (Obj.cells #[.int .i64 y] 2)) (by decide) (by decide) rfl rfl rfl rfl (by kernel_rfl) (by kernel_rfl) (by kernel_rfl) rfl rfl (exec_load_at (w := wq.drew) 39 (.tmp 8) rfl B8 0 rfl #[.int .i64 (k : Int), vb] _ (fun i _ => by rw [Nat.zero_add]; exact Blk.cell (Blk.drew hB.blk) i) Try.underlying39 rfl info39) (exec_load_at (w := wq.drew.alloc (Obj.cells #[.int .i64 y] 2)) 39 (.tmp 8) rfl B8 0 rfl #[.int .i64 (k : Int), vb] _ (fun i _ => by rw [Nat.zero_add]; exact Blk.cell (Blk.alloc (Blk.drew hB.blk) _) i) Try.underlying39 rfl info39) (by go_simp) (by go_simp) HS0 (HS0.alloc hlq _) ?_
          simp only [Act.put, List.setIfInBounds_toArray, List.set_cons_zero, List.set_cons_succ]
          have hD := Below.al (Below.drew (Below.refl wq.heap.size wq)) (Obj.cells #[.int .i64 y] 2)
          have g0 := Bx.below hB hD
          have g1 := Bx.below hA hD
          have g2 := Bx.below hC hD
          have HS1 : Below w.heap.size wq (wq.drew.alloc (Obj.cells #[.int .i64 y] 2)) := HS0.alloc hlq _
          refine hp_call 9 (some 49) rfl rfl (by kernel_rfl) rfl 27 #[.agg #[.int .i64 (k : Int), vb], .slice (some ⟨wq.heap.size, 0, none⟩) 1 1] (by go_simp) ((take27 [pb] [y] k vb _ _ g0.row g0.som (rowI_one wq.drew y) (by simp) (one_in y hx64y)).mono ?_)
          rw [HCN.out]
          rintro e w3 ⟨v', rfl, hown, hB3⟩
          have HS2 : Below w.heap.size wq w3 := HS1.trans (hB3.mono (Nat.le_trans hlq hD.size))
          have f0 := Bx.taken (c := cn) (g0.below hB3) (by simp) ⟨Blk.lt g1.blk, Blk.lt g0.blk, Blk.lt g2.blk⟩ hcnt hown
          have f1 := Bx.other (g1.below hB3) (g := B8) (by simp) (by omega) #[.int .i64 cn, v']
          have f2 := Bx.other (g2.below hB3) (g := B8) (by simp) (by omega) #[.int .i64 cn, v']
          refine ⟨_, rfl, HS2, ?_⟩
          simp only [Act.put, List.setIfInBounds_toArray, List.set_cons_zero, List.set_cons_succ]
          refine hp_store_row 10 rfl rfl (by kernel_rfl) rfl 39 _ _ rfl B8 #[.int .i64 cn, v'] rfl rfl 39 _ (g0.below hB3).blk info39 rfl (by have := owns_form hown; obtain ⟨a, c, rfl⟩ := this; simp [Value.oneCell']) (Below.setRow HS2 (by omega) _) ?_
          simp only [List.setIfInBounds_toArray, List.set_cons_zero, List.set_cons_succ]
          refine hk_done (by kernel_rfl) ?_
          have hBz : Below w.heap.size w (w3.setRow B8 #[.int .i64 cn, v']) := hBq.trans (Below.setRow HS2 (by omega) _)
          generalize w3.setRow B8 #[.int .i64 cn, v'] = wz at *
          clear g0 g1 g2 hD HS0 HS1 HS2 hB3 hown hP hlq hB hA hC hBq
          have cmz : wz.cell? ⟨b', off + j2, none⟩ = some (.int .i64 z) := (hBz.cell (by exact hb')).trans rz
          clear cmy ry
          have hBq := hBz
          obtain ⟨wq, hwq⟩ : ∃ wq : World, wq = wz := ⟨_, rfl⟩
          rw [← hwq] at f0 f1 f2 hBq cmz ⊢
          clear hwq hBz
          have hB := f0
          have hA := f1
          have hC := f2
          clear f0 f1 f2
          go_wp2_with fail
          refine hp_start (fun w' => Below w.heap.size wq w') 14 rfl (by kernel_rfl) (fun c a a' w hd h => ⟨hd ▸ h.1, h.2⟩) (fun hP => ?_)
          rw [show Array.replicate 14 false = #[false, false, false, false, false, false, false, false, false, false, false, false, false, false] from rfl]
          have HS0 : Below w.heap.size wq wq.drew := (Below.refl _ _).drew
          refine hp_take hP 1 (some 51) _ rfl rfl (by kernel_rfl) rfl (fun w' hS' => by go_simp; rfl) HS0 ?_
          simp only [Act.put, List.setIfInBounds_toArray, List.set_cons_zero, List.set_cons_succ]
          refine hp_take hP 2 (some 52) _ rfl rfl (by kernel_rfl) rfl (fun w' hS' => by go_simp; rfl) HS0 ?_
          simp only [Act.put, List.setIfInBounds_toArray, List.set_cons_zero, List.set_cons_succ]
          refine hp_take hP 3 (some 53) _ rfl rfl (by kernel_rfl) rfl (fun w' hS' => by go_simp; rfl) HS0 ?_
          simp only [Act.put, List.setIfInBounds_toArray, List.set_cons_zero, List.set_cons_succ]
          refine hp_take hP 4 (some 54) _ rfl rfl (by kernel_rfl) rfl (fun w' hS' => by go_simp; rfl) HS0 ?_
          simp only [Act.put, List.setIfInBounds_toArray, List.set_cons_zero, List.set_cons_succ]
          refine hp_take hP 5 (some 55) (.int .i64 (q : Int)) rfl rfl (by kernel_rfl) rfl (fun w' hS' => by have h2 := HI2.out; go_simp <;> (first | exact hne | exact hnz)) HS0 ?_
          simp only [Act.put, List.setIfInBounds_toArray, List.set_cons_zero, List.set_cons_succ]
          refine hp_take hP 6 (some 56) (.int .i64 ((k : Int) + q)) rfl rfl (by kernel_rfl) rfl (fun w' hS' => by go_simp <;> exact IntWalk.i64_in _ (by omega)) HS0 ?_
          simp only [Act.put, List.setIfInBounds_toArray, List.set_cons_zero, List.set_cons_succ]
          refine hp_take hP 7 (some 57) _ rfl rfl (by kernel_rfl) rfl (fun w' hS' => by go_simp; rfl) HS0 ?_
          simp only [Act.put, List.setIfInBounds_toArray, List.set_cons_zero, List.set_cons_succ]
          refine hp_take hP 8 (some 58) (.int .i64 (j2 : Int)) rfl rfl (by kernel_rfl) rfl (fun w' hS' => by have h2 := HI3.out; go_simp <;> (first | exact hne | exact hnz)) HS0 ?_
          simp only [Act.put, List.setIfInBounds_toArray, List.set_cons_zero, List.set_cons_succ]
          refine hp_take hP 9 (some 59) (.pointer (some ⟨b', off + j2, none⟩)) rfl rfl (by kernel_rfl) rfl (fun w' hS' => by go_simp <;> (intro h; omega)) HS0 ?_
          simp only [Act.put, List.setIfInBounds_toArray, List.set_cons_zero, List.set_cons_succ]
          refine hp_take hP 10 (some 60) _ rfl rfl (by kernel_rfl) rfl (fun w' hS' => by have cc := (hS'.cell (show b' < w.heap.size by omega)).trans cmz; go_simp; rfl) HS0 ?_
          simp only [Act.put, List.setIfInBounds_toArray, List.set_cons_zero, List.set_cons_succ]
          have hlq : w.heap.size ≤ wq.heap.size := hBq.size
          refine hp_pair 0 11 50 61 (.agg #[.int .i64 (k : Int), vc]) (.slice (some ⟨wq.heap.size, 0, none⟩) 1 1) (wq.drew.alloc (Obj.cells #[.int .i64 z] 2)) (by decide) (by decide) rfl rfl rfl rfl (by kernel_rfl) (by kernel_rfl) (by kernel_rfl) rfl rfl (exec_load_at (w := wq.drew) 39 (.tmp 9) rfl B9 0 rfl #[.int .i64 (k : Int), vc] _ (fun i _ => by rw [Nat.zero_add]; exact Blk.cell (Blk.drew hC.blk) i) Try.underlying39 rfl info39) (exec_load_at (w := wq.drew.alloc (Obj.cells #[.int .i64 z] 2)) 39 (.tmp 9) rfl B9 0 rfl #[.int .i64 (k : Int), vc] _ (fun i _ => by rw [Nat.zero_add]; exact Blk.cell (Blk.alloc (Blk.drew hC.blk) _) i) Try.underlying39 rfl info39) (by go_simp) (by go_simp) HS0 (HS0.alloc hlq _) ?_
          simp only [Act.put, List.setIfInBounds_toArray, List.set_cons_zero, List.set_cons_succ]
          have hD := Below.al (Below.drew (Below.refl wq.heap.size wq)) (Obj.cells #[.int .i64 z] 2)
          have g0 := Bx.below hC hD
          have g1 := Bx.below hA hD
          have g2 := Bx.below hB hD
          have HS1 : Below w.heap.size wq (wq.drew.alloc (Obj.cells #[.int .i64 z] 2)) := HS0.alloc hlq _
          refine hp_call 12 (some 62) rfl rfl (by kernel_rfl) rfl 27 #[.agg #[.int .i64 (k : Int), vc], .slice (some ⟨wq.heap.size, 0, none⟩) 1 1] (by go_simp) ((take27 [pc] [z] k vc _ _ g0.row g0.som (rowI_one wq.drew z) (by simp) (one_in z hx64z)).mono ?_)
          rw [HCN.out]
          rintro e w3 ⟨v', rfl, hown, hB3⟩
          have HS2 : Below w.heap.size wq w3 := HS1.trans (hB3.mono (Nat.le_trans hlq hD.size))
          have f0 := Bx.taken (c := cn) (g0.below hB3) (by simp) ⟨Blk.lt g1.blk, Blk.lt g2.blk, Blk.lt g0.blk⟩ hcnt hown
          have f1 := Bx.other (g1.below hB3) (g := B9) (by simp) (by omega) #[.int .i64 cn, v']
          have f2 := Bx.other (g2.below hB3) (g := B9) (by simp) (by omega) #[.int .i64 cn, v']
          refine ⟨_, rfl, HS2, ?_⟩
          simp only [Act.put, List.setIfInBounds_toArray, List.set_cons_zero, List.set_cons_succ]
          refine hp_store_row 13 rfl rfl (by kernel_rfl) rfl 39 _ _ rfl B9 #[.int .i64 cn, v'] rfl rfl 39 _ (g0.below hB3).blk info39 rfl (by have := owns_form hown; obtain ⟨a, c, rfl⟩ := this; simp [Value.oneCell']) (Below.setRow HS2 (by omega) _) ?_
          simp only [List.setIfInBounds_toArray, List.set_cons_zero, List.set_cons_succ]
          refine hk_done (by kernel_rfl) ?_
          have hBz : Below w.heap.size w (w3.setRow B9 #[.int .i64 cn, v']) := hBq.trans (Below.setRow HS2 (by omega) _)
          generalize w3.setRow B9 #[.int .i64 cn, v'] = wz at *
          clear g0 g1 g2 hD HS0 HS1 HS2 hB3 hown hP hlq hC hA hB hBq
          go_wp2_with fail
          go_roundw
          case rel => exact ⟨k + 1, _, _, _, _, _, _, by omega, by go_num, f1, f2, f0, sa, sb, sc, hBz⟩
          case measure => simp [intOf]; omega
        · obtain rfl : n = k := by omega
          have dx : decide ((n : Int) < n) = false := by simp
          have e8 : pb = pa := by rw [← hpb.out, ← hpa.out]; exact fold_rev ms n (by omega)
          have e9 : pc = pa := by
            rw [← hpc.out, ← hpa.out]
            by_cases h0 : 0 < n
            · exact fold_rot ms n q (by omega) (hqn h0).2
            · have h00 : n = 0 := by omega
              rw [h00]; rfl
          have hbd : ∀ i, i < n → pa.mn ≤ ms.getD i 0 ∧ ms.getD i 0 ≤ pa.mx := fun i hi => by
            have := fold_bd (fun i => ms.getD i 0) n i hi
            rw [hpa.out] at this
            exact this.2
          subst e8
          subst e9
          obtain ⟨xa, ya, rfl⟩ := owns_form hA.own
          obtain ⟨xb, yb, rfl⟩ := owns_form hB.own
          obtain ⟨xc, yc, rfl⟩ := owns_form hC.own
          have HBD := Lib.hid hbd
          clear hpa hpb hpc hbd hqn
          have u0 : wq.cell? ⟨B7, 0, none⟩ = some (.int .i64 (n : Int)) := Blk.cell hA.blk 0
          have u1 : wq.cell? ⟨B7, 1, none⟩ = some (.slice xa 1 ya) := Blk.cell hA.blk 1
          have u2 : wq.cell? ⟨B8, 0, none⟩ = some (.int .i64 (n : Int)) := Blk.cell hB.blk 0
          have u3 : wq.cell? ⟨B8, 1, none⟩ = some (.slice xb 1 yb) := Blk.cell hB.blk 1
          go_wp2_with fail
          refine (same22 (n : Int) _ _ [_] _ hA.row hB.row).mono ?_
          rintro e w8 ⟨rfl, hE1⟩
          have hA2 := hA.below hE1
          have hC2 := hC.below hE1
          have hF1 := Below.call hBq hE1
          clear u0 u1 u2 u3 hA hB hC hBq hE1
          have u0 : w8.cell? ⟨B7, 0, none⟩ = some (.int .i64 (n : Int)) := Blk.cell hA2.blk 0
          have u1 : w8.cell? ⟨B7, 1, none⟩ = some (.slice xa 1 ya) := Blk.cell hA2.blk 1
          have u2 : w8.cell? ⟨B9, 0, none⟩ = some (.int .i64 (n : Int)) := Blk.cell hC2.blk 0
          have u3 : w8.cell? ⟨B9, 1, none⟩ = some (.slice xc 1 yc) := Blk.cell hC2.blk 1
          go_wp2_with fail
          refine (same22 (n : Int) _ _ [_] _ hA2.row hC2.row).mono ?_
          rintro e w9 ⟨rfl, hE2⟩
          have hA3 := hA2.below hE2
          have hF2 := Below.call hF1 hE2
          clear u0 u1 u2 u3 hA2 hC2 hF1 hE2
          have u0 : w9.cell? ⟨B7, 0, none⟩ = some (.int .i64 (n : Int)) := Blk.cell hA3.blk 0
          have u1 : w9.cell? ⟨B7, 1, none⟩ = some (.slice xa 1 ya) := Blk.cell hA3.blk 1
          by_cases h0 : 0 < n
          · have d0 : decide ((0 : Int) < n) = true := by simp; omega
            obtain ⟨a5, c5, hv5, -, -, hcc⟩ := hA3.row.open
            obtain ⟨g, off, h9, hg, hcells⟩ := hcc (by simp)
            injection hv5 with z1 z2 z3
            subst h9
            subst z1
            clear z2 z3 hcc
            have m3 := hcells 0 3 (by simp) (by omega)
            have m4 := hcells 0 4 (by simp) (by omega)
            have hmm := HBD.out 0 h0
            simp only [List.getD_cons_zero] at m3 m4
            rw [Nat.zero_mul, Nat.add_zero] at m3 m4
            obtain ⟨b', off', rfl, hb', hcl⟩ := HC1.out (by omega)
            have rx := hcl 0 (by omega)
            rw [Nat.add_zero] at rx
            obtain ⟨x, hx⟩ : ∃ x, ms.getD 0 0 = x := ⟨_, rfl⟩
            rw [hx] at rx hmm
            have cmx : w9.cell? ⟨b', off', none⟩ = some (.int .i64 x) := (hF2.cell (by exact hb')).trans rx
            have m3' : w9.cell? ⟨g, off + 3, none⟩ = some (.int .i64 pc.mn) := m3
            have m4' : w9.cell? ⟨g, off + 4, none⟩ = some (.int .i64 pc.mx) := m4
            have t1 : decide (x < pc.mn) = false := by simp; omega
            have t2 : decide (pc.mx < x) = false := by simp; omega
            have dl : decide ((0 : Int) < ms.length) = true := by simp; omega
            clear m3 m4 rx hcl hcells hx hmm
            go_wp2_with fail
            go_quiet (fail)
            go_wp2_with fail
            go_ret
            exact ⟨by first | rfl | simp, Below.drewN hF2 _⟩
          · have d0 : decide ((0 : Int) < n) = false := decide_eq_false (by omega)
            go_wp2_with fail
            go_quiet (fail)
            go_wp2_with fail
            go_ret
            exact ⟨by first | rfl | simp, Below.drewN hF2 _⟩
    · obtain ⟨n, hn⟩ : ∃ n : Nat, n = 200 := ⟨200, rfl⟩
      have hnle : n ≤ 200 := by omega
      have hnm : n ≤ ms.length := by omega
      have HNN := Lib.hid hn
      clear hn
      have gt0 : decide (turn < 0) = false := by simpa using ht0
      have hKt : K = turn := by rw [hK, if_neg ht0]
      clear hK
      subst hKt
      go_enter Try.func7, Try.ntmps7
      go_wp2_with fail
      refine (awake10 _).mono ?_
      rintro e w1 ⟨rfl, hX1⟩
      go_wp2_with fail
      refine (new21 1 1 _ (by decide) (by omega)).mono ?_
      rintro e w2 ⟨va, rfl, own7, hX2⟩
      obtain ⟨aa', ca', rfl⟩ := owns_form own7
      go_upto_region 6 with (fail)
      have hX3 := Below.al (Below.call hX1 hX2) (Obj.cells #[.int .i64 0, (.slice aa' 1 ca')] 39)
      have hb7 : Blk (w2.alloc (Obj.cells #[.int .i64 0, (.slice aa' 1 ca')] 39)) w2.heap.size 39 #[.int .i64 0, (.slice aa' 1 ca')] := Blk.newAt _ _ _ rfl
      have hs2 : w.heap.size ≤ w2.heap.size := (Below.call hX1 hX2).size
      have own7' := owns_base (owns_below own7 (Below.al (Below.refl _ _) (Obj.cells #[.int .i64 0, (.slice aa' 1 ca')] 39)) (Nat.le_refl _)) (Nat.zero_le _)
      have ne7 : ∀ g, (Value.slice aa' 1 ca').ownBlock = some g → g < w2.heap.size := fun g hg => (own7.lt g hg).2
      obtain ⟨B7, hB7⟩ : ∃ b, b = w2.heap.size := ⟨_, rfl⟩
      have hl7 : B7 < (w2.alloc (Obj.cells #[.int .i64 0, (.slice aa' 1 ca')] 39)).heap.size := by rw [hB7]; simp
      rw [← hB7] at hb7 ne7 hs2 ⊢
      generalize w2.alloc (Obj.cells #[.int .i64 0, (.slice aa' 1 ca')] 39) = w3 at *
      clear hX1 hX2 own7 hB7
      go_wp2_with fail
      refine (new21 1 1 _ (by decide) (by omega)).mono ?_
      rintro e w4 ⟨vb, rfl, own8, hX4⟩
      obtain ⟨ab', cb', rfl⟩ := owns_form own8
      go_upto_region 7 with (fail)
      have hX5 := Below.al (Below.call hX3 hX4) (Obj.cells #[.int .i64 0, (.slice ab' 1 cb')] 39)
      have hD4 := Below.al hX4 (Obj.cells #[.int .i64 0, (.slice ab' 1 cb')] 39)
      have hb7' := Blk.below hb7 hD4 hl7
      have own7'' := owns_below own7' hD4 (Nat.le_refl _)
      have hb8 : Blk (w4.alloc (Obj.cells #[.int .i64 0, (.slice ab' 1 cb')] 39)) w4.heap.size 39 #[.int .i64 0, (.slice ab' 1 cb')] := Blk.newAt _ _ _ rfl
      have own8' := owns_base (owns_below own8 (Below.al (Below.refl _ _) (Obj.cells #[.int .i64 0, (.slice ab' 1 cb')] 39)) (Nat.le_refl _)) (Nat.zero_le _)
      have ne8 : ∀ g, (Value.slice ab' 1 cb').ownBlock = some g → w3.heap.size ≤ g ∧ g < w4.heap.size := fun g hg => own8.lt g hg
      have h34 := hX4.size
      obtain ⟨B8, hB8⟩ : ∃ b, b = w4.heap.size := ⟨_, rfl⟩
      have hl8 : B8 < (w4.alloc (Obj.cells #[.int .i64 0, (.slice ab' 1 cb')] 39)).heap.size := by rw [hB8]; simp
      have hB78 : B7 < B8 := by omega
      have ne8' : ∀ g, (Value.slice ab' 1 cb').ownBlock = some g → B7 < g ∧ g < B8 := fun g hg => by have := ne8 g hg; omega
      rw [← hB8] at hb8 ⊢
      generalize w4.alloc (Obj.cells #[.int .i64 0, (.slice ab' 1 cb')] 39) = w5 at *
      clear hX3 hX4 own8 hB8 hb7 own7' hD4 ne8 h34 hl7
      go_wp2_with fail
      refine (new21 1 1 _ (by decide) (by omega)).mono ?_
      rintro e w6 ⟨vc, rfl, own9, hX6⟩
      obtain ⟨ac', cc', rfl⟩ := owns_form own9
      go_upto_region 8 with (fail)
      have hX7 := Below.al (Below.call hX5 hX6) (Obj.cells #[.int .i64 0, (.slice ac' 1 cc')] 39)
      have hD6 := Below.al hX6 (Obj.cells #[.int .i64 0, (.slice ac' 1 cc')] 39)
      have hb7e := Blk.below hb7' hD6 (Blk.lt hb7')
      have hb8e := Blk.below hb8 hD6 hl8
      have own7e := owns_below own7'' hD6 (Nat.le_refl _)
      have own8e := owns_below own8' hD6 (Nat.le_refl _)
      have hb9e : Blk (w6.alloc (Obj.cells #[.int .i64 0, (.slice ac' 1 cc')] 39)) w6.heap.size 39 #[.int .i64 0, (.slice ac' 1 cc')] := Blk.newAt _ _ _ rfl
      have own9e := owns_base (owns_below own9 (Below.al (Below.refl _ _) (Obj.cells #[.int .i64 0, (.slice ac' 1 cc')] 39)) (Nat.le_refl _)) (Nat.zero_le _)
      have ne9 : ∀ g, (Value.slice ac' 1 cc').ownBlock = some g → w5.heap.size ≤ g ∧ g < w6.heap.size := fun g hg => own9.lt g hg
      have h56 := hX6.size
      obtain ⟨B9, hB9⟩ : ∃ b, b = w6.heap.size := ⟨_, rfl⟩
      have hB89 : B8 < B9 := by omega
      have ne9' : ∀ g, (Value.slice ac' 1 cc').ownBlock = some g → B8 < g ∧ g < B9 := fun g hg => by have := ne9 g hg; omega
      rw [← hB9] at hb9e ⊢
      generalize w6.alloc (Obj.cells #[.int .i64 0, (.slice ac' 1 cc')] 39) = w7 at *
      have HA : Hid (Bx w7 B7 B8 B9 B7 0 zeroP (.slice aa' 1 ca')) := ⟨hb7e, own7e, fun g hg => by have := ne7 g hg; omega⟩
      have HB : Hid (Bx w7 B7 B8 B9 B8 0 zeroP (.slice ab' 1 cb')) := ⟨hb8e, own8e, fun g hg => by have := ne8' g hg; omega⟩
      have HC : Hid (Bx w7 B7 B8 B9 B9 0 zeroP (.slice ac' 1 cc')) := ⟨hb9e, own9e, fun g hg => by have := ne9' g hg; omega⟩
      have HX := Lib.hid hX7
      have hBB : w.heap.size ≤ B7 ∧ B7 < B8 ∧ B8 < B9 := ⟨hs2, hB78, hB89⟩
      obtain ⟨q, hq⟩ : ∃ q : Nat, q = K.toNat % n := ⟨_, rfl⟩
      have hqn : 0 < n → K.tmod (n : Int) = (q : Int) ∧ q < n := by
        intro h
        refine ⟨?_, by rw [hq]; exact Nat.mod_lt _ h⟩
        have h2 := (Int.ofNat_tmod K.toNat n).symm
        rw [Int.toNat_of_nonneg hK0] at h2
        rw [h2, hq]
      clear hX5 hX6 own9 hB9 hb7' hb8 own7'' own8' hD6 ne9 h56 hl8 hb7e hb8e hb9e own7e own8e own9e ne7 ne8' ne9' hX7 hs2 hB78 hB89 hq
      go_wp2_with fail
      rw [show (Value.int .i64 200) = Value.int .i64 ((n : Nat) : Int) from by rw [HNN.out]; rfl]
      go_loopw [11] (fun i wr => ∃ (k : Nat) (va vb vc : Value) (pa pb pc : Prt), k ≤ n ∧ i = .int .i64 k ∧ Bx wr B7 B8 B9 B7 k pa va ∧ Bx wr B7 B8 B9 B8 k pb vb ∧ Bx wr B7 B8 B9 B9 k pc vc ∧
        Hid (foldF (fun i => ms.getD i 0) k = pa) ∧ Hid (foldF (fun i => ms.getD (n - 1 - i) 0) k = pb) ∧ Hid (foldF (fun i => ms.getD ((i + q) % n) 0) k = pc) ∧ Below w.heap.size w wr) (fun i _ => n - (intOf i).toNat)
      case atStart => exact ⟨0, _, _, _, zeroP, zeroP, zeroP, by omega, rfl, HA.out, HB.out, HC.out, rfl, rfl, rfl, HX.out⟩
      case round =>
        obtain ⟨k, va, vb, vc, pa, pb, pc, hk, rfl, hA, hB, hC, hpa, hpb, hpc, hBq⟩ := hrel
        obtain ⟨wq, hwq⟩ : ∃ wq : World, wq = wr := ⟨_, rfl⟩
        rw [← hwq] at hA hB hC hBq ⊢
        clear hwq
        by_cases hlt : k < n
        · have d1 : decide ((k : Int) < n) = true := by simp; omega
          have hn0 : ((n : Int) == 0) = false := beq_eq_false_iff_ne.2 (by omega)
          have hne : ¬ ms = [] := fun h => by have h5 : ms.length = 0 := by rw [h]; rfl
                                              omega
          have hnz : ¬ n = 0 := by omega
          have hql := (hqn (by omega)).2
          obtain ⟨j1, hj1⟩ : ∃ j, n - 1 - k = j := ⟨_, rfl⟩
          obtain ⟨j2, hj2⟩ : ∃ j, (k + q) % n = j := ⟨_, rfl⟩
          have hnp : 0 < n := by omega
          have hq2 := hqn hnp
          have hj1l : j1 < n := by omega
          have hj2l : j2 < n := by rw [← hj2]; exact Nat.mod_lt _ hnp
          have i1 : (n : Int) - 1 - (k : Int) = (j1 : Int) := by omega
          have i2 : K.tmod (n : Int) = (q : Int) := hq2.1
          have i3 : ((k : Int) + (q : Int)).tmod (n : Int) = (j2 : Int) := by
            have h := (Int.ofNat_tmod (k + q) n).symm
            rw [hj2] at h
            simpa using h
          obtain ⟨cn, hcn⟩ : ∃ c : Int, wrap64 ((k : Int) + 1) = c := ⟨_, rfl⟩
          have hcnt : cn = ((k + 1 : Nat) : Int) := by rw [← hcn, w64 (by omega)]; omega
          have HCN := Lib.hid hcn
          clear hcn
          have HI1 := Lib.hid i1
          have HI2 := Lib.hid i2
          have HI3 := Lib.hid i3
          have dk : decide ((k : Int) < ms.length) = true := by simp; omega
          have dj1 : decide ((j1 : Int) < ms.length) = true := by simp; omega
          have dj2 : decide ((j2 : Int) < ms.length) = true := by simp; omega
          obtain ⟨b', off, rfl, hb', hcl⟩ := HC1.out (by omega)
          obtain ⟨x, hx⟩ : ∃ x, ms.getD k 0 = x := ⟨_, rfl⟩
          obtain ⟨y, hy⟩ : ∃ x, ms.getD j1 0 = x := ⟨_, rfl⟩
          obtain ⟨z, hz⟩ : ∃ x, ms.getD j2 0 = x := ⟨_, rfl⟩
          have hx64x := HMS.out k (by omega)
          have hx64y := HMS.out j1 (by omega)
          have hx64z := HMS.out j2 (by omega)
          rw [hx] at hx64x
          rw [hy] at hx64y
          rw [hz] at hx64z
          have rx := hcl k (by omega)
          have ry := hcl j1 (by omega)
          have rz := hcl j2 (by omega)
          rw [hx] at rx
          rw [hy] at ry
          rw [hz] at rz
          have sa : Hid (foldF (fun i => ms.getD i 0) (k + 1) = takeP pa x) := by rw [Hid, foldF_step, hpa.out, hx]
          have sb : Hid (foldF (fun i => ms.getD (n - 1 - i) 0) (k + 1) = takeP pb y) := by rw [Hid, foldF_step, hpb.out, hj1, hy]
          have sc : Hid (foldF (fun i => ms.getD ((i + q) % n) 0) (k + 1) = takeP pc z) := by rw [Hid, foldF_step, hpc.out, hj2, hz]
          have hw0 : w.heap.size ≤ B7 ∧ B7 < B8 ∧ B8 < B9 := hBB
          clear hcl hx hy hz hpa hpb hpc hq2 hj1 hj2 i1 i2 i3
          have cmx : wq.cell? ⟨b', off + k, none⟩ = some (.int .i64 x) := (hBq.cell (by exact hb')).trans rx
          go_wp2_with fail
          refine hp_start (fun w' => Below w.heap.size wq w') 8 rfl (by kernel_rfl) (fun c a a' w hd h => ⟨hd ▸ h.1, h.2⟩) (fun hP => ?_)
          rw [show Array.replicate 8 false = #[false, false, false, false, false, false, false, false] from rfl]
          have HS0 : Below w.heap.size wq wq.drew := (Below.refl _ _).drew
          refine hp_take hP 1 (some 34) _ rfl rfl (by kernel_rfl) rfl (fun w' hS' => by go_simp; rfl) HS0 ?_
          simp only [Act.put, List.setIfInBounds_toArray, List.set_cons_zero, List.set_cons_succ]
          refine hp_take hP 2 (some 35) _ rfl rfl (by kernel_rfl) rfl (fun w' hS' => by go_simp; rfl) HS0 ?_
          simp only [Act.put, List.setIfInBounds_toArray, List.set_cons_zero, List.set_cons_succ]
          refine hp_take hP 3 (some 36) (.pointer (some ⟨b', off + k, none⟩)) rfl rfl (by kernel_rfl) rfl (fun w' hS' => by go_simp <;> (intro h; omega)) HS0 ?_
          simp only [Act.put, List.setIfInBounds_toArray, List.set_cons_zero, List.set_cons_succ]
          refine hp_take hP 4 (some 37) _ rfl rfl (by kernel_rfl) rfl (fun w' hS' => by have cc := (hS'.cell (show b' < w.heap.size by omega)).trans cmx; go_simp; rfl) HS0 ?_
          simp only [Act.put, List.setIfInBounds_toArray, List.set_cons_zero, List.set_cons_succ]
          have hlq : w.heap.size ≤ wq.heap.size := hBq.size
          refine hp_pair 0 5 33 38 (.agg #[.int .i64 (k : Int), va]) (.slice (some ⟨wq.heap.size, 0, none⟩) 1 1) (wq.drew.alloc (Obj.cells #[.int .i64 x] 2)) (by decide) (by decide) rfl rfl rfl rfl (by kernel_rfl) (by kernel_rfl) (by kernel_rfl) rfl rfl (exec_load_at (w := wq.drew) 39 (.tmp 7) rfl B7 0 rfl #[.int .i64 (k : Int), va] _ (fun i _ => by rw [Nat.zero_add]; exact Blk.cell (Blk.drew hA.blk) i) Try.underlying39 rfl info39) (exec_load_at (w := wq.drew.alloc (Obj.cells #[.int .i64 x] 2)) 39 (.tmp 7) rfl B7 0 rfl #[.int .i64 (k : Int), va] _ (fun i _ => by rw [Nat.zero_add]; exact Blk.cell (Blk.alloc (Blk.drew hA.blk) _) i) Try.underlying39 rfl info39) (by go_simp) (by go_simp) HS0 (HS0.alloc hlq _) ?_
          simp only [Act.put, List.setIfInBounds_toArray, List.set_cons_zero, List.set_cons_succ]
          have hD := Below.al (Below.drew (Below.refl wq.heap.size wq)) (Obj.cells #[.int .i64 x] 2)
          have g0 := Bx.below hA hD
          have g1 := Bx.below hB hD
          have g2 := Bx.below hC hD
          have HS1 : Below w.heap.size wq (wq.drew.alloc (Obj.cells #[.int .i64 x] 2)) := HS0.alloc hlq _
          refine hp_call 6 (some 39) rfl rfl (by kernel_rfl) rfl 27 #[.agg #[.int .i64 (k : Int), va], .slice (some ⟨wq.heap.size, 0, none⟩) 1 1] (by go_simp) ((take27 [pa] [x] k va _ _ g0.row g0.som (rowI_one wq.drew x) (by simp) (one_in x hx64x)).mono ?_)
          rw [HCN.out]
          rintro e w3 ⟨v', rfl, hown, hB3⟩
          have HS2 : Below w.heap.size wq w3 := HS1.trans (hB3.mono (Nat.le_trans hlq hD.size))
          have f0 := Bx.taken (c := cn) (g0.below hB3) (by simp) ⟨Blk.lt g0.blk, Blk.lt g1.blk, Blk.lt g2.blk⟩ hcnt hown
          have f1 := Bx.other (g1.below hB3) (g := B7) (by simp) (by omega) #[.int .i64 cn, v']
          have f2 := Bx.other (g2.below hB3) (g := B7) (by simp) (by omega) #[.int .i64 cn, v']
          refine ⟨_, rfl, HS2, ?_⟩
          simp only [Act.put, List.setIfInBounds_toArray, List.set_cons_zero, List.set_cons_succ]
          refine hp_store_row 7 rfl rfl (by kernel_rfl) rfl 39 _ _ rfl B7 #[.int .i64 cn, v'] rfl rfl 39 _ (g0.below hB3).blk info39 rfl (by have := owns_form hown; obtain ⟨a, c, rfl⟩ := this; simp [Value.oneCell']) (Below.setRow HS2 (by omega) _) ?_
          simp only [List.setIfInBounds_toArray, List.set_cons_zero, List.set_cons_succ]
          refine hk_done (by kernel_rfl) ?_
          have hBz : Below w.heap.size w (w3.setRow B7 #[.int .i64 cn, v']) := hBq.trans (Below.setRow HS2 (by omega) _)
          generalize w3.setRow B7 #[.int .i64 cn, v'] = wz at *
          clear g0 g1 g2 hD HS0 HS1 HS2 hB3 hown hP hlq hA hB hC hBq
          have cmy : wz.cell? ⟨b', off + j1, none⟩ = some (.int .i64 y) := (hBz.cell (by exact hb')).trans ry
          clear cmx rx
          have hBq := hBz
          obtain ⟨wq, hwq⟩ : ∃ wq : World, wq = wz := ⟨_, rfl⟩
          rw [← hwq] at f0 f1 f2 hBq cmy ⊢
          clear hwq hBz
          have hA := f0
          have hB := f1
          have hC := f2
          clear f0 f1 f2
          go_wp2_with fail
          refine hp_start (fun w' => Below w.heap.size wq w') 11 rfl (by kernel_rfl) (fun c a a' w hd h => ⟨hd ▸ h.1, h.2⟩) (fun hP => ?_)
          rw [show Array.replicate 11 false = #[false, false, false, false, false, false, false, false, false, false, false] from rfl]
          have HS0 : Below w.heap.size wq wq.drew := (Below.refl _ _).drew
          refine hp_take hP 1 (some 41) _ rfl rfl (by kernel_rfl) rfl (fun w' hS' => by go_simp; rfl) HS0 ?_
          simp only [Act.put, List.setIfInBounds_toArray, List.set_cons_zero, List.set_cons_succ]
          refine hp_take hP 2 (some 42) _ rfl rfl (by kernel_rfl) rfl (fun w' hS' => by go_simp; rfl) HS0 ?_
          simp only [Act.put, List.setIfInBounds_toArray, List.set_cons_zero, List.set_cons_succ]
          refine hp_take hP 3 (some 43) (.int .i64 ((n : Int) - 1)) rfl rfl (by kernel_rfl) rfl (fun w' hS' => by go_simp <;> exact IntWalk.i64_in _ (by omega)) HS0 ?_
          simp only [Act.put, List.setIfInBounds_toArray, List.set_cons_zero, List.set_cons_succ]
          refine hp_take hP 4 (some 44) _ rfl rfl (by kernel_rfl) rfl (fun w' hS' => by go_simp; rfl) HS0 ?_
          simp only [Act.put, List.setIfInBounds_toArray, List.set_cons_zero, List.set_cons_succ]
          refine hp_take hP 5 (some 45) (.int .i64 (j1 : Int)) rfl rfl (by kernel_rfl) rfl (fun w' hS' => by have h2 := HI1.out; go_simp <;> (first | exact h2 | (rw [IntWalk.i64_in _ (by omega)] <;> exact h2))) HS0 ?_
          simp only [Act.put, List.setIfInBounds_toArray, List.set_cons_zero, List.set_cons_succ]
          refine hp_take hP 6 (some 46) (.pointer (some ⟨b', off + j1, none⟩)) rfl rfl (by kernel_rfl) rfl (fun w' hS' => by go_simp <;> (intro h; omega)) HS0 ?_
          simp only [Act.put, List.setIfInBounds_toArray, List.set_cons_zero, List.set_cons_succ]
          refine hp_take hP 7 (some 47) _ rfl rfl (by kernel_rfl) rfl (fun w' hS' => by have cc := (hS'.cell (show b' < w.heap.size by omega)).trans cmy; go_simp; rfl) HS0 ?_
          simp only [Act.put, List.setIfInBounds_toArray, List.set_cons_zero, List.set_cons_succ]
          have hlq : w.heap.size ≤ wq.heap.size := hBq.size
          refine hp_pair 0 8 40 48 (.agg #[.int .i64 (k : Int), vb]) (.slice (some ⟨wq.heap.size, 0, none⟩) 1 1) (wq.drew.alloc (Obj.cells #[.int .i64 y] 2)) (by decide) (by decide) rfl rfl rfl rfl (by kernel_rfl) (by kernel_rfl) (by kernel_rfl) rfl rfl (exec_load_at (w := wq.drew) 39 (.tmp 8) rfl B8 0 rfl #[.int .i64 (k : Int), vb] _ (fun i _ => by rw [Nat.zero_add]; exact Blk.cell (Blk.drew hB.blk) i) Try.underlying39 rfl info39) (exec_load_at (w := wq.drew.alloc (Obj.cells #[.int .i64 y] 2)) 39 (.tmp 8) rfl B8 0 rfl #[.int .i64 (k : Int), vb] _ (fun i _ => by rw [Nat.zero_add]; exact Blk.cell (Blk.alloc (Blk.drew hB.blk) _) i) Try.underlying39 rfl info39) (by go_simp) (by go_simp) HS0 (HS0.alloc hlq _) ?_
          simp only [Act.put, List.setIfInBounds_toArray, List.set_cons_zero, List.set_cons_succ]
          have hD := Below.al (Below.drew (Below.refl wq.heap.size wq)) (Obj.cells #[.int .i64 y] 2)
          have g0 := Bx.below hB hD
          have g1 := Bx.below hA hD
          have g2 := Bx.below hC hD
          have HS1 : Below w.heap.size wq (wq.drew.alloc (Obj.cells #[.int .i64 y] 2)) := HS0.alloc hlq _
          refine hp_call 9 (some 49) rfl rfl (by kernel_rfl) rfl 27 #[.agg #[.int .i64 (k : Int), vb], .slice (some ⟨wq.heap.size, 0, none⟩) 1 1] (by go_simp) ((take27 [pb] [y] k vb _ _ g0.row g0.som (rowI_one wq.drew y) (by simp) (one_in y hx64y)).mono ?_)
          rw [HCN.out]
          rintro e w3 ⟨v', rfl, hown, hB3⟩
          have HS2 : Below w.heap.size wq w3 := HS1.trans (hB3.mono (Nat.le_trans hlq hD.size))
          have f0 := Bx.taken (c := cn) (g0.below hB3) (by simp) ⟨Blk.lt g1.blk, Blk.lt g0.blk, Blk.lt g2.blk⟩ hcnt hown
          have f1 := Bx.other (g1.below hB3) (g := B8) (by simp) (by omega) #[.int .i64 cn, v']
          have f2 := Bx.other (g2.below hB3) (g := B8) (by simp) (by omega) #[.int .i64 cn, v']
          refine ⟨_, rfl, HS2, ?_⟩
          simp only [Act.put, List.setIfInBounds_toArray, List.set_cons_zero, List.set_cons_succ]
          refine hp_store_row 10 rfl rfl (by kernel_rfl) rfl 39 _ _ rfl B8 #[.int .i64 cn, v'] rfl rfl 39 _ (g0.below hB3).blk info39 rfl (by have := owns_form hown; obtain ⟨a, c, rfl⟩ := this; simp [Value.oneCell']) (Below.setRow HS2 (by omega) _) ?_
          simp only [List.setIfInBounds_toArray, List.set_cons_zero, List.set_cons_succ]
          refine hk_done (by kernel_rfl) ?_
          have hBz : Below w.heap.size w (w3.setRow B8 #[.int .i64 cn, v']) := hBq.trans (Below.setRow HS2 (by omega) _)
          generalize w3.setRow B8 #[.int .i64 cn, v'] = wz at *
          clear g0 g1 g2 hD HS0 HS1 HS2 hB3 hown hP hlq hB hA hC hBq
          have cmz : wz.cell? ⟨b', off + j2, none⟩ = some (.int .i64 z) := (hBz.cell (by exact hb')).trans rz
          clear cmy ry
          have hBq := hBz
          obtain ⟨wq, hwq⟩ : ∃ wq : World, wq = wz := ⟨_, rfl⟩
          rw [← hwq] at f0 f1 f2 hBq cmz ⊢
          clear hwq hBz
          have hB := f0
          have hA := f1
          have hC := f2
          clear f0 f1 f2
          go_wp2_with fail
          refine hp_start (fun w' => Below w.heap.size wq w') 14 rfl (by kernel_rfl) (fun c a a' w hd h => ⟨hd ▸ h.1, h.2⟩) (fun hP => ?_)
          rw [show Array.replicate 14 false = #[false, false, false, false, false, false, false, false, false, false, false, false, false, false] from rfl]
          have HS0 : Below w.heap.size wq wq.drew := (Below.refl _ _).drew
          refine hp_take hP 1 (some 51) _ rfl rfl (by kernel_rfl) rfl (fun w' hS' => by go_simp; rfl) HS0 ?_
          simp only [Act.put, List.setIfInBounds_toArray, List.set_cons_zero, List.set_cons_succ]
          refine hp_take hP 2 (some 52) _ rfl rfl (by kernel_rfl) rfl (fun w' hS' => by go_simp; rfl) HS0 ?_
          simp only [Act.put, List.setIfInBounds_toArray, List.set_cons_zero, List.set_cons_succ]
          refine hp_take hP 3 (some 53) _ rfl rfl (by kernel_rfl) rfl (fun w' hS' => by go_simp; rfl) HS0 ?_
          simp only [Act.put, List.setIfInBounds_toArray, List.set_cons_zero, List.set_cons_succ]
          refine hp_take hP 4 (some 54) _ rfl rfl (by kernel_rfl) rfl (fun w' hS' => by go_simp; rfl) HS0 ?_
          simp only [Act.put, List.setIfInBounds_toArray, List.set_cons_zero, List.set_cons_succ]
          refine hp_take hP 5 (some 55) (.int .i64 (q : Int)) rfl rfl (by kernel_rfl) rfl (fun w' hS' => by have h2 := HI2.out; go_simp <;> (first | exact hne | exact hnz)) HS0 ?_
          simp only [Act.put, List.setIfInBounds_toArray, List.set_cons_zero, List.set_cons_succ]
          refine hp_take hP 6 (some 56) (.int .i64 ((k : Int) + q)) rfl rfl (by kernel_rfl) rfl (fun w' hS' => by go_simp <;> exact IntWalk.i64_in _ (by omega)) HS0 ?_
          simp only [Act.put, List.setIfInBounds_toArray, List.set_cons_zero, List.set_cons_succ]
          refine hp_take hP 7 (some 57) _ rfl rfl (by kernel_rfl) rfl (fun w' hS' => by go_simp; rfl) HS0 ?_
          simp only [Act.put, List.setIfInBounds_toArray, List.set_cons_zero, List.set_cons_succ]
          refine hp_take hP 8 (some 58) (.int .i64 (j2 : Int)) rfl rfl (by kernel_rfl) rfl (fun w' hS' => by have h2 := HI3.out; go_simp <;> (first | exact hne | exact hnz)) HS0 ?_
          simp only [Act.put, List.setIfInBounds_toArray, List.set_cons_zero, List.set_cons_succ]
          refine hp_take hP 9 (some 59) (.pointer (some ⟨b', off + j2, none⟩)) rfl rfl (by kernel_rfl) rfl (fun w' hS' => by go_simp <;> (intro h; omega)) HS0 ?_
          simp only [Act.put, List.setIfInBounds_toArray, List.set_cons_zero, List.set_cons_succ]
          refine hp_take hP 10 (some 60) _ rfl rfl (by kernel_rfl) rfl (fun w' hS' => by have cc := (hS'.cell (show b' < w.heap.size by omega)).trans cmz; go_simp; rfl) HS0 ?_
          simp only [Act.put, List.setIfInBounds_toArray, List.set_cons_zero, List.set_cons_succ]
          have hlq : w.heap.size ≤ wq.heap.size := hBq.size
          refine hp_pair 0 11 50 61 (.agg #[.int .i64 (k : Int), vc]) (.slice (some ⟨wq.heap.size, 0, none⟩) 1 1) (wq.drew.alloc (Obj.cells #[.int .i64 z] 2)) (by decide) (by decide) rfl rfl rfl rfl (by kernel_rfl) (by kernel_rfl) (by kernel_rfl) rfl rfl (exec_load_at (w := wq.drew) 39 (.tmp 9) rfl B9 0 rfl #[.int .i64 (k : Int), vc] _ (fun i _ => by rw [Nat.zero_add]; exact Blk.cell (Blk.drew hC.blk) i) Try.underlying39 rfl info39) (exec_load_at (w := wq.drew.alloc (Obj.cells #[.int .i64 z] 2)) 39 (.tmp 9) rfl B9 0 rfl #[.int .i64 (k : Int), vc] _ (fun i _ => by rw [Nat.zero_add]; exact Blk.cell (Blk.alloc (Blk.drew hC.blk) _) i) Try.underlying39 rfl info39) (by go_simp) (by go_simp) HS0 (HS0.alloc hlq _) ?_
          simp only [Act.put, List.setIfInBounds_toArray, List.set_cons_zero, List.set_cons_succ]
          have hD := Below.al (Below.drew (Below.refl wq.heap.size wq)) (Obj.cells #[.int .i64 z] 2)
          have g0 := Bx.below hC hD
          have g1 := Bx.below hA hD
          have g2 := Bx.below hB hD
          have HS1 : Below w.heap.size wq (wq.drew.alloc (Obj.cells #[.int .i64 z] 2)) := HS0.alloc hlq _
          refine hp_call 12 (some 62) rfl rfl (by kernel_rfl) rfl 27 #[.agg #[.int .i64 (k : Int), vc], .slice (some ⟨wq.heap.size, 0, none⟩) 1 1] (by go_simp) ((take27 [pc] [z] k vc _ _ g0.row g0.som (rowI_one wq.drew z) (by simp) (one_in z hx64z)).mono ?_)
          rw [HCN.out]
          rintro e w3 ⟨v', rfl, hown, hB3⟩
          have HS2 : Below w.heap.size wq w3 := HS1.trans (hB3.mono (Nat.le_trans hlq hD.size))
          have f0 := Bx.taken (c := cn) (g0.below hB3) (by simp) ⟨Blk.lt g1.blk, Blk.lt g2.blk, Blk.lt g0.blk⟩ hcnt hown
          have f1 := Bx.other (g1.below hB3) (g := B9) (by simp) (by omega) #[.int .i64 cn, v']
          have f2 := Bx.other (g2.below hB3) (g := B9) (by simp) (by omega) #[.int .i64 cn, v']
          refine ⟨_, rfl, HS2, ?_⟩
          simp only [Act.put, List.setIfInBounds_toArray, List.set_cons_zero, List.set_cons_succ]
          refine hp_store_row 13 rfl rfl (by kernel_rfl) rfl 39 _ _ rfl B9 #[.int .i64 cn, v'] rfl rfl 39 _ (g0.below hB3).blk info39 rfl (by have := owns_form hown; obtain ⟨a, c, rfl⟩ := this; simp [Value.oneCell']) (Below.setRow HS2 (by omega) _) ?_
          simp only [List.setIfInBounds_toArray, List.set_cons_zero, List.set_cons_succ]
          refine hk_done (by kernel_rfl) ?_
          have hBz : Below w.heap.size w (w3.setRow B9 #[.int .i64 cn, v']) := hBq.trans (Below.setRow HS2 (by omega) _)
          generalize w3.setRow B9 #[.int .i64 cn, v'] = wz at *
          clear g0 g1 g2 hD HS0 HS1 HS2 hB3 hown hP hlq hC hA hB hBq
          go_wp2_with fail
          go_roundw
          case rel => exact ⟨k + 1, _, _, _, _, _, _, by omega, by go_num, f1, f2, f0, sa, sb, sc, hBz⟩
          case measure => simp [intOf]; omega
        · obtain rfl : n = k := by omega
          have dx : decide ((n : Int) < n) = false := by simp
          have e8 : pb = pa := by rw [← hpb.out, ← hpa.out]; exact fold_rev ms n (by omega)
          have e9 : pc = pa := by
            rw [← hpc.out, ← hpa.out]
            by_cases h0 : 0 < n
            · exact fold_rot ms n q (by omega) (hqn h0).2
            · have h00 : n = 0 := by omega
              rw [h00]; rfl
          have hbd : ∀ i, i < n → pa.mn ≤ ms.getD i 0 ∧ ms.getD i 0 ≤ pa.mx := fun i hi => by
            have := fold_bd (fun i => ms.getD i 0) n i hi
            rw [hpa.out] at this
            exact this.2
          subst e8
          subst e9
          obtain ⟨xa, ya, rfl⟩ := owns_form hA.own
          obtain ⟨xb, yb, rfl⟩ := owns_form hB.own
          obtain ⟨xc, yc, rfl⟩ := owns_form hC.own
          have HBD := Lib.hid hbd
          clear hpa hpb hpc hbd hqn
          have u0 : wq.cell? ⟨B7, 0, none⟩ = some (.int .i64 (n : Int)) := Blk.cell hA.blk 0
          have u1 : wq.cell? ⟨B7, 1, none⟩ = some (.slice xa 1 ya) := Blk.cell hA.blk 1
          have u2 : wq.cell? ⟨B8, 0, none⟩ = some (.int .i64 (n : Int)) := Blk.cell hB.blk 0
          have u3 : wq.cell? ⟨B8, 1, none⟩ = some (.slice xb 1 yb) := Blk.cell hB.blk 1
          go_wp2_with fail
          refine (same22 (n : Int) _ _ [_] _ hA.row hB.row).mono ?_
          rintro e w8 ⟨rfl, hE1⟩
          have hA2 := hA.below hE1
          have hC2 := hC.below hE1
          have hF1 := Below.call hBq hE1
          clear u0 u1 u2 u3 hA hB hC hBq hE1
          have u0 : w8.cell? ⟨B7, 0, none⟩ = some (.int .i64 (n : Int)) := Blk.cell hA2.blk 0
          have u1 : w8.cell? ⟨B7, 1, none⟩ = some (.slice xa 1 ya) := Blk.cell hA2.blk 1
          have u2 : w8.cell? ⟨B9, 0, none⟩ = some (.int .i64 (n : Int)) := Blk.cell hC2.blk 0
          have u3 : w8.cell? ⟨B9, 1, none⟩ = some (.slice xc 1 yc) := Blk.cell hC2.blk 1
          go_wp2_with fail
          refine (same22 (n : Int) _ _ [_] _ hA2.row hC2.row).mono ?_
          rintro e w9 ⟨rfl, hE2⟩
          have hA3 := hA2.below hE2
          have hF2 := Below.call hF1 hE2
          clear u0 u1 u2 u3 hA2 hC2 hF1 hE2
          have u0 : w9.cell? ⟨B7, 0, none⟩ = some (.int .i64 (n : Int)) := Blk.cell hA3.blk 0
          have u1 : w9.cell? ⟨B7, 1, none⟩ = some (.slice xa 1 ya) := Blk.cell hA3.blk 1
          by_cases h0 : 0 < n
          · have d0 : decide ((0 : Int) < n) = true := by simp; omega
            obtain ⟨a5, c5, hv5, -, -, hcc⟩ := hA3.row.open
            obtain ⟨g, off, h9, hg, hcells⟩ := hcc (by simp)
            injection hv5 with z1 z2 z3
            subst h9
            subst z1
            clear z2 z3 hcc
            have m3 := hcells 0 3 (by simp) (by omega)
            have m4 := hcells 0 4 (by simp) (by omega)
            have hmm := HBD.out 0 h0
            simp only [List.getD_cons_zero] at m3 m4
            rw [Nat.zero_mul, Nat.add_zero] at m3 m4
            obtain ⟨b', off', rfl, hb', hcl⟩ := HC1.out (by omega)
            have rx := hcl 0 (by omega)
            rw [Nat.add_zero] at rx
            obtain ⟨x, hx⟩ : ∃ x, ms.getD 0 0 = x := ⟨_, rfl⟩
            rw [hx] at rx hmm
            have cmx : w9.cell? ⟨b', off', none⟩ = some (.int .i64 x) := (hF2.cell (by exact hb')).trans rx
            have m3' : w9.cell? ⟨g, off + 3, none⟩ = some (.int .i64 pc.mn) := m3
            have m4' : w9.cell? ⟨g, off + 4, none⟩ = some (.int .i64 pc.mx) := m4
            have t1 : decide (x < pc.mn) = false := by simp; omega
            have t2 : decide (pc.mx < x) = false := by simp; omega
            have dl : decide ((0 : Int) < ms.length) = true := by simp; omega
            clear m3 m4 rx hcl hcells hx hmm
            go_wp2_with fail
            go_quiet (fail)
            go_wp2_with fail
            go_ret
            exact ⟨by first | rfl | simp, Below.drewN hF2 _⟩
          · have d0 : decide ((0 : Int) < n) = false := decide_eq_false (by omega)
            go_wp2_with fail
            go_quiet (fail)
            go_wp2_with fail
            go_ret
            exact ⟨by first | rfl | simp, Below.drewN hF2 _⟩
  · have g200 : decide ((200 : Int) < ms.length) = false := by simp; omega
    by_cases ht0 : turn < 0
    · have gt0 : decide (turn < 0) = true := by simpa using ht0
      have hKt : K = -(turn + 1) := by rw [hK, if_pos ht0]
      have kw : IntKind.i64.wrap (turn + 1) = turn + 1 := IntWalk.i64_in _ (by omega)
      have kn2 : -(turn + 1) = K := hKt.symm
      have kn : IntKind.i64.wrap K = K := IntWalk.i64_in _ (by omega)
      clear hK hKt
      go_enter Try.func7, Try.ntmps7
      go_wp2_with fail
      refine (awake10 _).mono ?_
      rintro e w1 ⟨rfl, hX1⟩
      go_wp2_with fail
      refine (new21 1 1 _ (by decide) (by omega)).mono ?_
      rintro e w2 ⟨va, rfl, own7, hX2⟩
      obtain ⟨aa', ca', rfl⟩ := owns_form own7
      go_upto_region 6 with (fail)
      have hX3 := Below.al (Below.call hX1 hX2) (Obj.cells #[.int .i64 0, (.slice aa' 1 ca')] 39)
      have hb7 : Blk (w2.alloc (Obj.cells #[.int .i64 0, (.slice aa' 1 ca')] 39)) w2.heap.size 39 #[.int .i64 0, (.slice aa' 1 ca')] := Blk.newAt _ _ _ rfl
      have hs2 : w.heap.size ≤ w2.heap.size := (Below.call hX1 hX2).size
      have own7' := owns_base (owns_below own7 (Below.al (Below.refl _ _) (Obj.cells #[.int .i64 0, (.slice aa' 1 ca')] 39)) (Nat.le_refl _)) (Nat.zero_le _)
      have ne7 : ∀ g, (Value.slice aa' 1 ca').ownBlock = some g → g < w2.heap.size := fun g hg => (own7.lt g hg).2
      obtain ⟨B7, hB7⟩ : ∃ b, b = w2.heap.size := ⟨_, rfl⟩
      have hl7 : B7 < (w2.alloc (Obj.cells #[.int .i64 0, (.slice aa' 1 ca')] 39)).heap.size := by rw [hB7]; simp
      rw [← hB7] at hb7 ne7 hs2 ⊢
      generalize w2.alloc (Obj.cells #[.int .i64 0, (.slice aa' 1 ca')] 39) = w3 at *
      clear hX1 hX2 own7 hB7
      go_wp2_with fail
      refine (new21 1 1 _ (by decide) (by omega)).mono ?_
      rintro e w4 ⟨vb, rfl, own8, hX4⟩
      obtain ⟨ab', cb', rfl⟩ := owns_form own8
      go_upto_region 7 with (fail)
      have hX5 := Below.al (Below.call hX3 hX4) (Obj.cells #[.int .i64 0, (.slice ab' 1 cb')] 39)
      have hD4 := Below.al hX4 (Obj.cells #[.int .i64 0, (.slice ab' 1 cb')] 39)
      have hb7' := Blk.below hb7 hD4 hl7
      have own7'' := owns_below own7' hD4 (Nat.le_refl _)
      have hb8 : Blk (w4.alloc (Obj.cells #[.int .i64 0, (.slice ab' 1 cb')] 39)) w4.heap.size 39 #[.int .i64 0, (.slice ab' 1 cb')] := Blk.newAt _ _ _ rfl
      have own8' := owns_base (owns_below own8 (Below.al (Below.refl _ _) (Obj.cells #[.int .i64 0, (.slice ab' 1 cb')] 39)) (Nat.le_refl _)) (Nat.zero_le _)
      have ne8 : ∀ g, (Value.slice ab' 1 cb').ownBlock = some g → w3.heap.size ≤ g ∧ g < w4.heap.size := fun g hg => own8.lt g hg
      have h34 := hX4.size
      obtain ⟨B8, hB8⟩ : ∃ b, b = w4.heap.size := ⟨_, rfl⟩
      have hl8 : B8 < (w4.alloc (Obj.cells #[.int .i64 0, (.slice ab' 1 cb')] 39)).heap.size := by rw [hB8]; simp
      have hB78 : B7 < B8 := by omega
      have ne8' : ∀ g, (Value.slice ab' 1 cb').ownBlock = some g → B7 < g ∧ g < B8 := fun g hg => by have := ne8 g hg; omega
      rw [← hB8] at hb8 ⊢
      generalize w4.alloc (Obj.cells #[.int .i64 0, (.slice ab' 1 cb')] 39) = w5 at *
      clear hX3 hX4 own8 hB8 hb7 own7' hD4 ne8 h34 hl7
      go_wp2_with fail
      refine (new21 1 1 _ (by decide) (by omega)).mono ?_
      rintro e w6 ⟨vc, rfl, own9, hX6⟩
      obtain ⟨ac', cc', rfl⟩ := owns_form own9
      go_upto_region 8 with (fail)
      have hX7 := Below.al (Below.call hX5 hX6) (Obj.cells #[.int .i64 0, (.slice ac' 1 cc')] 39)
      have hD6 := Below.al hX6 (Obj.cells #[.int .i64 0, (.slice ac' 1 cc')] 39)
      have hb7e := Blk.below hb7' hD6 (Blk.lt hb7')
      have hb8e := Blk.below hb8 hD6 hl8
      have own7e := owns_below own7'' hD6 (Nat.le_refl _)
      have own8e := owns_below own8' hD6 (Nat.le_refl _)
      have hb9e : Blk (w6.alloc (Obj.cells #[.int .i64 0, (.slice ac' 1 cc')] 39)) w6.heap.size 39 #[.int .i64 0, (.slice ac' 1 cc')] := Blk.newAt _ _ _ rfl
      have own9e := owns_base (owns_below own9 (Below.al (Below.refl _ _) (Obj.cells #[.int .i64 0, (.slice ac' 1 cc')] 39)) (Nat.le_refl _)) (Nat.zero_le _)
      have ne9 : ∀ g, (Value.slice ac' 1 cc').ownBlock = some g → w5.heap.size ≤ g ∧ g < w6.heap.size := fun g hg => own9.lt g hg
      have h56 := hX6.size
      obtain ⟨B9, hB9⟩ : ∃ b, b = w6.heap.size := ⟨_, rfl⟩
      have hB89 : B8 < B9 := by omega
      have ne9' : ∀ g, (Value.slice ac' 1 cc').ownBlock = some g → B8 < g ∧ g < B9 := fun g hg => by have := ne9 g hg; omega
      rw [← hB9] at hb9e ⊢
      generalize w6.alloc (Obj.cells #[.int .i64 0, (.slice ac' 1 cc')] 39) = w7 at *
      have HA : Hid (Bx w7 B7 B8 B9 B7 0 zeroP (.slice aa' 1 ca')) := ⟨hb7e, own7e, fun g hg => by have := ne7 g hg; omega⟩
      have HB : Hid (Bx w7 B7 B8 B9 B8 0 zeroP (.slice ab' 1 cb')) := ⟨hb8e, own8e, fun g hg => by have := ne8' g hg; omega⟩
      have HC : Hid (Bx w7 B7 B8 B9 B9 0 zeroP (.slice ac' 1 cc')) := ⟨hb9e, own9e, fun g hg => by have := ne9' g hg; omega⟩
      have HX := Lib.hid hX7
      have hBB : w.heap.size ≤ B7 ∧ B7 < B8 ∧ B8 < B9 := ⟨hs2, hB78, hB89⟩
      obtain ⟨q, hq⟩ : ∃ q : Nat, q = K.toNat % ms.length := ⟨_, rfl⟩
      have hqn : 0 < ms.length → K.tmod (ms.length : Int) = (q : Int) ∧ q < ms.length := by
        intro h
        refine ⟨?_, by rw [hq]; exact Nat.mod_lt _ h⟩
        have h2 := (Int.ofNat_tmod K.toNat ms.length).symm
        rw [Int.toNat_of_nonneg hK0] at h2
        rw [h2, hq]
      clear hX5 hX6 own9 hB9 hb7' hb8 own7'' own8' hD6 ne9 h56 hl8 hb7e hb8e hb9e own7e own8e own9e ne7 ne8' ne9' hX7 hs2 hB78 hB89 hq
      go_wp2_with fail
      go_loopw [11] (fun i wr => ∃ (k : Nat) (va vb vc : Value) (pa pb pc : Prt), k ≤ ms.length ∧ i = .int .i64 k ∧ Bx wr B7 B8 B9 B7 k pa va ∧ Bx wr B7 B8 B9 B8 k pb vb ∧ Bx wr B7 B8 B9 B9 k pc vc ∧
        Hid (foldF (fun i => ms.getD i 0) k = pa) ∧ Hid (foldF (fun i => ms.getD (ms.length - 1 - i) 0) k = pb) ∧ Hid (foldF (fun i => ms.getD ((i + q) % ms.length) 0) k = pc) ∧ Below w.heap.size w wr) (fun i _ => ms.length - (intOf i).toNat)
      case atStart => exact ⟨0, _, _, _, zeroP, zeroP, zeroP, by omega, rfl, HA.out, HB.out, HC.out, rfl, rfl, rfl, HX.out⟩
      case round =>
        obtain ⟨k, va, vb, vc, pa, pb, pc, hk, rfl, hA, hB, hC, hpa, hpb, hpc, hBq⟩ := hrel
        obtain ⟨wq, hwq⟩ : ∃ wq : World, wq = wr := ⟨_, rfl⟩
        rw [← hwq] at hA hB hC hBq ⊢
        clear hwq
        by_cases hlt : k < ms.length
        · have d1 : decide ((k : Int) < ms.length) = true := by simp; omega
          have hn0 : ((ms.length : Int) == 0) = false := beq_eq_false_iff_ne.2 (by omega)
          have hne : ¬ ms = [] := fun h => by have h5 : ms.length = 0 := by rw [h]; rfl
                                              omega
          have hnz : ¬ ms.length = 0 := by omega
          have hql := (hqn (by omega)).2
          obtain ⟨j1, hj1⟩ : ∃ j, ms.length - 1 - k = j := ⟨_, rfl⟩
          obtain ⟨j2, hj2⟩ : ∃ j, (k + q) % ms.length = j := ⟨_, rfl⟩
          have hnp : 0 < ms.length := by omega
          have hq2 := hqn hnp
          have hj1l : j1 < ms.length := by omega
          have hj2l : j2 < ms.length := by rw [← hj2]; exact Nat.mod_lt _ hnp
          have i1 : (ms.length : Int) - 1 - (k : Int) = (j1 : Int) := by omega
          have i2 : K.tmod (ms.length : Int) = (q : Int) := hq2.1
          have i3 : ((k : Int) + (q : Int)).tmod (ms.length : Int) = (j2 : Int) := by
            have h := (Int.ofNat_tmod (k + q) ms.length).symm
            rw [hj2] at h
            simpa using h
          obtain ⟨cn, hcn⟩ : ∃ c : Int, wrap64 ((k : Int) + 1) = c := ⟨_, rfl⟩
          have hcnt : cn = ((k + 1 : Nat) : Int) := by rw [← hcn, w64 (by omega)]; omega
          have HCN := Lib.hid hcn
          clear hcn
          have HI1 := Lib.hid i1
          have HI2 := Lib.hid i2
          have HI3 := Lib.hid i3
          have dk : decide ((k : Int) < ms.length) = true := by simp; omega
          have dj1 : decide ((j1 : Int) < ms.length) = true := by simp; omega
          have dj2 : decide ((j2 : Int) < ms.length) = true := by simp; omega
          obtain ⟨b', off, rfl, hb', hcl⟩ := HC1.out (by omega)
          obtain ⟨x, hx⟩ : ∃ x, ms.getD k 0 = x := ⟨_, rfl⟩
          obtain ⟨y, hy⟩ : ∃ x, ms.getD j1 0 = x := ⟨_, rfl⟩
          obtain ⟨z, hz⟩ : ∃ x, ms.getD j2 0 = x := ⟨_, rfl⟩
          have hx64x := HMS.out k (by omega)
          have hx64y := HMS.out j1 (by omega)
          have hx64z := HMS.out j2 (by omega)
          rw [hx] at hx64x
          rw [hy] at hx64y
          rw [hz] at hx64z
          have rx := hcl k (by omega)
          have ry := hcl j1 (by omega)
          have rz := hcl j2 (by omega)
          rw [hx] at rx
          rw [hy] at ry
          rw [hz] at rz
          have sa : Hid (foldF (fun i => ms.getD i 0) (k + 1) = takeP pa x) := by rw [Hid, foldF_step, hpa.out, hx]
          have sb : Hid (foldF (fun i => ms.getD (ms.length - 1 - i) 0) (k + 1) = takeP pb y) := by rw [Hid, foldF_step, hpb.out, hj1, hy]
          have sc : Hid (foldF (fun i => ms.getD ((i + q) % ms.length) 0) (k + 1) = takeP pc z) := by rw [Hid, foldF_step, hpc.out, hj2, hz]
          have hw0 : w.heap.size ≤ B7 ∧ B7 < B8 ∧ B8 < B9 := hBB
          clear hcl hx hy hz hpa hpb hpc hq2 hj1 hj2 i1 i2 i3
          have cmx : wq.cell? ⟨b', off + k, none⟩ = some (.int .i64 x) := (hBq.cell (by exact hb')).trans rx
          go_wp2_with fail
          refine hp_start (fun w' => Below w.heap.size wq w') 8 rfl (by kernel_rfl) (fun c a a' w hd h => ⟨hd ▸ h.1, h.2⟩) (fun hP => ?_)
          rw [show Array.replicate 8 false = #[false, false, false, false, false, false, false, false] from rfl]
          have HS0 : Below w.heap.size wq wq.drew := (Below.refl _ _).drew
          refine hp_take hP 1 (some 34) _ rfl rfl (by kernel_rfl) rfl (fun w' hS' => by go_simp; rfl) HS0 ?_
          simp only [Act.put, List.setIfInBounds_toArray, List.set_cons_zero, List.set_cons_succ]
          refine hp_take hP 2 (some 35) _ rfl rfl (by kernel_rfl) rfl (fun w' hS' => by go_simp; rfl) HS0 ?_
          simp only [Act.put, List.setIfInBounds_toArray, List.set_cons_zero, List.set_cons_succ]
          refine hp_take hP 3 (some 36) (.pointer (some ⟨b', off + k, none⟩)) rfl rfl (by kernel_rfl) rfl (fun w' hS' => by go_simp <;> (intro h; omega)) HS0 ?_
          simp only [Act.put, List.setIfInBounds_toArray, List.set_cons_zero, List.set_cons_succ]
          refine hp_take hP 4 (some 37) _ rfl rfl (by kernel_rfl) rfl (fun w' hS' => by have cc := (hS'.cell (show b' < w.heap.size by omega)).trans cmx; go_simp; rfl) HS0 ?_
          simp only [Act.put, List.setIfInBounds_toArray, List.set_cons_zero, List.set_cons_succ]
          have hlq : w.heap.size ≤ wq.heap.size := hBq.size
          refine hp_pair 0 5 33 38 (.agg #[.int .i64 (k : Int), va]) (.slice (some ⟨wq.heap.size, 0, none⟩) 1 1) (wq.drew.alloc (Obj.cells #[.int .i64 x] 2)) (by decide) (by decide) rfl rfl rfl rfl (by kernel_rfl) (by kernel_rfl) (by kernel_rfl) rfl rfl (exec_load_at (w := wq.drew) 39 (.tmp 7) rfl B7 0 rfl #[.int .i64 (k : Int), va] _ (fun i _ => by rw [Nat.zero_add]; exact Blk.cell (Blk.drew hA.blk) i) Try.underlying39 rfl info39) (exec_load_at (w := wq.drew.alloc (Obj.cells #[.int .i64 x] 2)) 39 (.tmp 7) rfl B7 0 rfl #[.int .i64 (k : Int), va] _ (fun i _ => by rw [Nat.zero_add]; exact Blk.cell (Blk.alloc (Blk.drew hA.blk) _) i) Try.underlying39 rfl info39) (by go_simp) (by go_simp) HS0 (HS0.alloc hlq _) ?_
          simp only [Act.put, List.setIfInBounds_toArray, List.set_cons_zero, List.set_cons_succ]
          have hD := Below.al (Below.drew (Below.refl wq.heap.size wq)) (Obj.cells #[.int .i64 x] 2)
          have g0 := Bx.below hA hD
          have g1 := Bx.below hB hD
          have g2 := Bx.below hC hD
          have HS1 : Below w.heap.size wq (wq.drew.alloc (Obj.cells #[.int .i64 x] 2)) := HS0.alloc hlq _
          refine hp_call 6 (some 39) rfl rfl (by kernel_rfl) rfl 27 #[.agg #[.int .i64 (k : Int), va], .slice (some ⟨wq.heap.size, 0, none⟩) 1 1] (by go_simp) ((take27 [pa] [x] k va _ _ g0.row g0.som (rowI_one wq.drew x) (by simp) (one_in x hx64x)).mono ?_)
          rw [HCN.out]
          rintro e w3 ⟨v', rfl, hown, hB3⟩
          have HS2 : Below w.heap.size wq w3 := HS1.trans (hB3.mono (Nat.le_trans hlq hD.size))
          have f0 := Bx.taken (c := cn) (g0.below hB3) (by simp) ⟨Blk.lt g0.blk, Blk.lt g1.blk, Blk.lt g2.blk⟩ hcnt hown
          have f1 := Bx.other (g1.below hB3) (g := B7) (by simp) (by omega) #[.int .i64 cn, v']
          have f2 := Bx.other (g2.below hB3) (g := B7) (by simp) (by omega) #[.int .i64 cn, v']
          refine ⟨_, rfl, HS2, ?_⟩
          simp only [Act.put, List.setIfInBounds_toArray, List.set_cons_zero, List.set_cons_succ]
          refine hp_store_row 7 rfl rfl (by kernel_rfl) rfl 39 _ _ rfl B7 #[.int .i64 cn, v'] rfl rfl 39 _ (g0.below hB3).blk info39 rfl (by have := owns_form hown; obtain ⟨a, c, rfl⟩ := this; simp [Value.oneCell']) (Below.setRow HS2 (by omega) _) ?_
          simp only [List.setIfInBounds_toArray, List.set_cons_zero, List.set_cons_succ]
          refine hk_done (by kernel_rfl) ?_
          have hBz : Below w.heap.size w (w3.setRow B7 #[.int .i64 cn, v']) := hBq.trans (Below.setRow HS2 (by omega) _)
          generalize w3.setRow B7 #[.int .i64 cn, v'] = wz at *
          clear g0 g1 g2 hD HS0 HS1 HS2 hB3 hown hP hlq hA hB hC hBq
          have cmy : wz.cell? ⟨b', off + j1, none⟩ = some (.int .i64 y) := (hBz.cell (by exact hb')).trans ry
          clear cmx rx
          have hBq := hBz
          obtain ⟨wq, hwq⟩ : ∃ wq : World, wq = wz := ⟨_, rfl⟩
          rw [← hwq] at f0 f1 f2 hBq cmy ⊢
          clear hwq hBz
          have hA := f0
          have hB := f1
          have hC := f2
          clear f0 f1 f2
          go_wp2_with fail
          refine hp_start (fun w' => Below w.heap.size wq w') 11 rfl (by kernel_rfl) (fun c a a' w hd h => ⟨hd ▸ h.1, h.2⟩) (fun hP => ?_)
          rw [show Array.replicate 11 false = #[false, false, false, false, false, false, false, false, false, false, false] from rfl]
          have HS0 : Below w.heap.size wq wq.drew := (Below.refl _ _).drew
          refine hp_take hP 1 (some 41) _ rfl rfl (by kernel_rfl) rfl (fun w' hS' => by go_simp; rfl) HS0 ?_
          simp only [Act.put, List.setIfInBounds_toArray, List.set_cons_zero, List.set_cons_succ]
          refine hp_take hP 2 (some 42) _ rfl rfl (by kernel_rfl) rfl (fun w' hS' => by go_simp; rfl) HS0 ?_
          simp only [Act.put, List.setIfInBounds_toArray, List.set_cons_zero, List.set_cons_succ]
          refine hp_take hP 3 (some 43) (.int .i64 ((ms.length : Int) - 1)) rfl rfl (by kernel_rfl) rfl (fun w' hS' => by go_simp <;> exact IntWalk.i64_in _ (by omega)) HS0 ?_
          simp only [Act.put, List.setIfInBounds_toArray, List.set_cons_zero, List.set_cons_succ]
          refine hp_take hP 4 (some 44) _ rfl rfl (by kernel_rfl) rfl (fun w' hS' => by go_simp; rfl) HS0 ?_
          simp only [Act.put, List.setIfInBounds_toArray, List.set_cons_zero, List.set_cons_succ]
          refine hp_take hP 5 (some 45) (.int .i64 (j1 : Int)) rfl rfl (by kernel_rfl) rfl (fun w' hS' => by have h2 := HI1.out; go_simp <;> (first | exact h2 | (rw [IntWalk.i64_in _ (by omega)] <;> exact h2))) HS0 ?_
          simp only [Act.put, List.setIfInBounds_toArray, List.set_cons_zero, List.set_cons_succ]
          refine hp_take hP 6 (some 46) (.pointer (some ⟨b', off + j1, none⟩)) rfl rfl (by kernel_rfl) rfl (fun w' hS' => by go_simp <;> (intro h; omega)) HS0 ?_
          simp only [Act.put, List.setIfInBounds_toArray, List.set_cons_zero, List.set_cons_succ]
          refine hp_take hP 7 (some 47) _ rfl rfl (by kernel_rfl) rfl (fun w' hS' => by have cc := (hS'.cell (show b' < w.heap.size by omega)).trans cmy; go_simp; rfl) HS0 ?_
          simp only [Act.put, List.setIfInBounds_toArray, List.set_cons_zero, List.set_cons_succ]
          have hlq : w.heap.size ≤ wq.heap.size := hBq.size
          refine hp_pair 0 8 40 48 (.agg #[.int .i64 (k : Int), vb]) (.slice (some ⟨wq.heap.size, 0, none⟩) 1 1) (wq.drew.alloc (Obj.cells #[.int .i64 y] 2)) (by decide) (by decide) rfl rfl rfl rfl (by kernel_rfl) (by kernel_rfl) (by kernel_rfl) rfl rfl (exec_load_at (w := wq.drew) 39 (.tmp 8) rfl B8 0 rfl #[.int .i64 (k : Int), vb] _ (fun i _ => by rw [Nat.zero_add]; exact Blk.cell (Blk.drew hB.blk) i) Try.underlying39 rfl info39) (exec_load_at (w := wq.drew.alloc (Obj.cells #[.int .i64 y] 2)) 39 (.tmp 8) rfl B8 0 rfl #[.int .i64 (k : Int), vb] _ (fun i _ => by rw [Nat.zero_add]; exact Blk.cell (Blk.alloc (Blk.drew hB.blk) _) i) Try.underlying39 rfl info39) (by go_simp) (by go_simp) HS0 (HS0.alloc hlq _) ?_
          simp only [Act.put, List.setIfInBounds_toArray, List.set_cons_zero, List.set_cons_succ]
          have hD := Below.al (Below.drew (Below.refl wq.heap.size wq)) (Obj.cells #[.int .i64 y] 2)
          have g0 := Bx.below hB hD
          have g1 := Bx.below hA hD
          have g2 := Bx.below hC hD
          have HS1 : Below w.heap.size wq (wq.drew.alloc (Obj.cells #[.int .i64 y] 2)) := HS0.alloc hlq _
          refine hp_call 9 (some 49) rfl rfl (by kernel_rfl) rfl 27 #[.agg #[.int .i64 (k : Int), vb], .slice (some ⟨wq.heap.size, 0, none⟩) 1 1] (by go_simp) ((take27 [pb] [y] k vb _ _ g0.row g0.som (rowI_one wq.drew y) (by simp) (one_in y hx64y)).mono ?_)
          rw [HCN.out]
          rintro e w3 ⟨v', rfl, hown, hB3⟩
          have HS2 : Below w.heap.size wq w3 := HS1.trans (hB3.mono (Nat.le_trans hlq hD.size))
          have f0 := Bx.taken (c := cn) (g0.below hB3) (by simp) ⟨Blk.lt g1.blk, Blk.lt g0.blk, Blk.lt g2.blk⟩ hcnt hown
          have f1 := Bx.other (g1.below hB3) (g := B8) (by simp) (by omega) #[.int .i64 cn, v']
          have f2 := Bx.other (g2.below hB3) (g := B8) (by simp) (by omega) #[.int .i64 cn, v']
          refine ⟨_, rfl, HS2, ?_⟩
          simp only [Act.put, List.setIfInBounds_toArray, List.set_cons_zero, List.set_cons_succ]
          refine hp_store_row 10 rfl rfl (by kernel_rfl) rfl 39 _ _ rfl B8 #[.int .i64 cn, v'] rfl rfl 39 _ (g0.below hB3).blk info39 rfl (by have := owns_form hown; obtain ⟨a, c, rfl⟩ := this; simp [Value.oneCell']) (Below.setRow HS2 (by omega) _) ?_
          simp only [List.setIfInBounds_toArray, List.set_cons_zero, List.set_cons_succ]
          refine hk_done (by kernel_rfl) ?_
          have hBz : Below w.heap.size w (w3.setRow B8 #[.int .i64 cn, v']) := hBq.trans (Below.setRow HS2 (by omega) _)
          generalize w3.setRow B8 #[.int .i64 cn, v'] = wz at *
          clear g0 g1 g2 hD HS0 HS1 HS2 hB3 hown hP hlq hB hA hC hBq
          have cmz : wz.cell? ⟨b', off + j2, none⟩ = some (.int .i64 z) := (hBz.cell (by exact hb')).trans rz
          clear cmy ry
          have hBq := hBz
          obtain ⟨wq, hwq⟩ : ∃ wq : World, wq = wz := ⟨_, rfl⟩
          rw [← hwq] at f0 f1 f2 hBq cmz ⊢
          clear hwq hBz
          have hB := f0
          have hA := f1
          have hC := f2
          clear f0 f1 f2
          go_wp2_with fail
          refine hp_start (fun w' => Below w.heap.size wq w') 14 rfl (by kernel_rfl) (fun c a a' w hd h => ⟨hd ▸ h.1, h.2⟩) (fun hP => ?_)
          rw [show Array.replicate 14 false = #[false, false, false, false, false, false, false, false, false, false, false, false, false, false] from rfl]
          have HS0 : Below w.heap.size wq wq.drew := (Below.refl _ _).drew
          refine hp_take hP 1 (some 51) _ rfl rfl (by kernel_rfl) rfl (fun w' hS' => by go_simp; rfl) HS0 ?_
          simp only [Act.put, List.setIfInBounds_toArray, List.set_cons_zero, List.set_cons_succ]
          refine hp_take hP 2 (some 52) _ rfl rfl (by kernel_rfl) rfl (fun w' hS' => by go_simp; rfl) HS0 ?_
          simp only [Act.put, List.setIfInBounds_toArray, List.set_cons_zero, List.set_cons_succ]
          refine hp_take hP 3 (some 53) _ rfl rfl (by kernel_rfl) rfl (fun w' hS' => by go_simp; rfl) HS0 ?_
          simp only [Act.put, List.setIfInBounds_toArray, List.set_cons_zero, List.set_cons_succ]
          refine hp_take hP 4 (some 54) _ rfl rfl (by kernel_rfl) rfl (fun w' hS' => by go_simp; rfl) HS0 ?_
          simp only [Act.put, List.setIfInBounds_toArray, List.set_cons_zero, List.set_cons_succ]
          refine hp_take hP 5 (some 55) (.int .i64 (q : Int)) rfl rfl (by kernel_rfl) rfl (fun w' hS' => by have h2 := HI2.out; go_simp <;> (first | exact hne | exact hnz)) HS0 ?_
          simp only [Act.put, List.setIfInBounds_toArray, List.set_cons_zero, List.set_cons_succ]
          refine hp_take hP 6 (some 56) (.int .i64 ((k : Int) + q)) rfl rfl (by kernel_rfl) rfl (fun w' hS' => by go_simp <;> exact IntWalk.i64_in _ (by omega)) HS0 ?_
          simp only [Act.put, List.setIfInBounds_toArray, List.set_cons_zero, List.set_cons_succ]
          refine hp_take hP 7 (some 57) _ rfl rfl (by kernel_rfl) rfl (fun w' hS' => by go_simp; rfl) HS0 ?_
          simp only [Act.put, List.setIfInBounds_toArray, List.set_cons_zero, List.set_cons_succ]
          refine hp_take hP 8 (some 58) (.int .i64 (j2 : Int)) rfl rfl (by kernel_rfl) rfl (fun w' hS' => by have h2 := HI3.out; go_simp <;> (first | exact hne | exact hnz)) HS0 ?_
          simp only [Act.put, List.setIfInBounds_toArray, List.set_cons_zero, List.set_cons_succ]
          refine hp_take hP 9 (some 59) (.pointer (some ⟨b', off + j2, none⟩)) rfl rfl (by kernel_rfl) rfl (fun w' hS' => by go_simp <;> (intro h; omega)) HS0 ?_
          simp only [Act.put, List.setIfInBounds_toArray, List.set_cons_zero, List.set_cons_succ]
          refine hp_take hP 10 (some 60) _ rfl rfl (by kernel_rfl) rfl (fun w' hS' => by have cc := (hS'.cell (show b' < w.heap.size by omega)).trans cmz; go_simp; rfl) HS0 ?_
          simp only [Act.put, List.setIfInBounds_toArray, List.set_cons_zero, List.set_cons_succ]
          have hlq : w.heap.size ≤ wq.heap.size := hBq.size
          refine hp_pair 0 11 50 61 (.agg #[.int .i64 (k : Int), vc]) (.slice (some ⟨wq.heap.size, 0, none⟩) 1 1) (wq.drew.alloc (Obj.cells #[.int .i64 z] 2)) (by decide) (by decide) rfl rfl rfl rfl (by kernel_rfl) (by kernel_rfl) (by kernel_rfl) rfl rfl (exec_load_at (w := wq.drew) 39 (.tmp 9) rfl B9 0 rfl #[.int .i64 (k : Int), vc] _ (fun i _ => by rw [Nat.zero_add]; exact Blk.cell (Blk.drew hC.blk) i) Try.underlying39 rfl info39) (exec_load_at (w := wq.drew.alloc (Obj.cells #[.int .i64 z] 2)) 39 (.tmp 9) rfl B9 0 rfl #[.int .i64 (k : Int), vc] _ (fun i _ => by rw [Nat.zero_add]; exact Blk.cell (Blk.alloc (Blk.drew hC.blk) _) i) Try.underlying39 rfl info39) (by go_simp) (by go_simp) HS0 (HS0.alloc hlq _) ?_
          simp only [Act.put, List.setIfInBounds_toArray, List.set_cons_zero, List.set_cons_succ]
          have hD := Below.al (Below.drew (Below.refl wq.heap.size wq)) (Obj.cells #[.int .i64 z] 2)
          have g0 := Bx.below hC hD
          have g1 := Bx.below hA hD
          have g2 := Bx.below hB hD
          have HS1 : Below w.heap.size wq (wq.drew.alloc (Obj.cells #[.int .i64 z] 2)) := HS0.alloc hlq _
          refine hp_call 12 (some 62) rfl rfl (by kernel_rfl) rfl 27 #[.agg #[.int .i64 (k : Int), vc], .slice (some ⟨wq.heap.size, 0, none⟩) 1 1] (by go_simp) ((take27 [pc] [z] k vc _ _ g0.row g0.som (rowI_one wq.drew z) (by simp) (one_in z hx64z)).mono ?_)
          rw [HCN.out]
          rintro e w3 ⟨v', rfl, hown, hB3⟩
          have HS2 : Below w.heap.size wq w3 := HS1.trans (hB3.mono (Nat.le_trans hlq hD.size))
          have f0 := Bx.taken (c := cn) (g0.below hB3) (by simp) ⟨Blk.lt g1.blk, Blk.lt g2.blk, Blk.lt g0.blk⟩ hcnt hown
          have f1 := Bx.other (g1.below hB3) (g := B9) (by simp) (by omega) #[.int .i64 cn, v']
          have f2 := Bx.other (g2.below hB3) (g := B9) (by simp) (by omega) #[.int .i64 cn, v']
          refine ⟨_, rfl, HS2, ?_⟩
          simp only [Act.put, List.setIfInBounds_toArray, List.set_cons_zero, List.set_cons_succ]
          refine hp_store_row 13 rfl rfl (by kernel_rfl) rfl 39 _ _ rfl B9 #[.int .i64 cn, v'] rfl rfl 39 _ (g0.below hB3).blk info39 rfl (by have := owns_form hown; obtain ⟨a, c, rfl⟩ := this; simp [Value.oneCell']) (Below.setRow HS2 (by omega) _) ?_
          simp only [List.setIfInBounds_toArray, List.set_cons_zero, List.set_cons_succ]
          refine hk_done (by kernel_rfl) ?_
          have hBz : Below w.heap.size w (w3.setRow B9 #[.int .i64 cn, v']) := hBq.trans (Below.setRow HS2 (by omega) _)
          generalize w3.setRow B9 #[.int .i64 cn, v'] = wz at *
          clear g0 g1 g2 hD HS0 HS1 HS2 hB3 hown hP hlq hC hA hB hBq
          go_wp2_with fail
          go_roundw
          case rel => exact ⟨k + 1, _, _, _, _, _, _, by omega, by go_num, f1, f2, f0, sa, sb, sc, hBz⟩
          case measure => simp [intOf]; omega
        · obtain rfl : ms.length = k := by omega
          have dx : decide ((ms.length : Int) < ms.length) = false := by simp
          have e8 : pb = pa := by rw [← hpb.out, ← hpa.out]; exact fold_rev ms ms.length (by omega)
          have e9 : pc = pa := by
            rw [← hpc.out, ← hpa.out]
            by_cases h0 : 0 < ms.length
            · exact fold_rot ms ms.length q (by omega) (hqn h0).2
            · have h00 : ms.length = 0 := by omega
              rw [h00]; rfl
          have hbd : ∀ i, i < ms.length → pa.mn ≤ ms.getD i 0 ∧ ms.getD i 0 ≤ pa.mx := fun i hi => by
            have := fold_bd (fun i => ms.getD i 0) ms.length i hi
            rw [hpa.out] at this
            exact this.2
          subst e8
          subst e9
          obtain ⟨xa, ya, rfl⟩ := owns_form hA.own
          obtain ⟨xb, yb, rfl⟩ := owns_form hB.own
          obtain ⟨xc, yc, rfl⟩ := owns_form hC.own
          have HBD := Lib.hid hbd
          clear hpa hpb hpc hbd hqn
          have u0 : wq.cell? ⟨B7, 0, none⟩ = some (.int .i64 (ms.length : Int)) := Blk.cell hA.blk 0
          have u1 : wq.cell? ⟨B7, 1, none⟩ = some (.slice xa 1 ya) := Blk.cell hA.blk 1
          have u2 : wq.cell? ⟨B8, 0, none⟩ = some (.int .i64 (ms.length : Int)) := Blk.cell hB.blk 0
          have u3 : wq.cell? ⟨B8, 1, none⟩ = some (.slice xb 1 yb) := Blk.cell hB.blk 1
          go_wp2_with fail
          refine (same22 (ms.length : Int) _ _ [_] _ hA.row hB.row).mono ?_
          rintro e w8 ⟨rfl, hE1⟩
          have hA2 := hA.below hE1
          have hC2 := hC.below hE1
          have hF1 := Below.call hBq hE1
          clear u0 u1 u2 u3 hA hB hC hBq hE1
          have u0 : w8.cell? ⟨B7, 0, none⟩ = some (.int .i64 (ms.length : Int)) := Blk.cell hA2.blk 0
          have u1 : w8.cell? ⟨B7, 1, none⟩ = some (.slice xa 1 ya) := Blk.cell hA2.blk 1
          have u2 : w8.cell? ⟨B9, 0, none⟩ = some (.int .i64 (ms.length : Int)) := Blk.cell hC2.blk 0
          have u3 : w8.cell? ⟨B9, 1, none⟩ = some (.slice xc 1 yc) := Blk.cell hC2.blk 1
          go_wp2_with fail
          refine (same22 (ms.length : Int) _ _ [_] _ hA2.row hC2.row).mono ?_
          rintro e w9 ⟨rfl, hE2⟩
          have hA3 := hA2.below hE2
          have hF2 := Below.call hF1 hE2
          clear u0 u1 u2 u3 hA2 hC2 hF1 hE2
          have u0 : w9.cell? ⟨B7, 0, none⟩ = some (.int .i64 (ms.length : Int)) := Blk.cell hA3.blk 0
          have u1 : w9.cell? ⟨B7, 1, none⟩ = some (.slice xa 1 ya) := Blk.cell hA3.blk 1
          by_cases h0 : 0 < ms.length
          · have d0 : decide ((0 : Int) < ms.length) = true := by simp; omega
            obtain ⟨a5, c5, hv5, -, -, hcc⟩ := hA3.row.open
            obtain ⟨g, off, h9, hg, hcells⟩ := hcc (by simp)
            injection hv5 with z1 z2 z3
            subst h9
            subst z1
            clear z2 z3 hcc
            have m3 := hcells 0 3 (by simp) (by omega)
            have m4 := hcells 0 4 (by simp) (by omega)
            have hmm := HBD.out 0 h0
            simp only [List.getD_cons_zero] at m3 m4
            rw [Nat.zero_mul, Nat.add_zero] at m3 m4
            obtain ⟨b', off', rfl, hb', hcl⟩ := HC1.out (by omega)
            have rx := hcl 0 (by omega)
            rw [Nat.add_zero] at rx
            obtain ⟨x, hx⟩ : ∃ x, ms.getD 0 0 = x := ⟨_, rfl⟩
            rw [hx] at rx hmm
            have cmx : w9.cell? ⟨b', off', none⟩ = some (.int .i64 x) := (hF2.cell (by exact hb')).trans rx
            have m3' : w9.cell? ⟨g, off + 3, none⟩ = some (.int .i64 pc.mn) := m3
            have m4' : w9.cell? ⟨g, off + 4, none⟩ = some (.int .i64 pc.mx) := m4
            have t1 : decide (x < pc.mn) = false := by simp; omega
            have t2 : decide (pc.mx < x) = false := by simp; omega
            have dl : decide ((0 : Int) < ms.length) = true := by simp; omega
            clear m3 m4 rx hcl hcells hx hmm
            go_wp2_with fail
            go_quiet (fail)
            go_wp2_with fail
            go_ret
            exact ⟨by first | rfl | simp, Below.drewN hF2 _⟩
          · have d0 : decide ((0 : Int) < ms.length) = false := decide_eq_false (by omega)
            go_wp2_with fail
            go_quiet (fail)
            go_wp2_with fail
            go_ret
            exact ⟨by first | rfl | simp, Below.drewN hF2 _⟩
    · have gt0 : decide (turn < 0) = false := by simpa using ht0
      have hKt : K = turn := by rw [hK, if_neg ht0]
      clear hK
      subst hKt
      go_enter Try.func7, Try.ntmps7
      go_wp2_with fail
      refine (awake10 _).mono ?_
      rintro e w1 ⟨rfl, hX1⟩
      go_wp2_with fail
      refine (new21 1 1 _ (by decide) (by omega)).mono ?_
      rintro e w2 ⟨va, rfl, own7, hX2⟩
      obtain ⟨aa', ca', rfl⟩ := owns_form own7
      go_upto_region 6 with (fail)
      have hX3 := Below.al (Below.call hX1 hX2) (Obj.cells #[.int .i64 0, (.slice aa' 1 ca')] 39)
      have hb7 : Blk (w2.alloc (Obj.cells #[.int .i64 0, (.slice aa' 1 ca')] 39)) w2.heap.size 39 #[.int .i64 0, (.slice aa' 1 ca')] := Blk.newAt _ _ _ rfl
      have hs2 : w.heap.size ≤ w2.heap.size := (Below.call hX1 hX2).size
      have own7' := owns_base (owns_below own7 (Below.al (Below.refl _ _) (Obj.cells #[.int .i64 0, (.slice aa' 1 ca')] 39)) (Nat.le_refl _)) (Nat.zero_le _)
      have ne7 : ∀ g, (Value.slice aa' 1 ca').ownBlock = some g → g < w2.heap.size := fun g hg => (own7.lt g hg).2
      obtain ⟨B7, hB7⟩ : ∃ b, b = w2.heap.size := ⟨_, rfl⟩
      have hl7 : B7 < (w2.alloc (Obj.cells #[.int .i64 0, (.slice aa' 1 ca')] 39)).heap.size := by rw [hB7]; simp
      rw [← hB7] at hb7 ne7 hs2 ⊢
      generalize w2.alloc (Obj.cells #[.int .i64 0, (.slice aa' 1 ca')] 39) = w3 at *
      clear hX1 hX2 own7 hB7
      go_wp2_with fail
      refine (new21 1 1 _ (by decide) (by omega)).mono ?_
      rintro e w4 ⟨vb, rfl, own8, hX4⟩
      obtain ⟨ab', cb', rfl⟩ := owns_form own8
      go_upto_region 7 with (fail)
      have hX5 := Below.al (Below.call hX3 hX4) (Obj.cells #[.int .i64 0, (.slice ab' 1 cb')] 39)
      have hD4 := Below.al hX4 (Obj.cells #[.int .i64 0, (.slice ab' 1 cb')] 39)
      have hb7' := Blk.below hb7 hD4 hl7
      have own7'' := owns_below own7' hD4 (Nat.le_refl _)
      have hb8 : Blk (w4.alloc (Obj.cells #[.int .i64 0, (.slice ab' 1 cb')] 39)) w4.heap.size 39 #[.int .i64 0, (.slice ab' 1 cb')] := Blk.newAt _ _ _ rfl
      have own8' := owns_base (owns_below own8 (Below.al (Below.refl _ _) (Obj.cells #[.int .i64 0, (.slice ab' 1 cb')] 39)) (Nat.le_refl _)) (Nat.zero_le _)
      have ne8 : ∀ g, (Value.slice ab' 1 cb').ownBlock = some g → w3.heap.size ≤ g ∧ g < w4.heap.size := fun g hg => own8.lt g hg
      have h34 := hX4.size
      obtain ⟨B8, hB8⟩ : ∃ b, b = w4.heap.size := ⟨_, rfl⟩
      have hl8 : B8 < (w4.alloc (Obj.cells #[.int .i64 0, (.slice ab' 1 cb')] 39)).heap.size := by rw [hB8]; simp
      have hB78 : B7 < B8 := by omega
      have ne8' : ∀ g, (Value.slice ab' 1 cb').ownBlock = some g → B7 < g ∧ g < B8 := fun g hg => by have := ne8 g hg; omega
      rw [← hB8] at hb8 ⊢
      generalize w4.alloc (Obj.cells #[.int .i64 0, (.slice ab' 1 cb')] 39) = w5 at *
      clear hX3 hX4 own8 hB8 hb7 own7' hD4 ne8 h34 hl7
      go_wp2_with fail
      refine (new21 1 1 _ (by decide) (by omega)).mono ?_
      rintro e w6 ⟨vc, rfl, own9, hX6⟩
      obtain ⟨ac', cc', rfl⟩ := owns_form own9
      go_upto_region 8 with (fail)
      have hX7 := Below.al (Below.call hX5 hX6) (Obj.cells #[.int .i64 0, (.slice ac' 1 cc')] 39)
      have hD6 := Below.al hX6 (Obj.cells #[.int .i64 0, (.slice ac' 1 cc')] 39)
      have hb7e := Blk.below hb7' hD6 (Blk.lt hb7')
      have hb8e := Blk.below hb8 hD6 hl8
      have own7e := owns_below own7'' hD6 (Nat.le_refl _)
      have own8e := owns_below own8' hD6 (Nat.le_refl _)
      have hb9e : Blk (w6.alloc (Obj.cells #[.int .i64 0, (.slice ac' 1 cc')] 39)) w6.heap.size 39 #[.int .i64 0, (.slice ac' 1 cc')] := Blk.newAt _ _ _ rfl
      have own9e := owns_base (owns_below own9 (Below.al (Below.refl _ _) (Obj.cells #[.int .i64 0, (.slice ac' 1 cc')] 39)) (Nat.le_refl _)) (Nat.zero_le _)
      have ne9 : ∀ g, (Value.slice ac' 1 cc').ownBlock = some g → w5.heap.size ≤ g ∧ g < w6.heap.size := fun g hg => own9.lt g hg
      have h56 := hX6.size
      obtain ⟨B9, hB9⟩ : ∃ b, b = w6.heap.size := ⟨_, rfl⟩
      have hB89 : B8 < B9 := by omega
      have ne9' : ∀ g, (Value.slice ac' 1 cc').ownBlock = some g → B8 < g ∧ g < B9 := fun g hg => by have := ne9 g hg; omega
      rw [← hB9] at hb9e ⊢
      generalize w6.alloc (Obj.cells #[.int .i64 0, (.slice ac' 1 cc')] 39) = w7 at *
      have HA : Hid (Bx w7 B7 B8 B9 B7 0 zeroP (.slice aa' 1 ca')) := ⟨hb7e, own7e, fun g hg => by have := ne7 g hg; omega⟩
      have HB : Hid (Bx w7 B7 B8 B9 B8 0 zeroP (.slice ab' 1 cb')) := ⟨hb8e, own8e, fun g hg => by have := ne8' g hg; omega⟩
      have HC : Hid (Bx w7 B7 B8 B9 B9 0 zeroP (.slice ac' 1 cc')) := ⟨hb9e, own9e, fun g hg => by have := ne9' g hg; omega⟩
      have HX := Lib.hid hX7
      have hBB : w.heap.size ≤ B7 ∧ B7 < B8 ∧ B8 < B9 := ⟨hs2, hB78, hB89⟩
      obtain ⟨q, hq⟩ : ∃ q : Nat, q = K.toNat % ms.length := ⟨_, rfl⟩
      have hqn : 0 < ms.length → K.tmod (ms.length : Int) = (q : Int) ∧ q < ms.length := by
        intro h
        refine ⟨?_, by rw [hq]; exact Nat.mod_lt _ h⟩
        have h2 := (Int.ofNat_tmod K.toNat ms.length).symm
        rw [Int.toNat_of_nonneg hK0] at h2
        rw [h2, hq]
      clear hX5 hX6 own9 hB9 hb7' hb8 own7'' own8' hD6 ne9 h56 hl8 hb7e hb8e hb9e own7e own8e own9e ne7 ne8' ne9' hX7 hs2 hB78 hB89 hq
      go_wp2_with fail
      go_loopw [11] (fun i wr => ∃ (k : Nat) (va vb vc : Value) (pa pb pc : Prt), k ≤ ms.length ∧ i = .int .i64 k ∧ Bx wr B7 B8 B9 B7 k pa va ∧ Bx wr B7 B8 B9 B8 k pb vb ∧ Bx wr B7 B8 B9 B9 k pc vc ∧
        Hid (foldF (fun i => ms.getD i 0) k = pa) ∧ Hid (foldF (fun i => ms.getD (ms.length - 1 - i) 0) k = pb) ∧ Hid (foldF (fun i => ms.getD ((i + q) % ms.length) 0) k = pc) ∧ Below w.heap.size w wr) (fun i _ => ms.length - (intOf i).toNat)
      case atStart => exact ⟨0, _, _, _, zeroP, zeroP, zeroP, by omega, rfl, HA.out, HB.out, HC.out, rfl, rfl, rfl, HX.out⟩
      case round =>
        obtain ⟨k, va, vb, vc, pa, pb, pc, hk, rfl, hA, hB, hC, hpa, hpb, hpc, hBq⟩ := hrel
        obtain ⟨wq, hwq⟩ : ∃ wq : World, wq = wr := ⟨_, rfl⟩
        rw [← hwq] at hA hB hC hBq ⊢
        clear hwq
        by_cases hlt : k < ms.length
        · have d1 : decide ((k : Int) < ms.length) = true := by simp; omega
          have hn0 : ((ms.length : Int) == 0) = false := beq_eq_false_iff_ne.2 (by omega)
          have hne : ¬ ms = [] := fun h => by have h5 : ms.length = 0 := by rw [h]; rfl
                                              omega
          have hnz : ¬ ms.length = 0 := by omega
          have hql := (hqn (by omega)).2
          obtain ⟨j1, hj1⟩ : ∃ j, ms.length - 1 - k = j := ⟨_, rfl⟩
          obtain ⟨j2, hj2⟩ : ∃ j, (k + q) % ms.length = j := ⟨_, rfl⟩
          have hnp : 0 < ms.length := by omega
          have hq2 := hqn hnp
          have hj1l : j1 < ms.length := by omega
          have hj2l : j2 < ms.length := by rw [← hj2]; exact Nat.mod_lt _ hnp
          have i1 : (ms.length : Int) - 1 - (k : Int) = (j1 : Int) := by omega
          have i2 : K.tmod (ms.length : Int) = (q : Int) := hq2.1
          have i3 : ((k : Int) + (q : Int)).tmod (ms.length : Int) = (j2 : Int) := by
            have h := (Int.ofNat_tmod (k + q) ms.length).symm
            rw [hj2] at h
            simpa using h
          obtain ⟨cn, hcn⟩ : ∃ c : Int, wrap64 ((k : Int) + 1) = c := ⟨_, rfl⟩
          have hcnt : cn = ((k + 1 : Nat) : Int) := by rw [← hcn, w64 (by omega)]; omega
          have HCN := Lib.hid hcn
          clear hcn
          have HI1 := Lib.hid i1
          have HI2 := Lib.hid i2
          have HI3 := Lib.hid i3
          have dk : decide ((k : Int) < ms.length) = true := by simp; omega
          have dj1 : decide ((j1 : Int) < ms.length) = true := by simp; omega
          have dj2 : decide ((j2 : Int) < ms.length) = true := by simp; omega
          obtain ⟨b', off, rfl, hb', hcl⟩ := HC1.out (by omega)
          obtain ⟨x, hx⟩ : ∃ x, ms.getD k 0 = x := ⟨_, rfl⟩
          obtain ⟨y, hy⟩ : ∃ x, ms.getD j1 0 = x := ⟨_, rfl⟩
          obtain ⟨z, hz⟩ : ∃ x, ms.getD j2 0 = x := ⟨_, rfl⟩
          have hx64x := HMS.out k (by omega)
          have hx64y := HMS.out j1 (by omega)
          have hx64z := HMS.out j2 (by omega)
          rw [hx] at hx64x
          rw [hy] at hx64y
          rw [hz] at hx64z
          have rx := hcl k (by omega)
          have ry := hcl j1 (by omega)
          have rz := hcl j2 (by omega)
          rw [hx] at rx
          rw [hy] at ry
          rw [hz] at rz
          have sa : Hid (foldF (fun i => ms.getD i 0) (k + 1) = takeP pa x) := by rw [Hid, foldF_step, hpa.out, hx]
          have sb : Hid (foldF (fun i => ms.getD (ms.length - 1 - i) 0) (k + 1) = takeP pb y) := by rw [Hid, foldF_step, hpb.out, hj1, hy]
          have sc : Hid (foldF (fun i => ms.getD ((i + q) % ms.length) 0) (k + 1) = takeP pc z) := by rw [Hid, foldF_step, hpc.out, hj2, hz]
          have hw0 : w.heap.size ≤ B7 ∧ B7 < B8 ∧ B8 < B9 := hBB
          clear hcl hx hy hz hpa hpb hpc hq2 hj1 hj2 i1 i2 i3
          have cmx : wq.cell? ⟨b', off + k, none⟩ = some (.int .i64 x) := (hBq.cell (by exact hb')).trans rx
          go_wp2_with fail
          refine hp_start (fun w' => Below w.heap.size wq w') 8 rfl (by kernel_rfl) (fun c a a' w hd h => ⟨hd ▸ h.1, h.2⟩) (fun hP => ?_)
          rw [show Array.replicate 8 false = #[false, false, false, false, false, false, false, false] from rfl]
          have HS0 : Below w.heap.size wq wq.drew := (Below.refl _ _).drew
          refine hp_take hP 1 (some 34) _ rfl rfl (by kernel_rfl) rfl (fun w' hS' => by go_simp; rfl) HS0 ?_
          simp only [Act.put, List.setIfInBounds_toArray, List.set_cons_zero, List.set_cons_succ]
          refine hp_take hP 2 (some 35) _ rfl rfl (by kernel_rfl) rfl (fun w' hS' => by go_simp; rfl) HS0 ?_
          simp only [Act.put, List.setIfInBounds_toArray, List.set_cons_zero, List.set_cons_succ]
          refine hp_take hP 3 (some 36) (.pointer (some ⟨b', off + k, none⟩)) rfl rfl (by kernel_rfl) rfl (fun w' hS' => by go_simp <;> (intro h; omega)) HS0 ?_
          simp only [Act.put, List.setIfInBounds_toArray, List.set_cons_zero, List.set_cons_succ]
          refine hp_take hP 4 (some 37) _ rfl rfl (by kernel_rfl) rfl (fun w' hS' => by have cc := (hS'.cell (show b' < w.heap.size by omega)).trans cmx; go_simp; rfl) HS0 ?_
          simp only [Act.put, List.setIfInBounds_toArray, List.set_cons_zero, List.set_cons_succ]
          have hlq : w.heap.size ≤ wq.heap.size := hBq.size
          refine hp_pair 0 5 33 38 (.agg #[.int .i64 (k : Int), va]) (.slice (some ⟨wq.heap.size, 0, none⟩) 1 1) (wq.drew.alloc (Obj.cells #[.int .i64 x] 2)) (by decide) (by decide) rfl rfl rfl rfl (by kernel_rfl) (by kernel_rfl) (by kernel_rfl) rfl rfl (exec_load_at (w := wq.drew) 39 (.tmp 7) rfl B7 0 rfl #[.int .i64 (k : Int), va] _ (fun i _ => by rw [Nat.zero_add]; exact Blk.cell (Blk.drew hA.blk) i) Try.underlying39 rfl info39) (exec_load_at (w := wq.drew.alloc (Obj.cells #[.int .i64 x] 2)) 39 (.tmp 7) rfl B7 0 rfl #[.int .i64 (k : Int), va] _ (fun i _ => by rw [Nat.zero_add]; exact Blk.cell (Blk.alloc (Blk.drew hA.blk) _) i) Try.underlying39 rfl info39) (by go_simp) (by go_simp) HS0 (HS0.alloc hlq _) ?_
          simp only [Act.put, List.setIfInBounds_toArray, List.set_cons_zero, List.set_cons_succ]
          have hD := Below.al (Below.drew (Below.refl wq.heap.size wq)) (Obj.cells #[.int .i64 x] 2)
          have g0 := Bx.below hA hD
          have g1 := Bx.below hB hD
          have g2 := Bx.below hC hD
          have HS1 : Below w.heap.size wq (wq.drew.alloc (Obj.cells #[.int .i64 x] 2)) := HS0.alloc hlq _
          refine hp_call 6 (some 39) rfl rfl (by kernel_rfl) rfl 27 #[.agg #[.int .i64 (k : Int), va], .slice (some ⟨wq.heap.size, 0, none⟩) 1 1] (by go_simp) ((take27 [pa] [x] k va _ _ g0.row g0.som (rowI_one wq.drew x) (by simp) (one_in x hx64x)).mono ?_)
          rw [HCN.out]
          rintro e w3 ⟨v', rfl, hown, hB3⟩
          have HS2 : Below w.heap.size wq w3 := HS1.trans (hB3.mono (Nat.le_trans hlq hD.size))
          have f0 := Bx.taken (c := cn) (g0.below hB3) (by simp) ⟨Blk.lt g0.blk, Blk.lt g1.blk, Blk.lt g2.blk⟩ hcnt hown
          have f1 := Bx.other (g1.below hB3) (g := B7) (by simp) (by omega) #[.int .i64 cn, v']
          have f2 := Bx.other (g2.below hB3) (g := B7) (by simp) (by omega) #[.int .i64 cn, v']
          refine ⟨_, rfl, HS2, ?_⟩
          simp only [Act.put, List.setIfInBounds_toArray, List.set_cons_zero, List.set_cons_succ]
          refine hp_store_row 7 rfl rfl (by kernel_rfl) rfl 39 _ _ rfl B7 #[.int .i64 cn, v'] rfl rfl 39 _ (g0.below hB3).blk info39 rfl (by have := owns_form hown; obtain ⟨a, c, rfl⟩ := this; simp [Value.oneCell']) (Below.setRow HS2 (by omega) _) ?_
          simp only [List.setIfInBounds_toArray, List.set_cons_zero, List.set_cons_succ]
          refine hk_done (by kernel_rfl) ?_
          have hBz : Below w.heap.size w (w3.setRow B7 #[.int .i64 cn, v']) := hBq.trans (Below.setRow HS2 (by omega) _)
          generalize w3.setRow B7 #[.int .i64 cn, v'] = wz at *
          clear g0 g1 g2 hD HS0 HS1 HS2 hB3 hown hP hlq hA hB hC hBq
          have cmy : wz.cell? ⟨b', off + j1, none⟩ = some (.int .i64 y) := (hBz.cell (by exact hb')).trans ry
          clear cmx rx
          have hBq := hBz
          obtain ⟨wq, hwq⟩ : ∃ wq : World, wq = wz := ⟨_, rfl⟩
          rw [← hwq] at f0 f1 f2 hBq cmy ⊢
          clear hwq hBz
          have hA := f0
          have hB := f1
          have hC := f2
          clear f0 f1 f2
          go_wp2_with fail
          refine hp_start (fun w' => Below w.heap.size wq w') 11 rfl (by kernel_rfl) (fun c a a' w hd h => ⟨hd ▸ h.1, h.2⟩) (fun hP => ?_)
          rw [show Array.replicate 11 false = #[false, false, false, false, false, false, false, false, false, false, false] from rfl]
          have HS0 : Below w.heap.size wq wq.drew := (Below.refl _ _).drew
          refine hp_take hP 1 (some 41) _ rfl rfl (by kernel_rfl) rfl (fun w' hS' => by go_simp; rfl) HS0 ?_
          simp only [Act.put, List.setIfInBounds_toArray, List.set_cons_zero, List.set_cons_succ]
          refine hp_take hP 2 (some 42) _ rfl rfl (by kernel_rfl) rfl (fun w' hS' => by go_simp; rfl) HS0 ?_
          simp only [Act.put, List.setIfInBounds_toArray, List.set_cons_zero, List.set_cons_succ]
          refine hp_take hP 3 (some 43) (.int .i64 ((ms.length : Int) - 1)) rfl rfl (by kernel_rfl) rfl (fun w' hS' => by go_simp <;> exact IntWalk.i64_in _ (by omega)) HS0 ?_
          simp only [Act.put, List.setIfInBounds_toArray, List.set_cons_zero, List.set_cons_succ]
          refine hp_take hP 4 (some 44) _ rfl rfl (by kernel_rfl) rfl (fun w' hS' => by go_simp; rfl) HS0 ?_
          simp only [Act.put, List.setIfInBounds_toArray, List.set_cons_zero, List.set_cons_succ]
          refine hp_take hP 5 (some 45) (.int .i64 (j1 : Int)) rfl rfl (by kernel_rfl) rfl (fun w' hS' => by have h2 := HI1.out; go_simp <;> (first | exact h2 | (rw [IntWalk.i64_in _ (by omega)] <;> exact h2))) HS0 ?_
          simp only [Act.put, List.setIfInBounds_toArray, List.set_cons_zero, List.set_cons_succ]
          refine hp_take hP 6 (some 46) (.pointer (some ⟨b', off + j1, none⟩)) rfl rfl (by kernel_rfl) rfl (fun w' hS' => by go_simp <;> (intro h; omega)) HS0 ?_
          simp only [Act.put, List.setIfInBounds_toArray, List.set_cons_zero, List.set_cons_succ]
          refine hp_take hP 7 (some 47) _ rfl rfl (by kernel_rfl) rfl (fun w' hS' => by have cc := (hS'.cell (show b' < w.heap.size by omega)).trans cmy; go_simp; rfl) HS0 ?_
          simp only [Act.put, List.setIfInBounds_toArray, List.set_cons_zero, List.set_cons_succ]
          have hlq : w.heap.size ≤ wq.heap.size := hBq.size
          refine hp_pair 0 8 40 48 (.agg #[.int .i64 (k : Int), vb]) (.slice (some ⟨wq.heap.size, 0, none⟩) 1 1) (wq.drew.alloc (Obj.cells #[.int .i64 y] 2)) (by decide) (by decide) rfl rfl rfl rfl (by kernel_rfl) (by kernel_rfl) (by kernel_rfl) rfl rfl (exec_load_at (w := wq.drew) 39 (.tmp 8) rfl B8 0 rfl #[.int .i64 (k : Int), vb] _ (fun i _ => by rw [Nat.zero_add]; exact Blk.cell (Blk.drew hB.blk) i) Try.underlying39 rfl info39) (exec_load_at (w := wq.drew.alloc (Obj.cells #[.int .i64 y] 2)) 39 (.tmp 8) rfl B8 0 rfl #[.int .i64 (k : Int), vb] _ (fun i _ => by rw [Nat.zero_add]; exact Blk.cell (Blk.alloc (Blk.drew hB.blk) _) i) Try.underlying39 rfl info39) (by go_simp) (by go_simp) HS0 (HS0.alloc hlq _) ?_
          simp only [Act.put, List.setIfInBounds_toArray, List.set_cons_zero, List.set_cons_succ]
          have hD := Below.al (Below.drew (Below.refl wq.heap.size wq)) (Obj.cells #[.int .i64 y] 2)
          have g0 := Bx.below hB hD
          have g1 := Bx.below hA hD
          have g2 := Bx.below hC hD
          have HS1 : Below w.heap.size wq (wq.drew.alloc (Obj.cells #[.int .i64 y] 2)) := HS0.alloc hlq _
          refine hp_call 9 (some 49) rfl rfl (by kernel_rfl) rfl 27 #[.agg #[.int .i64 (k : Int), vb], .slice (some ⟨wq.heap.size, 0, none⟩) 1 1] (by go_simp) ((take27 [pb] [y] k vb _ _ g0.row g0.som (rowI_one wq.drew y) (by simp) (one_in y hx64y)).mono ?_)
          rw [HCN.out]
          rintro e w3 ⟨v', rfl, hown, hB3⟩
          have HS2 : Below w.heap.size wq w3 := HS1.trans (hB3.mono (Nat.le_trans hlq hD.size))
          have f0 := Bx.taken (c := cn) (g0.below hB3) (by simp) ⟨Blk.lt g1.blk, Blk.lt g0.blk, Blk.lt g2.blk⟩ hcnt hown
          have f1 := Bx.other (g1.below hB3) (g := B8) (by simp) (by omega) #[.int .i64 cn, v']
          have f2 := Bx.other (g2.below hB3) (g := B8) (by simp) (by omega) #[.int .i64 cn, v']
          refine ⟨_, rfl, HS2, ?_⟩
          simp only [Act.put, List.setIfInBounds_toArray, List.set_cons_zero, List.set_cons_succ]
          refine hp_store_row 10 rfl rfl (by kernel_rfl) rfl 39 _ _ rfl B8 #[.int .i64 cn, v'] rfl rfl 39 _ (g0.below hB3).blk info39 rfl (by have := owns_form hown; obtain ⟨a, c, rfl⟩ := this; simp [Value.oneCell']) (Below.setRow HS2 (by omega) _) ?_
          simp only [List.setIfInBounds_toArray, List.set_cons_zero, List.set_cons_succ]
          refine hk_done (by kernel_rfl) ?_
          have hBz : Below w.heap.size w (w3.setRow B8 #[.int .i64 cn, v']) := hBq.trans (Below.setRow HS2 (by omega) _)
          generalize w3.setRow B8 #[.int .i64 cn, v'] = wz at *
          clear g0 g1 g2 hD HS0 HS1 HS2 hB3 hown hP hlq hB hA hC hBq
          have cmz : wz.cell? ⟨b', off + j2, none⟩ = some (.int .i64 z) := (hBz.cell (by exact hb')).trans rz
          clear cmy ry
          have hBq := hBz
          obtain ⟨wq, hwq⟩ : ∃ wq : World, wq = wz := ⟨_, rfl⟩
          rw [← hwq] at f0 f1 f2 hBq cmz ⊢
          clear hwq hBz
          have hB := f0
          have hA := f1
          have hC := f2
          clear f0 f1 f2
          go_wp2_with fail
          refine hp_start (fun w' => Below w.heap.size wq w') 14 rfl (by kernel_rfl) (fun c a a' w hd h => ⟨hd ▸ h.1, h.2⟩) (fun hP => ?_)
          rw [show Array.replicate 14 false = #[false, false, false, false, false, false, false, false, false, false, false, false, false, false] from rfl]
          have HS0 : Below w.heap.size wq wq.drew := (Below.refl _ _).drew
          refine hp_take hP 1 (some 51) _ rfl rfl (by kernel_rfl) rfl (fun w' hS' => by go_simp; rfl) HS0 ?_
          simp only [Act.put, List.setIfInBounds_toArray, List.set_cons_zero, List.set_cons_succ]
          refine hp_take hP 2 (some 52) _ rfl rfl (by kernel_rfl) rfl (fun w' hS' => by go_simp; rfl) HS0 ?_
          simp only [Act.put, List.setIfInBounds_toArray, List.set_cons_zero, List.set_cons_succ]
          refine hp_take hP 3 (some 53) _ rfl rfl (by kernel_rfl) rfl (fun w' hS' => by go_simp; rfl) HS0 ?_
          simp only [Act.put, List.setIfInBounds_toArray, List.set_cons_zero, List.set_cons_succ]
          refine hp_take hP 4 (some 54) _ rfl rfl (by kernel_rfl) rfl (fun w' hS' => by go_simp; rfl) HS0 ?_
          simp only [Act.put, List.setIfInBounds_toArray, List.set_cons_zero, List.set_cons_succ]
          refine hp_take hP 5 (some 55) (.int .i64 (q : Int)) rfl rfl (by kernel_rfl) rfl (fun w' hS' => by have h2 := HI2.out; go_simp <;> (first | exact hne | exact hnz)) HS0 ?_
          simp only [Act.put, List.setIfInBounds_toArray, List.set_cons_zero, List.set_cons_succ]
          refine hp_take hP 6 (some 56) (.int .i64 ((k : Int) + q)) rfl rfl (by kernel_rfl) rfl (fun w' hS' => by go_simp <;> exact IntWalk.i64_in _ (by omega)) HS0 ?_
          simp only [Act.put, List.setIfInBounds_toArray, List.set_cons_zero, List.set_cons_succ]
          refine hp_take hP 7 (some 57) _ rfl rfl (by kernel_rfl) rfl (fun w' hS' => by go_simp; rfl) HS0 ?_
          simp only [Act.put, List.setIfInBounds_toArray, List.set_cons_zero, List.set_cons_succ]
          refine hp_take hP 8 (some 58) (.int .i64 (j2 : Int)) rfl rfl (by kernel_rfl) rfl (fun w' hS' => by have h2 := HI3.out; go_simp <;> (first | exact hne | exact hnz)) HS0 ?_
          simp only [Act.put, List.setIfInBounds_toArray, List.set_cons_zero, List.set_cons_succ]
          refine hp_take hP 9 (some 59) (.pointer (some ⟨b', off + j2, none⟩)) rfl rfl (by kernel_rfl) rfl (fun w' hS' => by go_simp <;> (intro h; omega)) HS0 ?_
          simp only [Act.put, List.setIfInBounds_toArray, List.set_cons_zero, List.set_cons_succ]
          refine hp_take hP 10 (some 60) _ rfl rfl (by kernel_rfl) rfl (fun w' hS' => by have cc := (hS'.cell (show b' < w.heap.size by omega)).trans cmz; go_simp; rfl) HS0 ?_
          simp only [Act.put, List.setIfInBounds_toArray, List.set_cons_zero, List.set_cons_succ]
          have hlq : w.heap.size ≤ wq.heap.size := hBq.size
          refine hp_pair 0 11 50 61 (.agg #[.int .i64 (k : Int), vc]) (.slice (some ⟨wq.heap.size, 0, none⟩) 1 1) (wq.drew.alloc (Obj.cells #[.int .i64 z] 2)) (by decide) (by decide) rfl rfl rfl rfl (by kernel_rfl) (by kernel_rfl) (by kernel_rfl) rfl rfl (exec_load_at (w := wq.drew) 39 (.tmp 9) rfl B9 0 rfl #[.int .i64 (k : Int), vc] _ (fun i _ => by rw [Nat.zero_add]; exact Blk.cell (Blk.drew hC.blk) i) Try.underlying39 rfl info39) (exec_load_at (w := wq.drew.alloc (Obj.cells #[.int .i64 z] 2)) 39 (.tmp 9) rfl B9 0 rfl #[.int .i64 (k : Int), vc] _ (fun i _ => by rw [Nat.zero_add]; exact Blk.cell (Blk.alloc (Blk.drew hC.blk) _) i) Try.underlying39 rfl info39) (by go_simp) (by go_simp) HS0 (HS0.alloc hlq _) ?_
          simp only [Act.put, List.setIfInBounds_toArray, List.set_cons_zero, List.set_cons_succ]
          have hD := Below.al (Below.drew (Below.refl wq.heap.size wq)) (Obj.cells #[.int .i64 z] 2)
          have g0 := Bx.below hC hD
          have g1 := Bx.below hA hD
          have g2 := Bx.below hB hD
          have HS1 : Below w.heap.size wq (wq.drew.alloc (Obj.cells #[.int .i64 z] 2)) := HS0.alloc hlq _
          refine hp_call 12 (some 62) rfl rfl (by kernel_rfl) rfl 27 #[.agg #[.int .i64 (k : Int), vc], .slice (some ⟨wq.heap.size, 0, none⟩) 1 1] (by go_simp) ((take27 [pc] [z] k vc _ _ g0.row g0.som (rowI_one wq.drew z) (by simp) (one_in z hx64z)).mono ?_)
          rw [HCN.out]
          rintro e w3 ⟨v', rfl, hown, hB3⟩
          have HS2 : Below w.heap.size wq w3 := HS1.trans (hB3.mono (Nat.le_trans hlq hD.size))
          have f0 := Bx.taken (c := cn) (g0.below hB3) (by simp) ⟨Blk.lt g1.blk, Blk.lt g2.blk, Blk.lt g0.blk⟩ hcnt hown
          have f1 := Bx.other (g1.below hB3) (g := B9) (by simp) (by omega) #[.int .i64 cn, v']
          have f2 := Bx.other (g2.below hB3) (g := B9) (by simp) (by omega) #[.int .i64 cn, v']
          refine ⟨_, rfl, HS2, ?_⟩
          simp only [Act.put, List.setIfInBounds_toArray, List.set_cons_zero, List.set_cons_succ]
          refine hp_store_row 13 rfl rfl (by kernel_rfl) rfl 39 _ _ rfl B9 #[.int .i64 cn, v'] rfl rfl 39 _ (g0.below hB3).blk info39 rfl (by have := owns_form hown; obtain ⟨a, c, rfl⟩ := this; simp [Value.oneCell']) (Below.setRow HS2 (by omega) _) ?_
          simp only [List.setIfInBounds_toArray, List.set_cons_zero, List.set_cons_succ]
          refine hk_done (by kernel_rfl) ?_
          have hBz : Below w.heap.size w (w3.setRow B9 #[.int .i64 cn, v']) := hBq.trans (Below.setRow HS2 (by omega) _)
          generalize w3.setRow B9 #[.int .i64 cn, v'] = wz at *
          clear g0 g1 g2 hD HS0 HS1 HS2 hB3 hown hP hlq hC hA hB hBq
          go_wp2_with fail
          go_roundw
          case rel => exact ⟨k + 1, _, _, _, _, _, _, by omega, by go_num, f1, f2, f0, sa, sb, sc, hBz⟩
          case measure => simp [intOf]; omega
        · obtain rfl : ms.length = k := by omega
          have dx : decide ((ms.length : Int) < ms.length) = false := by simp
          have e8 : pb = pa := by rw [← hpb.out, ← hpa.out]; exact fold_rev ms ms.length (by omega)
          have e9 : pc = pa := by
            rw [← hpc.out, ← hpa.out]
            by_cases h0 : 0 < ms.length
            · exact fold_rot ms ms.length q (by omega) (hqn h0).2
            · have h00 : ms.length = 0 := by omega
              rw [h00]; rfl
          have hbd : ∀ i, i < ms.length → pa.mn ≤ ms.getD i 0 ∧ ms.getD i 0 ≤ pa.mx := fun i hi => by
            have := fold_bd (fun i => ms.getD i 0) ms.length i hi
            rw [hpa.out] at this
            exact this.2
          subst e8
          subst e9
          obtain ⟨xa, ya, rfl⟩ := owns_form hA.own
          obtain ⟨xb, yb, rfl⟩ := owns_form hB.own
          obtain ⟨xc, yc, rfl⟩ := owns_form hC.own
          have HBD := Lib.hid hbd
          clear hpa hpb hpc hbd hqn
          have u0 : wq.cell? ⟨B7, 0, none⟩ = some (.int .i64 (ms.length : Int)) := Blk.cell hA.blk 0
          have u1 : wq.cell? ⟨B7, 1, none⟩ = some (.slice xa 1 ya) := Blk.cell hA.blk 1
          have u2 : wq.cell? ⟨B8, 0, none⟩ = some (.int .i64 (ms.length : Int)) := Blk.cell hB.blk 0
          have u3 : wq.cell? ⟨B8, 1, none⟩ = some (.slice xb 1 yb) := Blk.cell hB.blk 1
          go_wp2_with fail
          refine (same22 (ms.length : Int) _ _ [_] _ hA.row hB.row).mono ?_
          rintro e w8 ⟨rfl, hE1⟩
          have hA2 := hA.below hE1
          have hC2 := hC.below hE1
          have hF1 := Below.call hBq hE1
          clear u0 u1 u2 u3 hA hB hC hBq hE1
          have u0 : w8.cell? ⟨B7, 0, none⟩ = some (.int .i64 (ms.length : Int)) := Blk.cell hA2.blk 0
          have u1 : w8.cell? ⟨B7, 1, none⟩ = some (.slice xa 1 ya) := Blk.cell hA2.blk 1
          have u2 : w8.cell? ⟨B9, 0, none⟩ = some (.int .i64 (ms.length : Int)) := Blk.cell hC2.blk 0
          have u3 : w8.cell? ⟨B9, 1, none⟩ = some (.slice xc 1 yc) := Blk.cell hC2.blk 1
          go_wp2_with fail
          refine (same22 (ms.length : Int) _ _ [_] _ hA2.row hC2.row).mono ?_
          rintro e w9 ⟨rfl, hE2⟩
          have hA3 := hA2.below hE2
          have hF2 := Below.call hF1 hE2
          clear u0 u1 u2 u3 hA2 hC2 hF1 hE2
          have u0 : w9.cell? ⟨B7, 0, none⟩ = some (.int .i64 (ms.length : Int)) := Blk.cell hA3.blk 0
          have u1 : w9.cell? ⟨B7, 1, none⟩ = some (.slice xa 1 ya) := Blk.cell hA3.blk 1
          by_cases h0 : 0 < ms.length
          · have d0 : decide ((0 : Int) < ms.length) = true := by simp; omega
            obtain ⟨a5, c5, hv5, -, -, hcc⟩ := hA3.row.open
            obtain ⟨g, off, h9, hg, hcells⟩ := hcc (by simp)
            injection hv5 with z1 z2 z3
            subst h9
            subst z1
            clear z2 z3 hcc
            have m3 := hcells 0 3 (by simp) (by omega)
            have m4 := hcells 0 4 (by simp) (by omega)
            have hmm := HBD.out 0 h0
            simp only [List.getD_cons_zero] at m3 m4
            rw [Nat.zero_mul, Nat.add_zero] at m3 m4
            obtain ⟨b', off', rfl, hb', hcl⟩ := HC1.out (by omega)
            have rx := hcl 0 (by omega)
            rw [Nat.add_zero] at rx
            obtain ⟨x, hx⟩ : ∃ x, ms.getD 0 0 = x := ⟨_, rfl⟩
            rw [hx] at rx hmm
            have cmx : w9.cell? ⟨b', off', none⟩ = some (.int .i64 x) := (hF2.cell (by exact hb')).trans rx
            have m3' : w9.cell? ⟨g, off + 3, none⟩ = some (.int .i64 pc.mn) := m3
            have m4' : w9.cell? ⟨g, off + 4, none⟩ = some (.int .i64 pc.mx) := m4
            have t1 : decide (x < pc.mn) = false := by simp; omega
            have t2 : decide (pc.mx < x) = false := by simp; omega
            have dl : decide ((0 : Int) < ms.length) = true := by simp; omega
            clear m3 m4 rx hcl hcells hx hmm
            go_wp2_with fail
            go_quiet (fail)
            go_wp2_with fail
            go_ret
            exact ⟨by first | rfl | simp, Below.drewN hF2 _⟩
          · have d0 : decide ((0 : Int) < ms.length) = false := decide_eq_false (by omega)
            go_wp2_with fail
            go_quiet (fail)
            go_wp2_with fail
            go_ret
            exact ⟨by first | rfl | simp, Below.drewN hF2 _⟩

theorem orderLaw (v : Value) (turn : Int) (w : World) (ms : List Int) (h1 : Row w.heap.size w v ms.length 1 (ms.map (Value.int .i64))) (hwf : ∀ y ∈ ms, (Lit.int .i64 y).wf = true) (_hsz : ms.length * 8 ≤ 140737488351232) (ht : (Lit.int .i64 turn).wf = true) :
    Calls Try.prog 7 #[v, .int .i64 turn] w fun e w' => e = .returned (.bool true) ∧ Below w.heap.size w w' := by
  refine order7 v ms turn w h1 (fun i hi => wf_bd (hwf _ ?_)) (wf_bd ht)
  rw [List.getD_eq_getElem?_getD, List.getElem?_eq_getElem hi]
  exact List.getElem_mem hi
end Go.Proofs.Ytlhncphnhgbclaa
