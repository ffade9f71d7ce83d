/- AdviseFits: the walk. -/
import Derived.Test.YtfgnmcmkjfnogaaK
namespace Go.Proofs.Ytfgnmcmkjfnogaa
open Go.RowKit
set_option linter.unusedVariables false
set_option linter.unusedSimpArgs false

/-- the world of a run of AdviseFits: the numbers, the costs, what was chosen -/
structure FtW (w : World) (bx bc : Nat) (x C : List Int) (v : Value) (L : List Int) (wr : World) : Prop where
  lt : bx < bc
  aX : Arr wr bx 24 x
  aC : Arr wr bc 22 C
  row : RowI bc wr v L
  below : Below bx w wr
theorem FtW.mono {w : World} {bx bc : Nat} {x C : List Int} {v : Value} {L : List Int} {wr w' : World} (h : FtW w bx bc x C v L wr) (hb : Below (bc + 1) wr w') : FtW w bx bc x C v L w' :=
  ⟨h.lt, Blk.below h.aX hb (by have := h.lt; omega), Blk.below h.aC hb (by omega), h.row.mono (hb.mono (by omega)) (Nat.le_refl _), h.below.trans (hb.mono (by have := h.lt; omega))⟩
theorem FtW.size {w : World} {bx bc : Nat} {x C : List Int} {v : Value} {L : List Int} {wr : World} (h : FtW w bx bc x C v L wr) : bc + 1 ≤ wr.heap.size := Blk.lt h.aC
theorem FtW.call {w : World} {bx bc : Nat} {x C : List Int} {v : Value} {L : List Int} {wr w' : World} (h : FtW w bx bc x C v L wr) (hb : Below wr.heap.size wr w') : FtW w bx bc x C v L w' := h.mono (hb.mono h.size)
theorem FtW.set {w : World} {bx bc : Nat} {x C : List Int} {v : Value} {L : List Int} {wr : World} (h : FtW w bx bc x C v L wr) (j : Nat) (y : Int) : FtW w bx bc x (C.set j y) v L (wr.setCell ⟨bc, j, none⟩ (.int .i64 y)) :=
  ⟨h.lt, Blk.other h.aX (by have := h.lt; simp; omega) _, Arr.set h.aC j y, h.row.mono ((Below.refl bc wr).setCell (p := ⟨bc, j, none⟩) (Nat.le_refl _) _) (Nat.le_refl _), h.below.setCell (by have := h.lt; simp; omega) _⟩
theorem FtW.cell {w : World} {bx bc : Nat} {x C : List Int} {v : Value} {L : List Int} {wr : World} (h : FtW w bx bc x C v L wr) (hx : 258 ≤ x.length) (off k : Nat) (ho : off ≤ 192) (hk : k < 64) :
    wr.cell? ⟨bx, off + k, none⟩ = some (.int .i64 ((part x off).getD k 0)) := by
  rw [Arr.cell h.aX (j := off + k) (by omega)]
  simp [part, List.getD_eq_getElem?_getD, List.getElem?_take, hk]

theorem covers16t (view need : Int) (t : Bool) (h : coversB view need = t) (w : World) :
    Calls Try.prog 16 #[.int .i64 view, .int .i64 need] w fun e w' => e = .returned (.bool t) ∧ w = w' := by rw [← h]; exact covers16 view need w
theorem keep15t (n most r : Int) (h : keepZ n most = r) (w : World) :
    Calls Try.prog 15 #[.int .i64 n, .int .i64 most] w fun e w' => e = .returned (.int .i64 r) ∧ w = w' := by rw [← h]; exact keep15 n most w
theorem fill_zero (c : Int) : fillTo c 0 = zeros64 := by simp [fillTo, zeros64]
theorem fill_full (c : Int) : fillTo c 64 = List.replicate 64 c := by simp [fillTo]
theorem hasZ_succ (L out : List Int) (k : Int) (h : ∀ i, i < out.length → out.getD i 0 = L.getD i 0) : anyTo (fun n => L.getD n 0 == k) out.length = hasZ out k := by
  have e : ∀ m, m ≤ out.length → anyTo (fun n => L.getD n 0 == k) m = hasZ (out.take m) k := by
    intro m
    induction m with
    | zero => intro _; simp [anyTo, hasZ]
    | succ m ih =>
      intro hm
      rw [anyTo_succ, ih (by omega), ← h m (by omega)]
      have : out.take (m + 1) = out.take m ++ [out.getD m 0] := by
        rw [List.take_add_one, List.getElem?_eq_getElem (by omega)]
        simp [List.getD_eq_getElem?_getD, List.getElem?_eq_getElem (show m < out.length by omega)]
      rw [this]
      simp only [hasZ, List.contains_eq_mem, List.mem_append, List.mem_singleton]
      by_cases h1 : k ∈ out.take m <;> by_cases h2 : k = out.getD m 0
      all_goals simp [h1, h2]
      all_goals (rw [Bool.eq_iff_iff]; simp; exact ⟨fun h => h.symm, fun h => h.symm⟩)
  have := e out.length (Nat.le_refl _)
  simpa using this

set_option maxRecDepth 100000 in
set_option maxHeartbeats 8000000 in
theorem fits4 (x : List Int) (w : World) (hx : x.length = 258) (hb0 : -9223372036854775808 ≤ x.getD 257 0) (hb1 : x.getD 257 0 ≤ 9223372036854775807) :
    Calls Try.prog 4 #[.agg (ints x)] w fun e w' => e = .returned (.bool true) ∧ Below w.heap.size w w' := by
  have p0 := Lib.hid (part_len x 0 (by omega))
  have p1 := Lib.hid (part_len x 64 (by omega))
  have p2 := Lib.hid (part_len x 128 (by omega))
  have HX := Lib.hid hx
  have hx1 : 258 ≤ x.length := by omega
  have hzv : ∀ w, (zeroValue 22).run Try.prog w = .ok (.agg (ints zeros64)) w := fun _ => by kernel_rfl
  clear hx
  go_enter Try.func4, Try.ntmps4
  go_wp2_with fail
  have hA0 : Arr (w.alloc (Obj.cells (ints x) 24)) w.heap.size 24 x := Blk.newAt _ _ _ rfl
  have hB0 : Below w.heap.size w (w.alloc (Obj.cells (ints x) 24)) := (Below.refl _ _).alloc (Nat.le_refl _) _
  refine (awake9 _).mono ?_
  rintro e w1 ⟨rfl, hB1⟩
  have hA1 := Blk.below hA0 hB1 (Blk.lt hA0)
  have hA : Arr w1 w.heap.size 24 x := hA1
  have hB2 : Below w.heap.size w w1 := hB0.trans (hB1.mono hB0.size)
  clear hA0 hB0 hB1 hA1
  obtain ⟨bx, hbx⟩ : ∃ bx, bx = w.heap.size := ⟨_, rfl⟩
  have hbl := Blk.lt hA
  rw [← hbx] at hA hbl hB2 ⊢
  obtain ⟨f, hf, c256⟩ : ∃ f, Hid (x.getD 256 0 = f) ∧ w1.cell? ⟨bx, 256, none⟩ = some (.int .i64 f) := ⟨_, rfl, Arr.cell hA (by omega)⟩
  obtain ⟨u, hu, c257⟩ : ∃ f, Hid (x.getD 257 0 = f) ∧ w1.cell? ⟨bx, 257, none⟩ = some (.int .i64 f) := ⟨_, rfl, Arr.cell hA (by omega)⟩
  rw [hu.out] at hb0 hb1
  have HBX := Lib.hid hbx
  clear hbx
  go_wp2_with (first | (refine wpList_load_at rfl 22 (.tmp 19) rfl bx 0 rfl (ints (part x 0)) _ (Arr.part hA 0 (by omega)) Try.underlying22 rfl (infP x 0 (by omega)) ?_) | (refine wpList_load_at rfl 22 (.tmp 21) rfl bx 64 rfl (ints (part x 64)) _ (Arr.part hA 64 (by omega)) Try.underlying22 rfl (infP x 64 (by omega)) ?_) | (refine wpList_load_at rfl 22 (.tmp 23) rfl bx 128 rfl (ints (part x 128)) _ (Arr.part hA 128 (by omega)) Try.underlying22 rfl (infP x 128 (by omega)) ?_))
  refine (choose10 _ _ _ _ _ _ p0.out p1.out p2.out hb0 hb1).mono ?_
  rintro e w2 ⟨v1, rfl, own1, hB3⟩
  have st := St.start (part x 0) (part x 64) (part x 128) f u hb0 hb1
  have hlen : (chooseL (part x 0) (part x 64) (part x 128) f u).length ≤ 16 := by have := chooseGo_len (part x 0) (part x 64) (part x 128) 16 [] u (cost0 f); simpa [chooseL] using this
  generalize chooseL (part x 0) (part x 64) (part x 128) f u = L at *
  have hft : FtW w bx w2.heap.size x zeros64 v1 L (w2.alloc (Obj.cells (ints zeros64) 22)) :=
    ⟨Nat.lt_of_lt_of_le hbl hB3.size, (Blk.below hA hB3 hbl).alloc _, Blk.newAt _ _ _ rfl, (RowI.of_owns own1).mono ((Below.refl _ _).alloc (Nat.le_refl _) _) (Nat.le_refl _), (hB2.trans (hB3.mono (Nat.le_of_lt hbl))).alloc (Nat.le_of_lt (Nat.lt_of_lt_of_le hbl hB3.size)) _⟩
  have hrow := hft.row
  obtain ⟨a1, k1, hv1, hk1, hm1, _⟩ := (RowI.of_owns own1).open
  subst hv1
  clear hA c256 c257 hB2 hB3 hbl own1 hrow
  have h16b : decide ((16 : Int) < L.length) = false := by simp; omega
  go_wp2_with fail
  have HFT := Lib.hid hft
  clear hft
  obtain ⟨w3, hw3⟩ : ∃ w3, w3 = w2.alloc (Obj.cells (ints zeros64) 22) := ⟨_, rfl⟩
  rw [← hw3]
  have hft := HFT.out
  rw [← hw3] at hft
  clear hw3 HFT
  generalize w2.heap.size = bc at *
  have p3 : (part x 0).length = 64 := p0.out
  have P3 := Lib.hid p3
  clear p3
  go_loopw [6] (fun i wr => ∃ k : Nat, k ≤ 64 ∧ i = .int .i64 k ∧ FtW w bx bc x (fillTo (keepZ f 16777216) k) (.slice a1 L.length k1) L wr) (fun i _ => 64 - (intOf i).toNat)
  case atStart => exact ⟨0, by omega, rfl, by rw [fill_zero]; exact hft⟩
  case round =>
    clear hft
    obtain ⟨k, hk, rfl, FW⟩ := hrel
    have c256 : wr.cell? ⟨bx, 256, none⟩ = some (.int .i64 f) := by rw [← hf.out]; exact Arr.cell FW.aX (by omega)
    have c257 : wr.cell? ⟨bx, 257, none⟩ = some (.int .i64 u) := by rw [← hu.out]; exact Arr.cell FW.aX (by omega)
    by_cases hlt : k < 64
    · have hkI : (k : Int) < 64 := by omega
      have cC := Arr.cell FW.aC (j := k) (by simp [fillTo]; omega)
      have fC := Arr.free FW.aC k
      go_wp2_with (go_at_call 15; refine (keep15 _ _ _).mono ?_; rintro e w' ⟨rfl, rfl⟩)
      have hw := FW.set k (keepZ f 16777216)
      rw [fill_set _ _ hlt] at hw
      go_roundw
      case rel => exact ⟨k + 1, by omega, by go_num, hw⟩
      case measure => simp [intOf]; omega
    · have hk64 : k = 64 := by omega
      have hkb : decide ((k : Int) < 64) = false := by simp; omega
      have FW0 : FtW w bx bc x (cost0 f) (.slice a1 L.length k1) L wr := by rw [hk64, fill_full] at FW; exact FW
      clear FW hk64
      go_wp2_with fail
      clear c256 c257
      go_loopg [7, 8] 16 (fun n b i wr => ∃ (out : List Int) (bud : Int) (C : List Int), b = .int .i64 bud ∧ i = .int .i64 out.length ∧ St (part x 0) (part x 64) (part x 128) L n out bud C ∧ FtW w bx bc x C (.slice a1 L.length k1) L wr)
      case atStart => exact ⟨[], u, cost0 f, rfl, rfl, st, FW0⟩
      case round =>
        clear FW0 st
        obtain ⟨out, bud, C, rfl, rfl, st, FW⟩ := hrel
        have hle := st.le
        have hlo := st.lo
        have hhi := st.hi
        have hC := Lib.hid st.clen
        by_cases hlt : out.length < L.length
        · obtain ⟨m, p, hn, hp, hLp, hgain, hfit, hfresh, hbest, st1⟩ := st.step hlt
          subst hn
          obtain ⟨_, _, hv, _, _, hcell⟩ := FW.row.open
          have hv2 := Lib.hid hv
          clear hv
          cases hv2.out
          obtain ⟨bl, off, rfl, hbl, hcl⟩ := hcell (by omega)
          have cs := hcl out.length hlt
          rw [hLp] at cs
          clear hcell hcl
          have hltb : decide ((out.length : Int) < L.length) = true := by simp; omega
          obtain ⟨b, hb⟩ : ∃ b, Hid (benTo p (part x 0) C ((part x 64).getD p 0) 64 = b) := ⟨_, rfl⟩
          obtain ⟨r, hr, cR⟩ : ∃ r, Hid ((part x 64).getD p 0 = r) ∧ wr.cell? ⟨bx, 64 + p, none⟩ = some (.int .i64 r) := ⟨_, rfl, FW.cell hx1 64 p (by omega) hp⟩
          have hbr : benTo p (part x 0) C r 64 = b := by rw [← hr.out]; exact hb.out
          have HBR := Lib.hid hbr
          clear hbr
          have hlb := (benTo_bd p (part x 0) C r 64)
          rw [HBR.out] at hlb
          rw [hb.out] at hgain hbest
          have hpI : (p : Int) < 64 := by omega
          have hpb1 : decide ((p : Int) < 0) = false := by simp
          have hpb2 : decide ((63 : Int) < p) = false := by simp; omega
          have sp := spaceZ_bd (part x 128) p
          obtain ⟨c, hc⟩ : ∃ c, Hid (spaceZ (part x 128) p = c) := ⟨_, rfl⟩
          rw [hc.out] at hfit hbest st1 sp
          have BEST := Lib.hid hbest
          have FRESH := Lib.hid hfresh
          have HLP := Lib.hid hLp
          clear hbest hfresh hLp
          go_wp2_with fail
          refine wp_region_still_tail 8 (by kernel_rfl) (by kernel_rfl) ?_
          simp only [List.take_succ_cons, List.take_zero, List.drop_succ_cons, List.drop_zero]
          still_step
          still_step
          refine wpStill_load_at rfl 22 (.tmp 61) rfl bx 0 rfl (ints (part x 0)) _ (Arr.part (Blk.drew FW.aX) 0 (by omega)) Try.underlying22 rfl (infP x 0 (by omega)) ?_
          refine wpStill_load_at rfl 22 (.tmp 5) rfl bc 0 rfl (ints C) _ (fun j _ => by rw [Nat.zero_add]; exact Blk.cell (Blk.drew FW.aC) j) Try.underlying22 rfl (by rw [size_ints, hC.out]; exact Try.info22) ?_
          repeat still_step
          refine wpStill_nil ?_
          change wpList _ _ _ _ _ wr.drew
          have FW1 : FtW w bx bc x C (.slice (some ⟨bl, off, none⟩) L.length k1) L wr.drew := FW.call (Below.drew (Below.refl _ _))
          clear FW cR cs
          generalize wr.drew = w4 at *
          go_wp2_with fail
          refine (benefit13 _ _ _ _ _ P3.out hC.out).mono ?_
          rw [HBR.out]
          rintro e w5 ⟨rfl, hB5⟩
          have FW2 := FW1.call hB5
          clear FW1 hB5
          obtain ⟨y, hy, cY⟩ : ∃ y, Hid ((part x 128).getD p 0 = y) ∧ w5.cell? ⟨bx, 128 + p, none⟩ = some (.int .i64 y) := ⟨_, rfl, FW2.cell hx1 128 p (by omega) hp⟩
          have hcy : keepZ y 67108864 = c := by rw [← hc.out, spaceZ, hy.out]
          have HCY := Lib.hid hcy
          clear hcy
          have hgb : decide (b ≤ 0) = false := by simp; omega
          have hfb : decide (bud < c) = false := by simp; omega
          go_wp2_with (go_at_call 15; refine (keep15 _ _ _).mono ?_; rw [HCY.out]; rintro e w' ⟨rfl, rfl⟩)
          go_loopw [12] (fun i wr => ∃ j : Nat, j ≤ 64 ∧ i = .int .i64 j ∧ FtW w bx bc x C (.slice (some ⟨bl, off, none⟩) L.length k1) L wr) (fun i _ => 64 - (intOf i).toNat)
          case atStart => exact ⟨0, by omega, rfl, FW2⟩
          case round =>
            clear FW2 cY
            obtain ⟨j, hj, rfl, FW⟩ := hrel
            by_cases hjt : j < 64
            · have hjI : (j : Int) < 64 := by omega
              have hjb : decide ((j : Int) < 64) = true := by simpa using hjI
              go_wp2_with fail
              go_loop [13, 14] (fun t i => ∃ (q : Nat) (y : Bool), q ≤ out.length ∧ i = .int .i64 q ∧ t = .bool y ∧ Hid (anyTo (fun n => L.getD n 0 == (j : Int)) q = y)) (fun _ i => out.length - (intOf i).toNat)
              case atStart => exact ⟨0, false, by omega, rfl, rfl, rfl⟩
              case round =>
                obtain ⟨q, y, hq, rfl, rfl, hy⟩ := hrel
                by_cases hqt : q < out.length
                · obtain ⟨_, _, hv, _, _, hcell⟩ := FW.row.open
                  obtain ⟨bl2, off2, he, _, hcl⟩ := hcell (by omega)
                  have HV := Lib.hid (hv.trans (by rw [he]))
                  have hcl2 : wr.cell? ⟨bl, off + q, none⟩ = some (.int .i64 (L.getD q 0)) := by
                    have e := HV.out
                    injection e with e1 e2 e3
                    injection e1 with e1
                    injection e1 with e4 e5
                    subst e4 e5
                    exact hcl q (by omega)
                  have hstep := anyTo_succ (fun n => L.getD n 0 == (j : Int)) q
                  rw [hy.out] at hstep
                  obtain ⟨z, hz⟩ : ∃ z, Hid (L.getD q 0 = z) := ⟨_, rfl⟩
                  rw [hz.out] at hcl2
                  simp only [hz.out] at hstep
                  have HSTEP := Lib.hid hstep
                  clear hstep hcell hcl hv he HV
                  have hqb : decide ((q : Int) < out.length) = true := by simp; omega
                  cases y
                  · go_wp2_with fail
                    go_round
                    case rel => exact ⟨q + 1, (z == (j : Int)), by omega, by go_num, rfl, by rw [HSTEP.out]; simp [Hid]⟩
                    case measure => simp [intOf]; omega
                  · go_wp2_with fail
                    go_round
                    case rel => exact ⟨q + 1, true, by omega, by go_num, rfl, by rw [HSTEP.out]; simp [Hid]⟩
                    case measure => simp [intOf]; omega
                · have hqe : q = out.length := by omega
                  have hused : hasZ out (j : Int) = y := by rw [← hasZ_succ L out j (fun i hi => st.at i hi), ← hqe]; exact hy.out
                  have HU := Lib.hid hused
                  have hqb : decide ((q : Int) < out.length) = false := by simp; omega
                  clear hused hqe
                  obtain ⟨y2, hy2, cY⟩ : ∃ y, Hid ((part x 128).getD j 0 = y) ∧ wr.cell? ⟨bx, 128 + j, none⟩ = some (.int .i64 y) := ⟨_, rfl, FW.cell hx1 128 j (by omega) hjt⟩
                  obtain ⟨dd, hdd⟩ : ∃ c, Hid (spaceZ (part x 128) j = c) := ⟨_, rfl⟩
                  have hcy2 : keepZ y2 67108864 = dd := by rw [← hdd.out, spaceZ, hy2.out]
                  have HCY2 := Lib.hid hcy2
                  have sj := spaceZ_bd (part x 128) j
                  rw [hdd.out] at sj
                  clear hcy2
                  obtain ⟨rk, hrk, cR⟩ : ∃ r, Hid ((part x 64).getD j 0 = r) ∧ wr.cell? ⟨bx, 64 + j, none⟩ = some (.int .i64 r) := ⟨_, rfl, FW.cell hx1 64 j (by omega) hjt⟩
                  obtain ⟨bk, hbk⟩ : ∃ b, Hid (benTo j (part x 0) C rk 64 = b) := ⟨_, rfl⟩
                  have HBK := hbk
                  have hbkb := benTo_bd j (part x 0) C rk 64
                  rw [hbk.out] at hbkb
                  cases y
                  · by_cases hdl : dd ≤ bud
                    · have hdlb : decide (dd ≤ bud) = true := by simpa using hdl
                      have hcmp := BEST.out j hjt HU.out (by rw [hdd.out]; exact hdl)
                      rw [hrk.out, hbk.out, hdd.out] at hcmp
                      have hcmpb : decide (b * (dd + 1) < bk * (c + 1)) = false := by simp; omega
                      have m1 : bk * (c + 1) ≤ 68719476736 * 67108865 := Int.mul_le_mul (by omega) (by omega) (by omega) (by omega)
                      have m2 : b * (dd + 1) ≤ 68719476736 * 67108865 := Int.mul_le_mul (by omega) (by omega) (by omega) (by omega)
                      have m3 : 0 ≤ bk * (c + 1) := Int.mul_nonneg (by omega) (by omega)
                      have m4 : 0 ≤ b * (dd + 1) := Int.mul_nonneg (by omega) (by omega)
                      clear hcmp
                      have wr1 : IntKind.i64.wrap (c + 1) = c + 1 := IntWalk.i64_in _ (by omega)
                      have wr2 : IntKind.i64.wrap (dd + 1) = dd + 1 := IntWalk.i64_in _ (by omega)
                      have wr3 : IntKind.i64.wrap (bk * (c + 1)) = bk * (c + 1) := IntWalk.i64_in _ (by omega)
                      have wr4 : IntKind.i64.wrap (b * (dd + 1)) = b * (dd + 1) := IntWalk.i64_in _ (by omega)
                      go_wp2_with (go_at_call 15; refine (keep15 _ _ _).mono ?_; rw [HCY2.out]; rintro e w' ⟨rfl, rfl⟩)
                      refine wp_region_below (by kernel_rfl) (by kernel_rfl) ?_
                      refine qb_pure rfl _ (fun w' hB' => by go_simp; rfl) ?_
                      simp only [Act.put, List.setIfInBounds_toArray, List.set_cons_zero, List.set_cons_succ]
                      refine qb_pure rfl _ (fun w' hB' => by go_simp; rfl) ?_
                      simp only [Act.put, List.setIfInBounds_toArray, List.set_cons_zero, List.set_cons_succ]
                      refine qb_pure rfl _ (fun w' hB' => by go_simp; rfl) ?_
                      simp only [Act.put, List.setIfInBounds_toArray, List.set_cons_zero, List.set_cons_succ]
                      refine qb_pure rfl _ (fun w' hB' => by go_simp; rfl) ?_
                      simp only [Act.put, List.setIfInBounds_toArray, List.set_cons_zero, List.set_cons_succ]
                      refine qb_pure rfl _ (fun w' hB' => by go_simp; rfl) ?_
                      simp only [Act.put, List.setIfInBounds_toArray, List.set_cons_zero, List.set_cons_succ]
                      refine qb_pure rfl _ (fun w' hB' => by go_simp; rfl) ?_
                      simp only [Act.put, List.setIfInBounds_toArray, List.set_cons_zero, List.set_cons_succ]
                      refine qb_pure rfl _ (fun w' hB' => by go_simp; rfl) ?_
                      simp only [Act.put, List.setIfInBounds_toArray, List.set_cons_zero, List.set_cons_succ]
                      refine qb_pure rfl _ (fun w' hB' => by go_simp; rfl) ?_
                      simp only [Act.put, List.setIfInBounds_toArray, List.set_cons_zero, List.set_cons_succ]
                      refine qb_pure rfl _ (fun w' hB' => by go_simp; rfl) ?_
                      simp only [Act.put, List.setIfInBounds_toArray, List.set_cons_zero, List.set_cons_succ]
                      refine qb_pure rfl _ (fun w' hB' => by go_simp; rfl) ?_
                      simp only [Act.put, List.setIfInBounds_toArray, List.set_cons_zero, List.set_cons_succ]
                      refine qb_load_at rfl 22 (.tmp 113) rfl bx 0 rfl (ints (part x 0)) _ (Blk.lt FW.aX) (Arr.part FW.aX 0 (by omega)) Try.underlying22 rfl (infP x 0 (by omega)) ?_
                      simp only [Act.put, List.setIfInBounds_toArray, List.set_cons_zero, List.set_cons_succ]
                      refine qb_load_at rfl 22 (.tmp 5) rfl bc 0 rfl (ints C) _ (Blk.lt FW.aC) (fun j _ => by rw [Nat.zero_add]; exact Blk.cell FW.aC j) Try.underlying22 rfl (by rw [size_ints, hC.out]; exact Try.info22) ?_
                      simp only [Act.put, List.setIfInBounds_toArray, List.set_cons_zero, List.set_cons_succ]
                      refine qb_pure rfl _ (fun w' hB' => by go_simp; rfl) ?_
                      simp only [Act.put, List.setIfInBounds_toArray, List.set_cons_zero, List.set_cons_succ]
                      refine qb_pure rfl _ (fun w' hB' => by go_simp; rfl) ?_
                      simp only [Act.put, List.setIfInBounds_toArray, List.set_cons_zero, List.set_cons_succ]
                      refine qb_pure rfl _ (fun w' hB' => by go_simp; rfl) ?_
                      simp only [Act.put, List.setIfInBounds_toArray, List.set_cons_zero, List.set_cons_succ]
                      refine qb_pure rfl (.int .i64 rk) (fun w' hB' => by have := (hB'.cell (p := ⟨bx, 64 + j, none⟩) (Blk.lt FW.aX)).trans cR; go_simp) ?_
                      simp only [Act.put, List.setIfInBounds_toArray, List.set_cons_zero, List.set_cons_succ]
                      refine qb_call rfl 13 #[.int .i64 (j : Int), .agg (ints (part x 0)), .agg (ints C), .int .i64 rk] (.int .i64 bk) (fun w' => by go_simp) (fun w' hB' => by have := benefit13 (j : Int) rk (part x 0) C w' P3.out hC.out; rw [HBK.out] at this; exact this) ?_
                      simp only [Act.put, List.setIfInBounds_toArray, List.set_cons_zero, List.set_cons_succ]
                      refine qb_pure rfl _ (fun w' hB' => by go_simp; rfl) ?_
                      simp only [Act.put, List.setIfInBounds_toArray, List.set_cons_zero, List.set_cons_succ]
                      refine qb_pure rfl _ (fun w' hB' => by go_simp; rfl) ?_
                      simp only [Act.put, List.setIfInBounds_toArray, List.set_cons_zero, List.set_cons_succ]
                      refine qb_pure rfl _ (fun w' hB' => by go_simp; rfl) ?_
                      simp only [Act.put, List.setIfInBounds_toArray, List.set_cons_zero, List.set_cons_succ]
                      refine qb_pure rfl _ (fun w' hB' => by go_simp; rfl) ?_
                      simp only [Act.put, List.setIfInBounds_toArray, List.set_cons_zero, List.set_cons_succ]
                      refine qb_pure rfl _ (fun w' hB' => by go_simp; rfl) ?_
                      simp only [Act.put, List.setIfInBounds_toArray, List.set_cons_zero, List.set_cons_succ]
                      refine qb_pure rfl _ (fun w' hB' => by go_simp; rfl) ?_
                      simp only [Act.put, List.setIfInBounds_toArray, List.set_cons_zero, List.set_cons_succ]
                      refine qb_pure rfl _ (fun w' hB' => by go_simp; rfl) ?_
                      simp only [Act.put, List.setIfInBounds_toArray, List.set_cons_zero, List.set_cons_succ]
                      refine qb_pure rfl _ (fun w' hB' => by go_simp; rfl) ?_
                      simp only [Act.put, List.setIfInBounds_toArray, List.set_cons_zero, List.set_cons_succ]
                      refine qb_pure rfl _ (fun w' hB' => by go_simp; rfl) ?_
                      simp only [Act.put, List.setIfInBounds_toArray, List.set_cons_zero, List.set_cons_succ]
                      refine qb_nil ?_
                      intro w7 hB7
                      have FW3 := FW.call hB7
                      clear FW hB7 cY cR wr1 wr2 wr3 wr4
                      go_wp2_with fail
                      go_roundw
                      case rel => exact ⟨j + 1, by omega, by go_num, FW3⟩
                      case measure => simp [intOf]; omega
                    · have hdlb : decide (dd ≤ bud) = false := by simpa using hdl
                      go_wp2_with (go_at_call 15; refine (keep15 _ _ _).mono ?_; rw [HCY2.out]; rintro e w' ⟨rfl, rfl⟩)
                      go_quiet (fail)
                      go_wp2_with fail
                      go_roundw
                      case rel => exact ⟨j + 1, by omega, by go_num, FW.call (Below.drewN (Below.refl _ _) _)⟩
                      case measure => simp [intOf]; omega
                  · have hjp : ((j : Int) == (p : Int)) = false := by
                      rw [beq_eq_false_iff_ne]
                      intro e
                      have h1 := HU.out
                      rw [e, FRESH.out] at h1
                      simp at h1
                    go_wp2_with (go_at_call 15; refine (keep15 _ _ _).mono ?_; rw [HCY2.out]; rintro e w' ⟨rfl, rfl⟩)
                    go_quiet (fail)
                    go_wp2_with fail
                    go_roundw
                    case rel => exact ⟨j + 1, by omega, by go_num, FW.call (Below.drewN (Below.refl _ _) _)⟩
                    case measure => simp [intOf]; omega
            · have hjb : decide ((j : Int) < 64) = false := by simp; omega
              have hbsub : bud - c ≤ 9223372036854775807 := by omega
              go_wp2_with fail
              go_loopw [16] (fun i wr => ∃ q : Nat, q ≤ 64 ∧ i = .int .i64 q ∧ FtW w bx bc x (costTo (part x 64) C p q) (.slice (some ⟨bl, off, none⟩) L.length k1) L wr) (fun i _ => 64 - (intOf i).toNat)
              case atStart => exact ⟨0, by omega, rfl, by rw [costTo_zero _ _ _ hC.out]; exact FW⟩
              case round =>
                clear FW
                obtain ⟨q, hq, rfl, FW⟩ := hrel
                by_cases hqt : q < 64
                · have hqI : (q : Int) < 64 := by omega
                  have hqb : decide ((q : Int) < 64) = true := by simpa using hqI
                  obtain ⟨t, ht⟩ : ∃ t, Hid (coversB p q = t) := ⟨_, rfl⟩
                  have cR : wr.cell? ⟨bx, 64 + p, none⟩ = some (.int .i64 r) := by rw [← hr.out]; exact FW.cell hx1 64 p (by omega) hp
                  obtain ⟨cc, hcc, cC⟩ : ∃ c, Hid (C.getD q 0 = c) ∧ wr.cell? ⟨bc, q, none⟩ = some (.int .i64 c) := ⟨_, rfl, by rw [← costTo_at (part x 64) C p q hqt]; exact Arr.cell FW.aC (by rw [costTo_len]; omega)⟩
                  have fC := Arr.free FW.aC q
                  cases t
                  · have hsk := costTo_skip (part x 64) C p q hqt ht.out
                    have HSK := Lib.hid hsk
                    clear hsk
                    go_wp2_with fail
                    go_quiet ((go_at_call 16; exact quietL (covers16t _ _ _ ht.out _)))
                    go_wp2_with fail
                    go_roundw
                    case rel => exact ⟨q + 1, by omega, by go_num, by rw [← HSK.out]; exact FW.call (Below.drewN (Below.refl _ _) _)⟩
                    case measure => simp [intOf]; omega
                  · have hxx : (if keepZ r 16777216 < cc then keepZ r 16777216 else cc) = costOne (part x 64) C p q := by
                      unfold costOne; rw [if_pos ht.out, hr.out, hcc.out]
                    by_cases hlt2 : keepZ r 16777216 < cc
                    · rw [if_pos hlt2] at hxx
                      have HXX := Lib.hid hxx
                      clear hxx
                      have hltb2 : decide (keepZ r 16777216 < cc) = true := by simpa using hlt2
                      go_wp2_with fail
                      go_quiet (first | (go_at_call 16; exact quietL (covers16t _ _ _ ht.out _)) | (go_at_call 15; exact quietL (keep15 _ _ _)))
                      have hws := FW.set q (keepZ r 16777216)
                      rw [costTo_set _ _ _ _ hqt _ HXX.out] at hws
                      go_wp2_with (go_at_call 15; refine (keep15 _ _ _).mono ?_; rintro e w' ⟨rfl, rfl⟩)
                      go_roundw
                      case rel => exact ⟨q + 1, by omega, by go_num, hws.call (Below.drewN (Below.refl _ _) _)⟩
                      case measure => simp [intOf]; omega
                    · rw [if_neg hlt2] at hxx
                      have hsk : costTo (part x 64) C p q = costTo (part x 64) C p (q + 1) := by
                        rw [← costTo_set _ _ _ _ hqt _ hxx, ← hcc.out, ← costTo_at (part x 64) C p q hqt]
                        apply List.ext_getElem
                        · simp
                        · intro i h1 h2
                          simp only [List.getElem_set]
                          split
                          · rename_i e; subst e; simp [List.getD_eq_getElem?_getD, h1]
                          · rfl
                      have HSK := Lib.hid hsk
                      clear hsk hxx
                      have hltb2 : decide (keepZ r 16777216 < cc) = false := by simpa using hlt2
                      go_wp2_with fail
                      go_quiet (first | (go_at_call 16; exact quietL (covers16t _ _ _ ht.out _)) | (go_at_call 15; exact quietL (keep15 _ _ _)))
                      go_wp2_with fail
                      go_roundw
                      case rel => exact ⟨q + 1, by omega, by go_num, by rw [← HSK.out]; exact FW.call (Below.drewN (Below.refl _ _) _)⟩
                      case measure => simp [intOf]; omega
                · have hq64 : q = 64 := by omega
                  have hqb : decide ((q : Int) < 64) = false := by simp; omega
                  rw [hq64, costTo_full] at FW
                  clear hq64
                  go_wp2_with fail
                  go_roundg m
                  case measure => omega
                  case rel => exact ⟨out ++ [(p : Int)], bud - c, costNext (part x 64) C p, rfl, by simp, st1, FW⟩
        · have hlt0 : out.length = L.length := by omega
          have hltb : decide ((out.length : Int) < L.length) = false := by simp; omega
          have hdone := st.done hlt0
          by_cases h16 : L.length = 16
          · have h16e : ((L.length : Int) == 16) = true := by rw [beq_iff_eq]; omega
            clear hlt0 hdone
            go_wp2_with fail
            go_ret
            have e := FW.below
            rw [HBX.out] at e
            exact ⟨rfl, e⟩
          · have h16e : ((L.length : Int) == 16) = false := by rw [beq_eq_false_iff_ne]; omega
            have HD := Lib.hid (hdone h16)
            clear hlt0 hdone
            go_wp2_with fail
            go_loopw [17] (fun i wr => ∃ j : Nat, j ≤ 64 ∧ i = .int .i64 j ∧ FtW w bx bc x C (.slice a1 L.length k1) L wr) (fun i _ => 64 - (intOf i).toNat)
            case atStart => exact ⟨0, by omega, rfl, FW⟩
            case round =>
              clear FW
              obtain ⟨j, hj, rfl, FW⟩ := hrel
              by_cases hjt : j < 64
              · have hjI : (j : Int) < 64 := by omega
                have hjb : decide ((j : Int) < 64) = true := by simpa using hjI
                obtain ⟨y2, hy2, cY⟩ : ∃ y, Hid ((part x 128).getD j 0 = y) ∧ wr.cell? ⟨bx, 128 + j, none⟩ = some (.int .i64 y) := ⟨_, rfl, FW.cell hx1 128 j (by omega) hjt⟩
                obtain ⟨dd, hdd⟩ : ∃ c, Hid (spaceZ (part x 128) j = c) := ⟨_, rfl⟩
                have hcy2 : keepZ y2 67108864 = dd := by rw [← hdd.out, spaceZ, hy2.out]
                have HCY2 := Lib.hid hcy2
                clear hcy2
                obtain ⟨rk, hrk, cR⟩ : ∃ r, Hid ((part x 64).getD j 0 = r) ∧ wr.cell? ⟨bx, 64 + j, none⟩ = some (.int .i64 r) := ⟨_, rfl, FW.cell hx1 64 j (by omega) hjt⟩
                obtain ⟨bk, hbk⟩ : ∃ b, Hid (benTo j (part x 0) C rk 64 = b) := ⟨_, rfl⟩
                by_cases hdl : dd ≤ bud
                · have hdlb : decide (dd ≤ bud) = true := by simpa using hdl
                  have hno := HD.out j hjt (by rw [hdd.out]; exact hdl)
                  rw [hrk.out, hbk.out] at hno
                  have hnob : decide (0 < bk) = false := by simp; omega
                  go_wp2_with fail
                  refine wp_region_below (by kernel_rfl) (by kernel_rfl) ?_
                  refine qb_pure rfl _ (fun w' hB' => by go_simp; rfl) ?_
                  simp only [Act.put, List.setIfInBounds_toArray, List.set_cons_zero, List.set_cons_succ]
                  refine qb_pure rfl _ (fun w' hB' => by go_simp; rfl) ?_
                  simp only [Act.put, List.setIfInBounds_toArray, List.set_cons_zero, List.set_cons_succ]
                  refine qb_pure rfl _ (fun w' hB' => by go_simp; rfl) ?_
                  simp only [Act.put, List.setIfInBounds_toArray, List.set_cons_zero, List.set_cons_succ]
                  refine qb_pure rfl (.int .i64 y2) (fun w' hB' => by have := (hB'.cell (p := ⟨bx, 128 + j, none⟩) (Blk.lt FW.aX)).trans cY; go_simp) ?_
                  simp only [Act.put, List.setIfInBounds_toArray, List.set_cons_zero, List.set_cons_succ]
                  refine qb_call rfl 15 #[.int .i64 y2, .int .i64 67108864] (.int .i64 dd) (fun w' => by go_simp) (fun w' hB' => (keep15t _ _ _ HCY2.out w').mono fun e w'' h => ⟨h.1, by rw [← h.2]; exact Below.refl _ _⟩) ?_
                  simp only [Act.put, List.setIfInBounds_toArray, List.set_cons_zero, List.set_cons_succ]
                  refine qb_pure rfl _ (fun w' hB' => by go_simp; rfl) ?_
                  simp only [Act.put, List.setIfInBounds_toArray, List.set_cons_zero, List.set_cons_succ]
                  refine qb_pure rfl _ (fun w' hB' => by go_simp; rfl) ?_
                  simp only [Act.put, List.setIfInBounds_toArray, List.set_cons_zero, List.set_cons_succ]
                  refine qb_pure rfl _ (fun w' hB' => by go_simp; rfl) ?_
                  simp only [Act.put, List.setIfInBounds_toArray, List.set_cons_zero, List.set_cons_succ]
                  refine qb_pure rfl _ (fun w' hB' => by go_simp; rfl) ?_
                  simp only [Act.put, List.setIfInBounds_toArray, List.set_cons_zero, List.set_cons_succ]
                  refine qb_pure rfl _ (fun w' hB' => by go_simp; rfl) ?_
                  simp only [Act.put, List.setIfInBounds_toArray, List.set_cons_zero, List.set_cons_succ]
                  refine qb_load_at rfl 22 (.tmp 181) rfl bx 0 rfl (ints (part x 0)) _ (Blk.lt FW.aX) (Arr.part FW.aX 0 (by omega)) Try.underlying22 rfl (infP x 0 (by omega)) ?_
                  simp only [Act.put, List.setIfInBounds_toArray, List.set_cons_zero, List.set_cons_succ]
                  refine qb_load_at rfl 22 (.tmp 5) rfl bc 0 rfl (ints C) _ (Blk.lt FW.aC) (fun j _ => by rw [Nat.zero_add]; exact Blk.cell FW.aC j) Try.underlying22 rfl (by rw [size_ints, hC.out]; exact Try.info22) ?_
                  simp only [Act.put, List.setIfInBounds_toArray, List.set_cons_zero, List.set_cons_succ]
                  refine qb_pure rfl _ (fun w' hB' => by go_simp; rfl) ?_
                  simp only [Act.put, List.setIfInBounds_toArray, List.set_cons_zero, List.set_cons_succ]
                  refine qb_pure rfl _ (fun w' hB' => by go_simp; rfl) ?_
                  simp only [Act.put, List.setIfInBounds_toArray, List.set_cons_zero, List.set_cons_succ]
                  refine qb_pure rfl _ (fun w' hB' => by go_simp; rfl) ?_
                  simp only [Act.put, List.setIfInBounds_toArray, List.set_cons_zero, List.set_cons_succ]
                  refine qb_pure rfl (.int .i64 rk) (fun w' hB' => by have := (hB'.cell (p := ⟨bx, 64 + j, none⟩) (Blk.lt FW.aX)).trans cR; go_simp) ?_
                  simp only [Act.put, List.setIfInBounds_toArray, List.set_cons_zero, List.set_cons_succ]
                  refine qb_call rfl 13 #[.int .i64 (j : Int), .agg (ints (part x 0)), .agg (ints C), .int .i64 rk] (.int .i64 bk) (fun w' => by go_simp) (fun w' hB' => by have := benefit13 (j : Int) rk (part x 0) C w' P3.out hC.out; rw [hbk.out] at this; exact this) ?_
                  simp only [Act.put, List.setIfInBounds_toArray, List.set_cons_zero, List.set_cons_succ]
                  refine qb_pure rfl _ (fun w' hB' => by go_simp; rfl) ?_
                  simp only [Act.put, List.setIfInBounds_toArray, List.set_cons_zero, List.set_cons_succ]
                  refine qb_pure rfl _ (fun w' hB' => by go_simp; rfl) ?_
                  simp only [Act.put, List.setIfInBounds_toArray, List.set_cons_zero, List.set_cons_succ]
                  refine qb_nil ?_
                  intro w7 hB7
                  have FW3 := FW.call hB7
                  clear FW hB7 cY cR
                  go_wp2_with fail
                  go_roundw
                  case rel => exact ⟨j + 1, by omega, by go_num, FW3⟩
                  case measure => simp [intOf]; omega
                · have hdlb : decide (dd ≤ bud) = false := by simpa using hdl
                  go_wp2_with fail
                  go_quiet ((go_at_call 15; exact quietL (keep15t _ _ _ HCY2.out _)))
                  go_wp2_with fail
                  go_roundw
                  case rel => exact ⟨j + 1, by omega, by go_num, FW.call (Below.drewN (Below.refl _ _) _)⟩
                  case measure => simp [intOf]; omega
              · have hjb : decide ((j : Int) < 64) = false := by simp; omega
                go_wp2_with fail
                go_ret
                have e := FW.below
                rw [HBX.out] at e
                exact ⟨rfl, e⟩

theorem fitsLaw (x : List Int) (w : World) (hx : x.length = 258) (hw : ∀ y ∈ x, (Lit.int .i64 y).wf = true) :
    Calls Try.prog 4 #[.agg (ints x)] w fun e w' => e = .returned (.bool true) ∧ Below w.heap.size w w' :=
  fits4 x w hx (getD_bd hw 257 (by omega)).1 (getD_bd hw 257 (by omega)).2

end Go.Proofs.Ytfgnmcmkjfnogaa
