/- SetsShort: the walk. -/
import Derived.Test.YtbcnmkdlaoaoeaaR
import Derived.Test.YtbcnmkdlaoaoeaaBase10
namespace Go.Proofs.Ytbcnmkdlaoaoeaa
open Go.RowKit
set_option linter.unusedVariables false
set_option linter.unusedSimpArgs false

/-- two rows whose elements are of different types lie apart -/
theorem own_apart {w : World} {b b' : Nat} {e e' : TypeId} {s s' n n' : Nat} {v v' : Value} {xs xs' : List Value} (h : w.ownsRow b e s v n xs) (h' : w.ownsRow b' e' s' v' n' xs') (hne : e ≠ e') : v.ownBlock = none ∨ v.ownBlock ≠ v'.ownBlock := by
  rcases h.2 with ⟨rfl, _⟩ | ⟨g, cap, cur, rfl, _, hh, _⟩
  · exact .inl rfl
  · right
    rcases h'.2 with ⟨rfl, _⟩ | ⟨g', cap', cur', rfl, _, hh', _⟩
    · simp [Value.ownBlock]
    · intro he
      have : g = g' := by simpa [Value.ownBlock] using he
      subst this
      rw [hh] at hh'
      injection hh' with hh'
      injection hh' with _ ht
      exact hne ht

theorem rowG_one {w : World} {vc vs : Value} {g : Grp} (hc : RowS w.heap.size w vc g.cols) (hs : RowL w.heap.size w vs g.sets) :
    RowG (w.alloc (Obj.cells #[.int .i64 g.kind, vc, vs] 32)).heap.size (w.alloc (Obj.cells #[.int .i64 g.kind, vc, vs] 32)) (.slice (some ⟨w.heap.size, 0, none⟩) 1 1) [g] := by
  have hB := Below.al (Below.refl w.heap.size w) (Obj.cells #[.int .i64 g.kind, vc, vs] 32)
  refine RowG.of_blk (Blk.new _ _ _) rfl rfl (by decide) fun j hj => ?_
  obtain rfl : j = 0 := by omega
  exact ⟨rfl, hc.mono hB hB.size, hs.mono hB hB.size⟩

/-- one element of a GROUP BY -/
theorem exp_one {dims : List ByteArray} {g : Grp} {L : List Nat} (hx : expandL dims [g] = (L, 0)) (vd vc vs : Value) (w : World) (hd : RowS w.heap.size w vd dims) (hc : RowS w.heap.size w vc g.cols) (hs : RowL w.heap.size w vs g.sets) :
    Calls Try.prog 8 #[vd, .slice (some ⟨w.heap.size, 0, none⟩) 1 1] (w.alloc (Obj.cells #[.int .i64 g.kind, vc, vs] 32)) fun e w' => ∃ a k, e = .returned (.tuple #[.slice a L.length k, .int .i64 0]) ∧ RowI w'.heap.size w' (.slice a L.length k) (L.map fun n : Nat => (n : Int)) ∧ Below w.heap.size w w' := by
  have hB := Below.al (Below.refl w.heap.size w) (Obj.cells #[.int .i64 g.kind, vc, vs] 32)
  have h := expand8 vd (.slice (some ⟨w.heap.size, 0, none⟩) 1 1) dims [g] _ (hd.mono hB hB.size) (rowG_one hc hs) (by simp)
  rw [hx] at h
  refine h.mono ?_
  rintro e w' ⟨v, rfl, hr, hB'⟩
  obtain ⟨a, k, rfl, -⟩ := hr.open
  rw [List.length_map] at hr ⊢
  exact ⟨a, k, rfl, hr, Below.call hB hB'⟩

def rollV (g N cap j : Nat) : List Value := (List.range j).map fun q => Value.slice (some ⟨g, 0, none⟩) (N - q) cap
theorem rollV_step (g N cap j : Nat) : rollV g N cap (j + 1) = rollV g N cap j ++ [.slice (some ⟨g, 0, none⟩) (N - j) cap] := by simp [rollV, List.range_succ]
theorem Try.info24 : (Try.prog.info? 24).map (fun i => (i.zero, i.size, i.bytes)) = some (some (.slice none 0 0), 1, 24) := by kernel_rfl
theorem subTo_step (l : List ByteArray) (n k m : Nat) : subTo l n k (m + 1) = if k.testBit (n - 1 - m) then subTo l n k m ++ [l.getD m ByteArray.empty] else subTo l n k m := rfl

theorem pow_wrap {N P : Nat} (hP : 2 ^ N = P) (hb : P ≤ 64) : wrap64 ((2 : Int) ^ N) = (P : Int) := by
  have e : (2 : Int) ^ N = (P : Int) := by rw [← hP]; simp
  rw [e]
  exact w64 (by omega)
theorem pow_wrap1 {N P : Nat} (hP : 2 ^ N = P) (hb : P ≤ 64) : wrap64 (wrap64 ((2 : Int) ^ N) - 1) = (P : Int) - 1 := by
  rw [pow_wrap hP hb]
  exact w64 (by omega)

/-- the lists of names so far -/
structure CL (B : Nat) (f : Nat → List ByteArray) (j : Nat) (v : Value) (vs : List Value) (w : World) : Prop where
  own : w.ownsRow B 24 1 v j vs
  row : ∀ q, q < j → w.ownsRow B 9 1 (vs.getD q undef) (f q).length ((f q).map Value.string)
theorem CL.below {B : Nat} {f : Nat → List ByteArray} {j : Nat} {v : Value} {vs : List Value} {w w' : World} (h : CL B f j v vs w) (hB : Below w.heap.size w w') : CL B f j v vs w' :=
  ⟨owns_below h.own hB (Nat.le_refl _), fun q hq => owns_below (h.row q hq) hB (Nat.le_refl _)⟩
theorem CL.push {B : Nat} {f : Nat → List ByteArray} {j : Nat} {v v' vn : Value} {vs : List Value} {w w' : World} {o : Obj} (h : CL B f j v vs w) (hn : w.ownsRow B 9 1 vn (f j).length ((f j).map Value.string))
    (hown : w'.ownsRow B 24 1 v' (j + 1) (vs ++ [vn])) (hg : (w.alloc o).grownBy w' v.ownBlock) : CL B f (j + 1) v' (vs ++ [vn]) w' := by
  refine ⟨hown, fun q hq => ?_⟩
  have hvl : vs.length = j := by have := h.own.1; simpa using this
  by_cases e : q = j
  · subst e
    have e1 : (vs ++ [vn]).getD q undef = vn := by simp [List.getD_eq_getElem?_getD, ← hvl]
    rw [e1]
    exact (hn.alloc o).kept hg (own_apart hn h.own (by decide))
  · have hq' : q < j := by omega
    have e1 : (vs ++ [vn]).getD q undef = vs.getD q undef := by
      simp only [List.getD_eq_getElem?_getD, List.getElem?_append_left (show q < vs.length by omega)]
    rw [e1]
    exact ((h.row q hq').alloc o).kept hg (own_apart (h.row q hq') h.own (by decide))
theorem CL.rows {B : Nat} {f : Nat → List ByteArray} {j : Nat} {v : Value} {vs : List Value} {w : World} (h : CL B f j v vs w) : RowL w.heap.size w v ((List.range j).map f) := by
  refine ⟨vs, by have := h.own.1; simpa using this, by have := Row.of_owns h.own; simpa using this, fun q hq => ?_⟩
  have hq' : q < j := by simpa using hq
  have e : ((List.range j).map f).getD q [] = f q := by simp [List.getD_eq_getElem?_getD, hq']
  rw [e]
  exact RowS.of_owns (h.row q hq')

set_option maxHeartbeats 8000000 in
set_option maxRecDepth 100000 in
theorem short3 (picks : List Int) (vp : Value) (w : World) (hp : RowI w.heap.size w vp picks) (hb : ∀ p ∈ picks, -9223372036854775808 ≤ p ∧ p ≤ 9223372036854775807) :
    Calls Try.prog 3 #[vp] w fun e w' => e = .returned (.bool true) ∧ Below w.heap.size w w' := by
  obtain ⟨i9, hi9, hz90, hz91, hz92⟩ := info_parts Try.info9
  obtain ⟨i24, hi24, hz240, hz241, hz242⟩ := info_parts Try.info24
  obtain ⟨ap, kp, rfl, -⟩ := hp.open
  have HP := Lib.hid (And.intro hp hb)
  clear hp hb
  go_enter Try.func3, Try.ntmps3
  go_wp2_with fail
  refine (awake6 w).mono ?_
  rintro e w1 ⟨rfl, hB1⟩
  obtain ⟨wd, hwd⟩ : ∃ wd, wd = w1.alloc (Obj.cells #[.string ⟨#[97]⟩, .string ⟨#[98]⟩, .string ⟨#[99]⟩, .string ⟨#[100]⟩, .string ⟨#[101]⟩, .string ⟨#[102]⟩] 9) := ⟨_, rfl⟩
  have hBd : Below w.heap.size w wd := by rw [hwd]; exact Below.al hB1 _
  have hdb : Blk wd w1.heap.size 9 #[.string ⟨#[97]⟩, .string ⟨#[98]⟩, .string ⟨#[99]⟩, .string ⟨#[100]⟩, .string ⟨#[101]⟩, .string ⟨#[102]⟩] := by rw [hwd]; exact Blk.new _ _ _
  obtain ⟨dims, hdims⟩ : ∃ dims : List ByteArray, dims = [⟨#[97]⟩, ⟨#[98]⟩, ⟨#[99]⟩, ⟨#[100]⟩, ⟨#[101]⟩, ⟨#[102]⟩] := ⟨_, rfl⟩
  have hdl : dims.length = 6 := by rw [hdims]; rfl
  have hrd : RowS wd.heap.size wd (.slice (some ⟨w1.heap.size, 0, none⟩) 6 6) dims := RowS.of_blk hdb (by rw [hdims]; rfl) hdl.symm (by decide)
  have HRD := Lib.hid hrd
  have HBD := Lib.hid hBd
  have hin := namesP_in dims picks (min picks.length 6) (by omega)
  have hll := namesP_len dims picks (min picks.length 6) (by omega)
  have hnm := names7 dims _ picks (.slice ap picks.length kp) wd hrd (by omega) (HP.out.1.mono hBd hBd.size) HP.out.2
  obtain ⟨l, hl⟩ : ∃ l, namesP dims picks (min picks.length 6) = l := ⟨_, rfl⟩
  obtain ⟨N, hN⟩ : ∃ N, min picks.length 6 = N := ⟨_, rfl⟩
  rw [hl] at hin hll hnm
  rw [hN] at hll hnm
  have hN6 : N ≤ 6 := by omega
  have HNM := Lib.hid hnm
  have HIN := Lib.hid hin
  have HLL := Lib.hid hll
  have HDL := Lib.hid hdl
  go_upto_region 3 with fail
  rw [← hwd]
  clear hwd hBd hdb hB1 hdims hdl hrd hin hll hnm hl hN
  go_wp2_with fail
  refine HNM.out.mono ?_
  rintro e w2 ⟨vl, rfl, hown, hB2⟩
  clear HNM
  have HW2 := Lib.hid (Below.call HBD.out hB2)
  have HRD2 := Lib.hid (HRD.out.mono hB2 hB2.size)
  have HRL := Lib.hid (RowS.of_owns hown)
  clear hB2 HRD HBD
  by_cases hN0 : N = 0
  · subst hN0
    obtain ⟨al, kl, rfl⟩ := owns_form hown
    clear hown
    go_wp2_with fail
    go_ret
    exact ⟨rfl, HW2.out⟩
  · obtain ⟨g, cap, rfl, hg, hcapN⟩ : ∃ g cap, vl = .slice (some ⟨g, 0, none⟩) N cap ∧ g < w2.heap.size ∧ N ≤ cap ∧ cap ≤ 9223372036854775807 := by
      rcases hown.2 with ⟨_, h⟩ | ⟨g, cap, cur, h1, _, h2, h3, h4, _⟩
      · exact absurd h hN0
      · exact ⟨g, cap, h1, (Array.getElem?_eq_some_iff.1 h2).1, h3, by simpa [maxLen] using h4⟩
    obtain ⟨hcap1, hcap2⟩ := hcapN
    have hNz : ((N : Int) == 0) = false := beq_eq_false_iff_ne.2 (by omega)
    have hN1 : 0 < N := by omega
    have hN0' : (0 : Int) ≤ N := by omega
    have hlaw := short_law dims l (by have := HDL.out; omega) (by have := HLL.out; omega) (by have := HLL.out; omega) HIN.out
    rw [HLL.out] at hlaw
    have HLAW := Lib.hid hlaw
    clear hown hlaw hN0
    go_wp2_with fail
    clear hNz
    go_loopw [6, 7] (fun v i wr => ∃ j : Nat, j ≤ N + 1 ∧ i = .int .i64 ((N : Int) - j) ∧ wr.ownsRow w2.heap.size 24 1 v j (rollV g N cap j) ∧ Below w2.heap.size w2 wr) (fun _ i _ => (intOf i + 1).toNat)
    case atStart => exact ⟨0, by omega, by simp, World.ownsRow_nil _ _ _ _, Below.refl _ _⟩
    case round =>
      obtain ⟨j, hj, rfl, hown, hB⟩ := hrel
      obtain ⟨an, kn, rfl⟩ := owns_form hown
      have HH := Lib.hid (And.intro hown hB)
      have hsz := hB.size
      clear hown hB
      by_cases hlt : j < N + 1
      · obtain ⟨k, hk⟩ : ∃ k : Nat, k = N - j := ⟨_, rfl⟩
        have ek : ((N : Int) - j) = k := by omega
        rw [ek]
        have hk0 : (0 : Int) ≤ k := by omega
        have hkcap : (k : Int) ≤ cap := by omega
        have hst := rollV_step g N cap j
        rw [← hk] at hst
        have EK := Lib.hid (And.intro ek hst)
        have hkN : k ≤ N := by omega
        clear ek hk hst
        go_wp2_with (at_builtin; refine wpList_append_own _ rfl _ _ 26 rfl w2.heap.size 24 i24 (.slice none 0 0) 1 24 Try.underlying26 hi24 hz240 hz241 hz242 rfl (by decide) _ _ _ rfl (HH.out.1.alloc _) ⟨wr.heap.size, 0, none⟩ 1 1 [.slice (some ⟨g, 0, none⟩) k cap] rfl rfl (cell_one_new' _ _ _) (by intro u hu; simp at hu; subst hu; rfl) (by unfold maxLen; omega) (by omega) (by simp; omega) ?_; intro v' w3 hown' hgrow _)
        have hB' := Below.appended HH.out.2 hsz HH.out.1 _ hgrow
        go_roundw
        case rel => exact ⟨j + 1, by omega, congrArg (Value.int .i64) (show (k : Int) - 1 = (N : Int) - ((j + 1 : Nat) : Int) by have := EK.out.1; omega), by rw [EK.out.2]; exact hown', hB'⟩
        case measure => first | (simp [intOf]; done) | (simp [intOf]; omega)
      · have ej : ((N : Int) - j) = -1 := by omega
        obtain rfl : j = N + 1 := by omega
        have hroll : RowL wr.heap.size wr (.slice an (N + 1) kn) (rollL l) := by
          have hR := HRL.out.mono HH.out.2 hsz
          refine ⟨rollV g N cap (N + 1), by simp [rollV, rollL, HLL.out], by have := Row.of_owns HH.out.1; simpa [rollL, HLL.out] using this, fun q hq => ?_⟩
          have hq' : q < N + 1 := by simpa [rollL, HLL.out] using hq
          have e1 : (rollV g N cap (N + 1)).getD q undef = .slice (some ⟨g, 0, none⟩) (N - q) cap := by simp [rollV, List.getD_eq_getElem?_getD, hq']
          have e2 : (rollL l).getD q [] = l.take (N - q) := by simp [rollL, List.getD_eq_getElem?_getD, HLL.out, hq']
          rw [e1, e2]
          have hl := HLL.out
          subst hl
          exact hR.take _ (by omega)
        have HROLL := Lib.hid hroll
        have HW3 := Lib.hid (Below.call HW2.out HH.out.2)
        have HB3 := Lib.hid HH.out.2
        rw [ej]
        clear ej hroll HH hlt hj
        obtain ⟨w3, hw3⟩ : ∃ w3 : World, w3 = wr := ⟨_, rfl⟩
        rw [← hw3] at HROLL HW3 HB3 hsz ⊢
        clear hw3
        obtain ⟨P, hP⟩ : ∃ P, 2 ^ N = P := ⟨_, rfl⟩
        have hPb : 1 ≤ P ∧ P ≤ 64 := by rw [← hP]; exact pow6 hN6
        have hP3 := pow_wrap hP hPb.2
        have hP2 := pow_wrap1 hP hPb.2
        have HP3 := Lib.hid hP3
        have HPP := Lib.hid hP
        clear hP3 hP
        go_upto_region 13 with (fail)
        try rw [hP2]
        clear hP2
        have HRL3 := Lib.hid (HRL.out.mono HB3.out hsz)
        have HCELL := Lib.hid (show ∀ m, m < N → w3.cell? ⟨g, 0 + m, none⟩ = some (.string (l.getD m ByteArray.empty)) from fun m hm => by
          obtain ⟨_, _, e, _, _, h⟩ := HRL3.out.open
          injection e with e1 e2 e3
          obtain ⟨b, o, hb, _, hc⟩ := h (by omega)
          rw [hb] at e1
          injection e1 with e1
          injection e1 with e1 e4
          subst e1 e4
          exact hc m (by omega))
        have hg3 : g < w3.heap.size := by omega
        obtain ⟨f, hf⟩ : ∃ f : Nat → List ByteArray, f = fun j => subTo l N (P - 1 - j) N := ⟨_, rfl⟩
        have HF := Lib.hid (show ∀ j, f j = subTo l N (P - 1 - j) N from fun j => by rw [hf])
        clear hf
        go_loopw [8, 9] (fun v i wr => ∃ (j : Nat) (vs : List Value), j ≤ P ∧ i = .int .i64 ((P : Int) - 1 - j) ∧ CL w3.heap.size f j v vs wr ∧ Below w3.heap.size w3 wr) (fun _ i _ => (intOf i + 1).toNat)
        case atStart => exact ⟨0, [], by omega, by simp, ⟨World.ownsRow_nil _ _ _ _, fun q hq => absurd hq (by omega)⟩, Below.refl _ _⟩
        case round =>
          obtain ⟨wo, hwo⟩ : ∃ wo : World, wo = wr := ⟨_, rfl⟩
          subst hwo
          obtain ⟨j, vs, hj, rfl, hCL, hBr⟩ := hrel
          obtain ⟨ac, kc, rfl⟩ := owns_form hCL.own
          have HH := Lib.hid (And.intro hCL hBr)
          have hszr := hBr.size
          clear hCL hBr
          by_cases hlt : j < P
          · obtain ⟨k, hk⟩ : ∃ k : Nat, k = P - 1 - j := ⟨_, rfl⟩
            have ek : ((P : Int) - 1 - j) = k := by omega
            rw [ek]
            have hk128 : k < 128 := by omega
            have hk0 : (0 : Int) ≤ k := by omega
            have ef : f j = subTo l N k N := by rw [HF.out, hk]
            have EK := Lib.hid (And.intro ek ef)
            clear ek ef hk
            go_upto_region 17 with (fail)
            go_loopw [10, 11] (fun v i wr => ∃ m : Nat, m ≤ N ∧ i = .int .i64 m ∧ wr.ownsRow wo.heap.size 9 1 v (subTo l N k m).length ((subTo l N k m).map Value.string) ∧ Below wo.heap.size wo wr) (fun _ i _ => N - (intOf i).toNat)
            case atStart => exact ⟨0, by omega, rfl, World.ownsRow_nil _ _ _ _, Below.refl _ _⟩
            case round =>
              obtain ⟨m, hm, rfl, hown, hBi⟩ := hrel
              have hsl := subTo_len l N k m
              have hst := subTo_step l N k m
              obtain ⟨sa, ks, rfl⟩ := owns_form hown
              have HI := Lib.hid (And.intro hown hBi)
              have hszi := hBi.size
              clear hown hBi
              by_cases hmn : m < N
              · obtain ⟨q, hq⟩ : ∃ q : Nat, q = N - 1 - m := ⟨_, rfl⟩
                have eq : ((N : Int) - 1 - m) = q := by omega
                have hq6 : q < 7 := by omega
                have hq0 : (0 : Int) ≤ q := by omega
                have cs : wr.cell? ⟨g, 0 + m, none⟩ = some (.string (l.getD m ByteArray.empty)) := (HI.out.2.cell (show g < wo.heap.size by omega)).trans ((HH.out.2.cell (by exact hg3)).trans (HCELL.out m hmn))
                rw [Nat.zero_add] at cs
                obtain ⟨s, hs⟩ : ∃ s, l.getD m ByteArray.empty = s := ⟨_, rfl⟩
                rw [← hq, hs] at hst
                rw [hs] at cs
                have hab := and_bit' ⟨k, hk128⟩ ⟨q, hq6⟩
                simp only at hab
                have eqp : wrap64 ((2 : Int) ^ q) = ((2 ^ q : Nat) : Int) := by
                  have hb : 2 ^ q ≤ 64 := by match q, hq6 with | 0, _ | 1, _ | 2, _ | 3, _ | 4, _ | 5, _ | 6, _ => decide
                  exact pow_wrap rfl hb
                have hmI : (m : Int) < N := by omega
                clear hs hq
                cases hb : k.testBit q
                · rw [hb] at hst hab
                  simp only [Bool.false_eq_true, if_false] at hst
                  rw [← eqp] at hab
                  have hab2 : (bits .and .i64 (k : Int) (wrap64 ((2 : Int) ^ q)) != 0) = false := by simpa using hab
                  have HST := Lib.hid hst
                  clear hst hb eqp hab
                  go_wp2_with fail
                  go_roundw
                  case rel => exact ⟨m + 1, by omega, by go_num, by rw [HST.out]; exact HI.out.1, HI.out.2⟩
                  case measure => simp [intOf]; omega
                · rw [hb] at hst hab
                  simp only [if_true] at hst
                  rw [← eqp] at hab
                  have hab2 : (bits .and .i64 (k : Int) (wrap64 ((2 : Int) ^ q)) != 0) = true := by simpa using hab
                  have HST := Lib.hid hst
                  clear hst hb eqp hab
                  go_wp2_with (at_builtin; refine wpList_append_own _ rfl _ _ 24 rfl wo.heap.size 9 i9 (.string ByteArray.empty) 1 16 Try.underlying24 hi9 hz90 hz91 hz92 rfl (by decide) _ _ _ rfl (HI.out.1.alloc _) ⟨wr.heap.size, 0, none⟩ 1 1 [.string s] rfl rfl (cell_one_new' _ _ _) (by intro u hu; simp at hu; subst hu; rfl) (by unfold maxLen; omega) (by omega) (by simp; omega) ?_; intro v' w4 hown' hgrow _)
                  have hB' := Below.appended HI.out.2 hszi HI.out.1 _ hgrow
                  go_roundw
                  case rel => exact ⟨m + 1, by omega, by go_num, by rw [HST.out, List.length_append, List.map_append]; exact hown', hB'⟩
                  case measure => simp [intOf]; omega
              · obtain rfl : m = N := by omega
                have hmI : decide ((m : Int) < m) = false := by simp
                have hC2 := HH.out.1.below HI.out.2
                have hnew : wr.ownsRow w3.heap.size 9 1 (.slice sa (subTo l m k m).length ks) (f j).length ((f j).map Value.string) := by rw [EK.out.2]; exact owns_base HI.out.1 hszr
                have HC2 := Lib.hid hC2
                have HNEW := Lib.hid hnew
                have hszw : w3.heap.size ≤ wr.heap.size := by omega
                have HBB := Lib.hid (HH.out.2.trans (HI.out.2.mono hszr))
                obtain ⟨sl, hsl2⟩ : ∃ sl, (subTo l m k m).length = sl := ⟨_, rfl⟩
                rw [hsl2] at HNEW ⊢
                clear hst hC2 hnew HI HH hsl hsl2
                go_wp2_with (at_builtin; refine wpList_append_own _ rfl _ _ 26 rfl w3.heap.size 24 i24 (.slice none 0 0) 1 24 Try.underlying26 hi24 hz240 hz241 hz242 rfl (by decide) _ _ _ rfl (HC2.out.own.alloc _) ⟨wr.heap.size, 0, none⟩ 1 1 [.slice sa sl ks] rfl rfl (cell_one_new' _ _ _) (by intro u hu; simp at hu; subst hu; rfl) (by unfold maxLen; omega) (by omega) (by simp; omega) ?_; intro v' w4 hown' hgrow _)
                have hB5 := Below.appended HBB.out hszw HC2.out.own _ hgrow
                have hpush := HC2.out.push HNEW.out hown' hgrow
                go_roundw
                case rel => exact ⟨j + 1, _, by omega, congrArg (Value.int .i64) (show (k : Int) - 1 = (P : Int) - 1 - ((j + 1 : Nat) : Int) by have := EK.out.1; omega), hpush, hB5⟩
                case measure => first | (simp [intOf]; done) | (simp [intOf]; omega)
          · obtain rfl : j = P := by omega
            have ej : ((j : Int) - 1 - j) = -1 := by omega
            rw [ej]
            have hcube : RowL wo.heap.size wo (.slice ac j kc) (cubeL l) := by
              have h := HH.out.1.rows
              have e : (List.range j).map f = cubeL l := by
                unfold cubeL
                rw [HLL.out, HPP.out]
                exact List.map_congr_left (fun q _ => HF.out q)
              rw [e] at h
              exact h
            have HCUBE := Lib.hid hcube
            have HB4 := Lib.hid HH.out.2
            have HW4 := Lib.hid (Below.call HW3.out HH.out.2)
            clear ej hcube HH hlt hj
            have HRD4 := Lib.hid (HRD2.out.mono (HB3.out.trans (HB4.out.mono hsz)) (HB3.out.trans (HB4.out.mono hsz)).size)
            have HRL4 := Lib.hid (HRL3.out.mono HB4.out hszr)
            have HROLL4 := Lib.hid (HROLL.out.mono HB4.out hszr)
            clear HRD2 HRL3 HROLL HCELL HB3 HB4 HRL HW2 HW3 HF
            obtain ⟨A, hA⟩ : ∃ A, ownL dims ⟨2, l, []⟩ = A := ⟨_, rfl⟩
            obtain ⟨C, hC⟩ : ∃ C, ownL dims ⟨3, l, []⟩ = C := ⟨_, rfl⟩
            have hlaw := HLAW.out
            rw [hA, hC] at hlaw
            obtain ⟨h1, h2, h3, h4, h5, h6⟩ := hlaw
            have H1 := Lib.hid (fun w hd hc => exp_one h1 (.slice (some ⟨w1.heap.size, 0, none⟩) 6 6) (.slice (some ⟨g, 0, none⟩) N cap) (.slice none 0 0) w hd hc (RowL.nil _ _))
            have H2 := Lib.hid (fun w hd hs => exp_one h2 (.slice (some ⟨w1.heap.size, 0, none⟩) 6 6) (.slice none 0 0) (.slice an (N + 1) kn) w hd (RowS.nil _ _) hs)
            have H3 := Lib.hid (fun w hd hc => exp_one h3 (.slice (some ⟨w1.heap.size, 0, none⟩) 6 6) (.slice (some ⟨g, 0, none⟩) N cap) (.slice none 0 0) w hd hc (RowL.nil _ _))
            have H4 := Lib.hid (fun w hd hs => exp_one h4 (.slice (some ⟨w1.heap.size, 0, none⟩) 6 6) (.slice none 0 0) (.slice ac j kc) w hd (RowS.nil _ _) hs)
            have H5 := Lib.hid (And.intro h5 h6)
            clear h1 h2 h3 h4 h5 h6 hA hC HLAW
            go_wp2_with fail
            refine (H1.out wo HRD4.out HRL4.out).mono ?_
            rintro e w5 ⟨a1, k1, rfl, hr1, hB5⟩
            have HR1 := Lib.hid hr1
            have HB5 := Lib.hid hB5
            clear hr1 hB5 H1
            go_wp2_with fail
            refine (H2.out w5 (HRD4.out.mono HB5.out HB5.out.size) (HROLL4.out.mono HB5.out HB5.out.size)).mono ?_
            rintro e w6 ⟨a2, k2, rfl, hr2, hB6⟩
            have HR2 := Lib.hid hr2
            have HR1' := Lib.hid (HR1.out.mono hB6 hB6.size)
            have HB6 := Lib.hid (HB5.out.trans (hB6.mono HB5.out.size))
            clear hr2 hB6 H2 HR1 HB5
            go_wp2_with fail
            refine (H3.out w6 (HRD4.out.mono HB6.out HB6.out.size) (HRL4.out.mono HB6.out HB6.out.size)).mono ?_
            rintro e w7 ⟨a3, k3, rfl, hr3, hB7⟩
            have HR3 := Lib.hid hr3
            have HR1 := Lib.hid (HR1'.out.mono hB7 hB7.size)
            have HR2' := Lib.hid (HR2.out.mono hB7 hB7.size)
            have HB7 := Lib.hid (HB6.out.trans (hB7.mono HB6.out.size))
            clear hr3 hB7 H3 HR1' HR2 HB6
            go_wp2_with fail
            refine (H4.out w7 (HRD4.out.mono HB7.out HB7.out.size) (HCUBE.out.mono HB7.out HB7.out.size)).mono ?_
            rintro e w8 ⟨a4, k4, rfl, hr4, hB8⟩
            have HR4 := Lib.hid hr4
            have HR1' := Lib.hid (HR1.out.mono hB8 hB8.size)
            have HR2 := Lib.hid (HR2'.out.mono hB8 hB8.size)
            have HR3' := Lib.hid (HR3.out.mono hB8 hB8.size)
            have HB8 := Lib.hid (HB7.out.trans (hB8.mono HB7.out.size))
            have HFIN := Lib.hid (Below.call HW4.out HB8.out)
            clear hr4 hB8 H4 HR1 HR2' HR3 HB7 HB8 HRD4 HRL4 HROLL4 HCUBE HW4
            go_wp2_with fail
            refine (same9 w8.heap.size _ _ _ _ w8 HR1'.out HR2.out).mono ?_
            rw [show decide ((A.map fun n : Nat => (n : Int)) = A.map fun n : Nat => (n : Int)) = true by simp]
            rintro e w9 ⟨rfl, n9, rfl⟩
            go_wp2_with fail
            refine (same9 w8.heap.size _ _ _ _ (w8.drewN n9) (Row.mono HR3'.out (Below.drewN (Below.refl _ _) n9) (Nat.le_refl _)) (Row.mono HR4.out (Below.drewN (Below.refl _ _) n9) (Nat.le_refl _))).mono ?_
            rw [show decide ((C.map fun n : Nat => (n : Int)) = C.map fun n : Nat => (n : Int)) = true by simp]
            rintro e w10 ⟨rfl, n10, rfl⟩
            have l1 := H5.out.1
            have l2 := H5.out.2
            rw [HPP.out] at l2
            have t1 : ((A.length : Int) == (N : Int) + 1) = true := by simp [l1]
            have t2 : ((C.length : Int) == wrap64 ((2 : Int) ^ N)) = true := by rw [HP3.out, l2]; simp
            clear l1 l2
            go_wp2_with fail
            go_ret
            exact ⟨rfl, Below.drewN HFIN.out (n9 + n10)⟩

theorem shortLaw (vp : Value) (w : World) (picks : List Int) (hp : RowI w.heap.size w vp picks) (hb : ∀ p ∈ picks, (Lit.int .i64 p).wf = true) (hw : picks.length * 8 ≤ 140737488351232) :
    Calls Try.prog 3 #[vp] w fun e w' => e = .returned (.bool true) ∧ Below w.heap.size w w' := short3 picks vp w hp (fun p h => wf_bd (hb p h))
end Go.Proofs.Ytbcnmkdlaoaoeaa
