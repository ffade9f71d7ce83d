/- The sets of an element: own. -/
import Derived.Test.YtbcnmkdlaoaoeaaG
namespace Go.Proofs.Ytbcnmkdlaoaoeaa
open Go.RowKit
set_option linter.unusedVariables false
set_option linter.unusedSimpArgs false

def natV (l : List Nat) : List Value := l.map fun n : Nat => Value.int .i64 (n : Int)
def seqJ (f : Nat → Nat) (m : Nat) : List Nat := (List.range m).map f
theorem seqJ_len (f : Nat → Nat) (m : Nat) : (seqJ f m).length = m := by simp [seqJ]
theorem seqJ_step (f : Nat → Nat) (m : Nat) : natV (seqJ f (m + 1)) = natV (seqJ f m) ++ [.int .i64 (f m : Nat)] := by simp [seqJ, natV, List.range_succ]
def cubeStep (dims cols : List ByteArray) (n k : Nat) (o i : Nat) : Nat := if k.testBit (n - 1 - i) then o ||| ofS dims [cols.getD i ByteArray.empty] else o
def cubeTo (dims cols : List ByteArray) (n k m : Nat) : Nat := (List.range m).foldl (cubeStep dims cols n k) 0
theorem cubeTo_step (dims cols : List ByteArray) (n k m : Nat) : cubeTo dims cols n k (m + 1) = cubeStep dims cols n k (cubeTo dims cols n k m) m := by
  unfold cubeTo; rw [List.range_succ, List.foldl_append]; rfl
theorem cubeTo_lt (dims cols : List ByteArray) (n k m : Nat) : cubeTo dims cols n k m < 64 := by
  induction m with
  | zero => show (0 : Nat) < 64; omega
  | succ m ih =>
    rw [cubeTo_step]
    unfold cubeStep
    split
    · exact or_lt ih (ofS_lt _ _)
    · exact ih
theorem and_bit' : ∀ a : Fin 128, ∀ i : Fin 7, (bits .and .i64 ((a.val : Nat) : Int) ((2 ^ i.val : Nat) : Int) == 0) = !(a.val.testBit i.val) := by decide +kernel
/-- how many sets an element tells, and which -/
def ownN (g : Grp) : Nat := if g.kind = 1 then 1 else if g.kind = 2 then min (g.cols.length + 1) 65 else if g.kind = 3 then min (2 ^ min g.cols.length 7) 65 else min g.sets.length 65
def ownF (dims : List ByteArray) (g : Grp) (j : Nat) : Nat :=
  if g.kind = 1 then ofS dims g.cols else if g.kind = 2 then ofS dims (g.cols.take (g.cols.length - j)) else if g.kind = 3 then cubeTo dims g.cols (min g.cols.length 7) (2 ^ min g.cols.length 7 - 1 - j) (min g.cols.length 7) else ofS dims (g.sets.getD j [])
def ownL (dims : List ByteArray) (g : Grp) : List Nat := seqJ (ownF dims g) (ownN g)

theorem RowS.take {B : Nat} {w : World} {b off cap : Nat} {l : List ByteArray} (h : RowS B w (.slice (some ⟨b, off, none⟩) l.length cap) l) (m : Nat) (hm : m ≤ l.length) : RowS B w (.slice (some ⟨b, off, none⟩) m cap) (l.take m) := by
  obtain ⟨hl, a, cap', hv, h1, h2, h3⟩ := h
  injection hv with e1 e2 e3
  subst e1 e3
  have hlen : (l.take m).length = m := by simp; omega
  refine ⟨by simp, some ⟨b, off, none⟩, cap, by rw [hlen], by omega, h2, fun hn => ?_⟩
  obtain ⟨b', off', ha, hb', hc⟩ := h3 (by omega)
  injection ha with ha
  injection ha with e1 e2
  subst e1 e2
  refine ⟨b, off, rfl, hb', fun j hj => ?_⟩
  rw [hlen] at hj
  rw [hc j (by omega)]
  have : j < m := by omega
  simp [List.getD_eq_getElem?_getD, List.getElem?_take, this]
theorem RowS.one {B : Nat} {w : World} {b off cap : Nat} {l : List ByteArray} (h : RowS B w (.slice (some ⟨b, off, none⟩) l.length cap) l) (i c : Nat) (hi : i < l.length) (h1c : 1 ≤ c) (hc2 : c ≤ cap) : RowS B w (.slice (some ⟨b, off + i, none⟩) 1 c) [l.getD i ByteArray.empty] := by
  obtain ⟨hl, a, cap', hv, h1, h2, h3⟩ := h
  injection hv with e1 e2 e3
  subst e1 e3
  refine ⟨by simp, some ⟨b, off + i, none⟩, c, rfl, by simpa using h1c, by omega, fun hn => ?_⟩
  obtain ⟨b', off', ha, hb', hc⟩ := h3 (by omega)
  injection ha with ha
  injection ha with e1 e2
  subst e1 e2
  refine ⟨b, off + i, rfl, hb', fun j hj => ?_⟩
  have hj0 : j = 0 := by simpa using hj
  subst hj0
  rw [Nat.add_zero, hc i (by omega)]
  simp [List.getD_eq_getElem?_getD, hi]

set_option maxRecDepth 100000 in
set_option maxHeartbeats 8000000 in
theorem own25 (vd : Value) (dims : List ByteArray) (g : Grp) (vc vs : Value) (w : World) (hd : RowS w.heap.size w vd dims) (hc : RowS w.heap.size w vc g.cols) (hs : RowL w.heap.size w vs g.sets) (hso : soundB g = true) :
    Calls Try.prog 25 #[vd, .agg #[.int .i64 g.kind, vc, vs]] w fun e w' => ∃ v, e = .returned v ∧ w'.ownsRow w.heap.size 3 1 v (ownN g) (natV (ownL dims g)) ∧ Below w.heap.size w w' := by
  obtain ⟨i0, hi, hz0, hz1, hz2⟩ := info_parts Try.info3
  obtain ⟨ad, kd, rfl, -⟩ := hd.open
  obtain ⟨ac, kc, rfl, hkc, hmc, -⟩ := hc.open
  obtain ⟨sa, ks, rfl, hks, hms, hsc⟩ := hs.open
  obtain ⟨kind, cols, sets⟩ := g
  simp only at hc hs hkc hks hsc ⊢
  obtain ⟨w2, hw2⟩ : ∃ w2, w2 = (w.alloc (Obj.cells #[.slice ad dims.length kd] 24)).alloc (Obj.cells #[.int .i64 kind, .slice ac cols.length kc, .slice sa sets.length ks] 32) := ⟨_, rfl⟩
  have hp : Blk w2 w.heap.size 24 #[.slice ad dims.length kd] := by rw [hw2]; exact (Blk.newAt _ _ _ rfl).alloc _
  have hq : Blk w2 (w.heap.size + 1) 32 #[.int .i64 kind, .slice ac cols.length kc, .slice sa sets.length ks] := by rw [hw2]; exact Blk.newAt _ _ _ (by simp)
  have hB : Below w.heap.size w w2 := by rw [hw2]; exact Below.al (Below.al (Below.refl _ _) _) _
  have HW := Lib.hid (And.intro hp (And.intro hq (And.intro hB (And.intro (hd.mono hB hB.size) (And.intro (hc.mono hB hB.size) (hs.mono hB hB.size))))))
  have HSO := Lib.hid hso
  have HSC := Lib.hid hsc
  clear hp hq hB hd hc hs hso hsc
  go_enter Try.func25, Try.ntmps25
  go_upto_region 3 with (fail)
  rw [← hw2]
  clear hw2
  by_cases e1 : kind = 1
  · subst e1
    have hB0 : Below w2.heap.size w2 w2 := Below.refl _ _
    have c0 : w2.cell? ⟨w.heap.size + 1, 0, none⟩ = some (.int .i64 1) := Blk.cell (Blk.below HW.out.2.1 hB0 HW.out.2.1.lt) 0
    have c1 : w2.cell? ⟨w.heap.size + 1, 1, none⟩ = some (.slice ac cols.length kc) := Blk.cell (Blk.below HW.out.2.1 hB0 HW.out.2.1.lt) 1
    have c2 : w2.cell? ⟨w.heap.size + 1, 2, none⟩ = some (.slice sa sets.length ks) := Blk.cell (Blk.below HW.out.2.1 hB0 HW.out.2.1.lt) 2
    go_wp2_with (first | (go_at_call 36; refine (of36 w.heap.size (.slice ad dims.length kd) dims w2 (.slice ac cols.length kc) (cols) (Blk.below HW.out.1 hB0 HW.out.1.lt) (HW.out.2.2.2.1.mono hB0 hB0.size) (HW.out.2.2.2.2.1)).mono ?_; rintro e w3 ⟨rfl, hB3⟩; have own3 : w3.ownsRow w2.heap.size 3 1 (.slice none 0 0) 0 [] := World.ownsRow_nil _ _ _ _; have hsz := hB3.size) | (at_builtin; refine wpList_append_own _ rfl _ _ 22 rfl w2.heap.size 3 i0 (.int .i64 0) 1 8 Try.underlying22 hi hz0 hz1 hz2 rfl (by decide) _ _ _ rfl (own3.alloc _) ⟨w3.heap.size, 0, none⟩ 1 1 [.int .i64 ((ofS dims cols : Nat))] rfl rfl (cell_one_new' _ _ _) (by intro u hu; simp at hu; subst hu; rfl) (by unfold maxLen; omega) (by omega) (by simp; omega) ?_; intro v' w4 hown' hgrow _))
    have hB4 := Below.appended hB3 hsz own3 _ hgrow
    go_ret
    exact ⟨_, rfl, owns_base hown' HW.out.2.2.1.size, Below.call HW.out.2.2.1 hB4⟩
  · by_cases e2 : kind = 2
    · subst e2
      have hcl : 0 < cols.length := by have := HSO.out; simp [soundB] at this; first | exact this | omega
      have hB0 : Below w2.heap.size w2 w2 := Below.refl _ _
      have c0 : w2.cell? ⟨w.heap.size + 1, 0, none⟩ = some (.int .i64 2) := Blk.cell (Blk.below HW.out.2.1 hB0 HW.out.2.1.lt) 0
      have c1 : w2.cell? ⟨w.heap.size + 1, 1, none⟩ = some (.slice ac cols.length kc) := Blk.cell (Blk.below HW.out.2.1 hB0 HW.out.2.1.lt) 1
      have c2 : w2.cell? ⟨w.heap.size + 1, 2, none⟩ = some (.slice sa sets.length ks) := Blk.cell (Blk.below HW.out.2.1 hB0 HW.out.2.1.lt) 2
      go_upto_region 13 with (fail)
      clear c0 c1 c2 hB0
      obtain ⟨bc, oc, rfl⟩ : ∃ bc oc, ac = some ⟨bc, oc, none⟩ := by
        obtain ⟨_, _, e, _, _, h⟩ := HW.out.2.2.2.2.1.open
        injection e with e1 e2 e3
        obtain ⟨b, o, hb, -⟩ := h hcl
        exact ⟨b, o, e1.trans hb⟩
      obtain ⟨f, hf⟩ : ∃ f : Nat → Nat, f = ownF dims ⟨2, cols, sets⟩ := ⟨_, rfl⟩
      have hfj : ∀ j, f j = ofS dims (cols.take (cols.length - j)) := fun j => by rw [hf]; simp [ownF]
      obtain ⟨N, hN⟩ : ∃ N, N = ownN ⟨2, cols, sets⟩ := ⟨_, rfl⟩
      have hNe : N = min (cols.length + 1) 65 := by rw [hN]; simp [ownN]
      have hL : ownL dims ⟨2, cols, sets⟩ = seqJ f N ∧ ownN ⟨2, cols, sets⟩ = N := ⟨by rw [hf, hN]; rfl, hN.symm⟩
      have HL := Lib.hid hL
      clear hL
      have HFJ := Lib.hid hfj
      have HNE := Lib.hid hNe
      clear hfj hf hN hNe HSO HSC
      go_loopw [6, 7] (fun v i wr => ∃ j : Nat, j ≤ N ∧ i = .int .i64 ((cols.length : Int) - j) ∧ wr.ownsRow w2.heap.size 3 1 v j (natV (seqJ f j)) ∧ Below w2.heap.size w2 wr) (fun _ i _ => (intOf i + 1).toNat)
      case atStart => exact ⟨0, by omega, by simp, World.ownsRow_nil _ _ _ _, Below.refl _ _⟩
      case round =>
        obtain ⟨j, hj, rfl, hown, hBr⟩ := hrel
        have hNv := HNE.out
        obtain ⟨an, kn, rfl⟩ := owns_form hown
        have HH := Lib.hid (And.intro hown hBr)
        have hszr := hBr.size
        clear hown hBr
        have c0 : wr.cell? ⟨w.heap.size + 1, 0, none⟩ = some (.int .i64 2) := Blk.cell (Blk.below HW.out.2.1 HH.out.2 HW.out.2.1.lt) 0
        have c1 : wr.cell? ⟨w.heap.size + 1, 1, none⟩ = some (.slice (some ⟨bc, oc, none⟩) cols.length kc) := Blk.cell (Blk.below HW.out.2.1 HH.out.2 HW.out.2.1.lt) 1
        have c2 : wr.cell? ⟨w.heap.size + 1, 2, none⟩ = some (.slice sa sets.length ks) := Blk.cell (Blk.below HW.out.2.1 HH.out.2 HW.out.2.1.lt) 2
        by_cases hlt : j < N
        · obtain ⟨m, hm⟩ : ∃ m : Nat, cols.length = m + j := ⟨cols.length - j, by omega⟩
          have em : ((cols.length : Int) - j) = m := by omega
          rw [em]
          have ef : f j = ofS dims (cols.take m) := by rw [HFJ.out]; congr 2; omega
          have hmI : (m : Int) ≤ kc := by omega
          have hjI : (j : Int) ≤ 64 := by omega
          have HRT := Lib.hid (RowS.take (HW.out.2.2.2.2.1.mono HH.out.2 HH.out.2.size) m (by omega))
          have HEF := Lib.hid ef
          have HM := Lib.hid hm
          clear ef em hNv hm
          go_wp2_with (first | (go_at_call 36; refine (of36 w.heap.size (.slice ad dims.length kd) dims wr (.slice (some ⟨bc, oc, none⟩) m kc) (cols.take m) (Blk.below HW.out.1 HH.out.2 HW.out.1.lt) (HW.out.2.2.2.1.mono HH.out.2 HH.out.2.size) (HRT.out)).mono ?_; rintro e w3 ⟨rfl, hB3⟩; have own3 := owns_below HH.out.1 hB3 (Nat.le_refl _); have hB4 := Below.call HH.out.2 hB3; have hsz := hB4.size) | (at_builtin; refine wpList_append_own _ rfl _ _ 22 rfl w2.heap.size 3 i0 (.int .i64 0) 1 8 Try.underlying22 hi hz0 hz1 hz2 rfl (by decide) _ _ _ rfl (own3.alloc _) ⟨w3.heap.size, 0, none⟩ 1 1 [.int .i64 ((ofS dims (cols.take m) : Nat))] rfl rfl (cell_one_new' _ _ _) (by intro u hu; simp at hu; subst hu; rfl) (by unfold maxLen; omega) (by omega) (by simp; omega) ?_; intro v' w4 hown' hgrow _))
          have hB5 := Below.appended hB4 hsz own3 _ hgrow
          go_roundw
          case rel =>
            have hm := HM.out
            refine ⟨j + 1, by omega, congrArg (Value.int .i64) (show (m : Int) - 1 = (cols.length : Int) - ((j + 1 : Nat) : Int) by omega), by rw [seqJ_step, HEF.out]; exact hown', hB5⟩
          case measure => first | (simp [intOf]; done) | (simp [intOf]; omega)
        · have hjn : j = N := by omega
          subst hjn
          by_cases h65 : cols.length + 1 ≤ 64
          · have ej : ((cols.length : Int) - j) = -1 := by omega
            rw [ej]
            clear ej hNv
            go_wp2_with fail
            go_ret
            exact ⟨_, rfl, by rw [HL.out.1, HL.out.2]; exact owns_base HH.out.1 HW.out.2.2.1.size, Below.call HW.out.2.2.1 HH.out.2⟩
          · have ej65 : j = 65 := by omega
            have d2 : decide ((j : Int) ≤ 64) = false := decide_eq_false (by omega)
            by_cases h64 : cols.length = 64
            · have ej : ((cols.length : Int) - j) = -1 := by omega
              clear ej65 h64 hNv
              rw [ej]
              clear ej
              go_wp2_with fail
              go_ret
              exact ⟨_, rfl, by rw [HL.out.1, HL.out.2]; exact owns_base HH.out.1 HW.out.2.2.1.size, Below.call HW.out.2.2.1 HH.out.2⟩
            · have d1 : (0 : Int) ≤ (cols.length : Int) - j := by omega
              have d0 : decide ((0 : Int) ≤ (cols.length : Int) - j) = true := decide_eq_true d1
              clear ej65 h64 hNv
              go_wp2_with fail
              go_ret
              exact ⟨_, rfl, by rw [HL.out.1, HL.out.2]; exact owns_base HH.out.1 HW.out.2.2.1.size, Below.call HW.out.2.2.1 HH.out.2⟩
    · by_cases e3 : kind = 3
      · subst e3
        have hcl : 0 < cols.length := by have := HSO.out; simp [soundB] at this; first | exact this | omega
        have hB0 : Below w2.heap.size w2 w2 := Below.refl _ _
        have c0 : w2.cell? ⟨w.heap.size + 1, 0, none⟩ = some (.int .i64 3) := Blk.cell (Blk.below HW.out.2.1 hB0 HW.out.2.1.lt) 0
        have c1 : w2.cell? ⟨w.heap.size + 1, 1, none⟩ = some (.slice ac cols.length kc) := Blk.cell (Blk.below HW.out.2.1 hB0 HW.out.2.1.lt) 1
        have c2 : w2.cell? ⟨w.heap.size + 1, 2, none⟩ = some (.slice sa sets.length ks) := Blk.cell (Blk.below HW.out.2.1 hB0 HW.out.2.1.lt) 2
        obtain ⟨n, hn⟩ : ∃ n : Nat, n = min cols.length 7 := ⟨_, rfl⟩
        have hmin : (if (7 : Int) < cols.length then 7 else (cols.length : Int)) = n := by split <;> omega
        have hn7 : n ≤ 7 := by omega
        have hnc : n ≤ cols.length := by omega
        obtain ⟨f, hf⟩ : ∃ f : Nat → Nat, f = ownF dims ⟨3, cols, sets⟩ := ⟨_, rfl⟩
        have hfj : ∀ j, f j = cubeTo dims cols n (2 ^ n - 1 - j) n := fun j => by rw [hf, hn]; simp [ownF]
        obtain ⟨N, hN⟩ : ∃ N, N = ownN ⟨3, cols, sets⟩ := ⟨_, rfl⟩
        have hNe : N = min (2 ^ n) 65 := by rw [hN, hn]; simp [ownN]
        have hL : ownL dims ⟨3, cols, sets⟩ = seqJ f N ∧ ownN ⟨3, cols, sets⟩ = N := ⟨by rw [hf, hN]; rfl, hN.symm⟩
        have HL := Lib.hid hL
        have HFJ := Lib.hid hfj
        clear hL hfj hf hN HSO HSC hn
        obtain ⟨P, hP⟩ : ∃ P, 2 ^ n = P := ⟨_, rfl⟩
        have hPb : 1 ≤ P ∧ P ≤ 128 := by rw [← hP]; match n, hn7 with | 0, _ | 1, _ | 2, _ | 3, _ | 4, _ | 5, _ | 6, _ | 7, _ => decide
        rw [hP] at hNe HFJ
        go_upto_region 18 with (fail)
        try rw [hmin]
        have hn0 : (0 : Int) ≤ n := by omega
        have hP2 : wrap64 (wrap64 ((2 : Int) ^ n) - 1) = (P : Int) - 1 := by
          have e : (2 : Int) ^ n = (P : Int) := by rw [← hP]; simp
          rw [e, w64 (x := (P : Int)) (by omega), w64 (by omega)]
        clear hmin
        go_upto_region 19 with (fail)
        try rw [hP2]
        clear c0 c1 c2 hB0 hP2 hP
        obtain ⟨bc, oc, rfl⟩ : ∃ bc oc, ac = some ⟨bc, oc, none⟩ := by
          obtain ⟨_, _, e, _, _, h⟩ := HW.out.2.2.2.2.1.open
          injection e with e1 e2 e3
          obtain ⟨b, o, hb, -⟩ := h hcl
          exact ⟨b, o, e1.trans hb⟩
        have HNE := Lib.hid hNe
        clear hNe
        go_loopw [6, 9] (fun v i wr => ∃ j : Nat, j ≤ N ∧ i = .int .i64 ((P : Int) - 1 - j) ∧ wr.ownsRow w2.heap.size 3 1 v j (natV (seqJ f j)) ∧ Below w2.heap.size w2 wr) (fun _ i _ => (intOf i + 1).toNat)
        case atStart => exact ⟨0, by omega, by simp, World.ownsRow_nil _ _ _ _, Below.refl _ _⟩
        case round =>
          obtain ⟨wo, hwo⟩ : ∃ wo : World, wo = wr := ⟨_, rfl⟩
          subst hwo
          obtain ⟨j, hj, rfl, hown, hBr⟩ := hrel
          have hNv := HNE.out
          obtain ⟨an, kn, rfl⟩ := owns_form hown
          have HH := Lib.hid (And.intro hown hBr)
          have hszr := hBr.size
          clear hown hBr
          by_cases hlt : j < N
          · obtain ⟨k, hk⟩ : ∃ k : Nat, k = P - 1 - j := ⟨_, rfl⟩
            have ek : ((P : Int) - 1 - j) = k := by omega
            rw [ek]
            have hk128 : k < 128 := by omega
            have ef : f j = cubeTo dims cols n k n := by rw [HFJ.out, hk]
            have hjI : (j : Int) ≤ 64 := by omega
            have hk0 : (0 : Int) ≤ k := by omega
            have EK := Lib.hid (And.intro ek ef)
            clear ek ef hk hNv
            go_upto_region 23 with (fail)
            go_loopw [10, 87] (fun s i wr => ∃ m : Nat, m ≤ n ∧ i = .int .i64 m ∧ s = .int .i64 (cubeTo dims cols n k m : Nat) ∧ Below wo.heap.size wo wr) (fun _ i _ => n - (intOf i).toNat)
            case atStart => exact ⟨0, by omega, rfl, rfl, Below.refl _ _⟩
            case round =>
              obtain ⟨m, hm, rfl, rfl, hBi⟩ := hrel
              have hBw := Below.call HH.out.2 hBi
              have c0 : wr.cell? ⟨w.heap.size + 1, 0, none⟩ = some (.int .i64 3) := Blk.cell (Blk.below HW.out.2.1 hBw HW.out.2.1.lt) 0
              have c1 : wr.cell? ⟨w.heap.size + 1, 1, none⟩ = some (.slice (some ⟨bc, oc, none⟩) cols.length kc) := Blk.cell (Blk.below HW.out.2.1 hBw HW.out.2.1.lt) 1
              have c2 : wr.cell? ⟨w.heap.size + 1, 2, none⟩ = some (.slice sa sets.length ks) := Blk.cell (Blk.below HW.out.2.1 hBw HW.out.2.1.lt) 2
              have hst := cubeTo_step dims cols n k m
              have ho := cubeTo_lt dims cols n k m
              unfold cubeStep at hst
              by_cases hmn : m < n
              · obtain ⟨q, hq⟩ : ∃ q : Nat, q = n - 1 - m := ⟨_, rfl⟩
                have eq : ((n : Int) - 1 - m) = q := by omega
                have hq6 : q < 7 := by omega
                have hq0 : (0 : Int) ≤ q := by omega
                rw [← hq] at hst
                obtain ⟨o, hoe⟩ : ∃ o, cubeTo dims cols n k m = o := ⟨_, rfl⟩
                rw [hoe] at hst ho ⊢
                have hab := and_bit' ⟨k, hk128⟩ ⟨q, hq6⟩
                simp only at hab
                have eqp : wrap64 ((2 : Int) ^ q) = ((2 ^ q : Nat) : Int) := by
                  have e : (2 : Int) ^ q = ((2 ^ q : Nat) : Int) := by simp
                  have hb : 2 ^ q ≤ 64 := by match q, hq6 with | 0, _ | 1, _ | 2, _ | 3, _ | 4, _ | 5, _ | 6, _ => decide
                  rw [e]
                  generalize 2 ^ q = z at hb ⊢
                  exact w64 (by omega)
                have EQ := Lib.hid hq
                cases hb : k.testBit q
                · rw [hb] at hst hab
                  simp only [Bool.false_eq_true, if_false] at hst
                  rw [← eqp] at hab
                  have hab2 : (bits .and .i64 (k : Int) (wrap64 ((2 : Int) ^ q)) != 0) = false := by simpa using hab
                  have HST := Lib.hid hst
                  have HBW := Lib.hid (And.intro hBw hBi)
                  clear hst hoe hq hb eqp hab hBw hBi
                  go_wp2_with fail
                  go_roundw
                  case rel => exact ⟨m + 1, by omega, by go_num, by rw [HST.out], HBW.out.2⟩
                  case measure => simp [intOf]; omega
                · rw [hb] at hst hab
                  simp only [if_true] at hst
                  rw [← eqp] at hab
                  have hab2 : (bits .and .i64 (k : Int) (wrap64 ((2 : Int) ^ q)) != 0) = true := by simpa using hab
                  have HRO := Lib.hid (RowS.one (HW.out.2.2.2.2.1.mono hBw hBw.size) m (kc - m) (by omega) (by omega) (by omega))
                  have hmkc : (m : Int) + 1 ≤ kc := by omega
                  have hmk2 : (m : Int) ≤ m + 1 := by omega
                  have HST := Lib.hid hst
                  have HBW := Lib.hid (And.intro hBw hBi)
                  clear hst hoe hq hb eqp hab hBw hBi
                  go_wp2_with fail
                  refine (of36 w.heap.size (.slice ad dims.length kd) dims wr _ [cols.getD m ByteArray.empty] (Blk.below HW.out.1 HBW.out.1 HW.out.1.lt) (HW.out.2.2.2.1.mono HBW.out.1 HBW.out.1.size) HRO.out).mono ?_
                  rintro e w3 ⟨rfl, hB3⟩
                  have hz := ofS_lt dims [cols.getD m ByteArray.empty]
                  obtain ⟨z, hze⟩ : ∃ z, ofS dims [cols.getD m ByteArray.empty] = z := ⟨_, rfl⟩
                  rw [hze] at hz HST ⊢
                  clear hze
                  go_wp2_with fail
                  go_roundw
                  case rel => exact ⟨m + 1, by omega, by go_num, by rw [HST.out]; exact congrArg (Value.int .i64) (or64 o z ho hz), Below.call HBW.out.2 hB3⟩
                  case measure => simp [intOf]; omega
              · obtain rfl : m = n := by omega
                have own3 := owns_below HH.out.1 hBi (Nat.le_refl _)
                have hsz := hBw.size
                have hef := EK.out.2
                obtain ⟨x, hx⟩ : ∃ x, cubeTo dims cols m k m = x := ⟨_, rfl⟩
                rw [hx] at hef ⊢
                have HEF := Lib.hid (And.intro EK.out.1 hef)
                have HBW := Lib.hid hBw
                clear hst hx hef hBi hBw ho EK
                go_wp2_with (at_builtin; refine wpList_append_own _ rfl _ _ 22 rfl w2.heap.size 3 i0 (.int .i64 0) 1 8 Try.underlying22 hi hz0 hz1 hz2 rfl (by decide) _ _ _ rfl (own3.alloc _) ⟨wr.heap.size, 0, none⟩ 1 1 [.int .i64 ((x : Nat))] rfl rfl (cell_one_new' _ _ _) (by intro u hu; simp at hu; subst hu; rfl) (by unfold maxLen; omega) (by omega) (by simp; omega) ?_; intro v' w4 hown' hgrow _)
                have hB5 := Below.appended HBW.out hsz own3 _ hgrow
                go_roundw
                case rel =>
                  exact ⟨j + 1, by omega, congrArg (Value.int .i64) (show (k : Int) - 1 = (P : Int) - 1 - ((j + 1 : Nat) : Int) by have := HEF.out.1; omega), by rw [seqJ_step, HEF.out.2]; exact hown', hB5⟩
                case measure => first | (simp [intOf]; done) | (simp [intOf]; omega)
          · have hjn : j = N := by omega
            subst hjn
            by_cases h65 : P ≤ 64
            · have ej : ((P : Int) - 1 - j) = -1 := by omega
              rw [ej]
              clear ej hNv
              go_wp2_with fail
              go_ret
              exact ⟨_, rfl, by rw [HL.out.1, HL.out.2]; exact owns_base HH.out.1 HW.out.2.2.1.size, Below.call HW.out.2.2.1 HH.out.2⟩
            · have ej65 : j = 65 := by omega
              have d2 : decide ((j : Int) ≤ 64) = false := decide_eq_false (by omega)
              by_cases h64 : P = 65
              · have ej : ((P : Int) - 1 - j) = -1 := by omega
                clear ej65 h64 hNv
                rw [ej]
                clear ej
                go_wp2_with fail
                go_ret
                exact ⟨_, rfl, by rw [HL.out.1, HL.out.2]; exact owns_base HH.out.1 HW.out.2.2.1.size, Below.call HW.out.2.2.1 HH.out.2⟩
              · have d1 : (0 : Int) ≤ (P : Int) - 1 - j := by omega
                have d0 : decide ((0 : Int) ≤ (P : Int) - 1 - j) = true := decide_eq_true d1
                clear ej65 h64 hNv
                go_wp2_with fail
                go_ret
                exact ⟨_, rfl, by rw [HL.out.1, HL.out.2]; exact owns_base HH.out.1 HW.out.2.2.1.size, Below.call HW.out.2.2.1 HH.out.2⟩
      · skip
        have d1 : (kind == 1) = false := by simpa using e1
        have d2 : (kind == 2) = false := by simpa using e2
        have d3 : (kind == 3) = false := by simpa using e3
        have hB0 : Below w2.heap.size w2 w2 := Below.refl _ _
        have c0 : w2.cell? ⟨w.heap.size + 1, 0, none⟩ = some (.int .i64 kind) := Blk.cell (Blk.below HW.out.2.1 hB0 HW.out.2.1.lt) 0
        have c1 : w2.cell? ⟨w.heap.size + 1, 1, none⟩ = some (.slice ac cols.length kc) := Blk.cell (Blk.below HW.out.2.1 hB0 HW.out.2.1.lt) 1
        have c2 : w2.cell? ⟨w.heap.size + 1, 2, none⟩ = some (.slice sa sets.length ks) := Blk.cell (Blk.below HW.out.2.1 hB0 HW.out.2.1.lt) 2
        obtain ⟨N, hNe⟩ : ∃ N : Nat, N = min sets.length 65 := ⟨_, rfl⟩
        have hmin : (if (65 : Int) < sets.length then 65 else (sets.length : Int)) = N := by split <;> omega
        obtain ⟨f, hf⟩ : ∃ f : Nat → Nat, f = ownF dims ⟨kind, cols, sets⟩ := ⟨_, rfl⟩
        have hfj : ∀ j, f j = ofS dims (sets.getD j []) := fun j => by rw [hf]; simp [ownF, e1, e2, e3]
        have hL : ownL dims ⟨kind, cols, sets⟩ = seqJ f N ∧ ownN ⟨kind, cols, sets⟩ = N := by
          have hN : ownN ⟨kind, cols, sets⟩ = N := by rw [hNe]; simp [ownN, e1, e2, e3]
          exact ⟨by rw [hf, ← hN]; rfl, hN⟩
        have HL := Lib.hid hL
        have HFJ := Lib.hid hfj
        have hNs : N ≤ sets.length := by omega
        have hN65 : N ≤ 65 := by omega
        have hNk : (N : Int) ≤ ks := by omega
        have hN0 : (0 : Int) ≤ N := by omega
        clear hL hfj hf HSO hNe
        go_upto_region 5 with (fail)
        clear c0 c1 c2 hB0 hmin
        go_loopw [6, 25] (fun v i wr => ∃ j : Nat, j ≤ N ∧ i = .int .i64 j ∧ wr.ownsRow w2.heap.size 3 1 v j (natV (seqJ f j)) ∧ Below w2.heap.size w2 wr) (fun _ i _ => N - (intOf i).toNat)
        case atStart => exact ⟨0, by omega, rfl, World.ownsRow_nil _ _ _ _, Below.refl _ _⟩
        case round =>
          obtain ⟨j, hj, rfl, hown, hBr⟩ := hrel
          obtain ⟨an, kn, rfl⟩ := owns_form hown
          have HH := Lib.hid (And.intro hown hBr)
          have hszr := hBr.size
          clear hown hBr
          by_cases hlt : j < N
          · have hI : (j : Int) < N := by omega
            obtain ⟨_, _, he, _, _, hcell⟩ := HW.out.2.2.2.2.2.open
            obtain ⟨b, off, ha, hb, hcell⟩ := hcell (by omega)
            injection he with he1 he2 he3
            obtain ⟨x, hx, hrow⟩ := hcell j (by omega)
            rw [ha] at he1
            subst he1
            have cx : wr.cell? ⟨b, off + j, none⟩ = some x := (HH.out.2.cell (by exact hb)).trans hx
            have HR := Lib.hid (hrow.mono HH.out.2 HH.out.2.size)
            obtain ⟨ax, kx, rfl, -⟩ := hrow.open
            have hfj := HFJ.out j
            obtain ⟨l, hl⟩ : ∃ l, sets.getD j [] = l := ⟨_, rfl⟩
            rw [hl] at cx HR hfj
            have HEF := Lib.hid hfj
            clear hcell hx hrow hl hfj ha he3
            go_wp2_with (first | (go_at_call 36; refine (of36 w.heap.size (.slice ad dims.length kd) dims wr (.slice ax l.length kx) (l) (Blk.below HW.out.1 HH.out.2 HW.out.1.lt) (HW.out.2.2.2.1.mono HH.out.2 HH.out.2.size) (HR.out)).mono ?_; rintro e w3 ⟨rfl, hB3⟩; have own3 := owns_below HH.out.1 hB3 (Nat.le_refl _); have hB4 := Below.call HH.out.2 hB3; have hsz := hB4.size) | (at_builtin; refine wpList_append_own _ rfl _ _ 22 rfl w2.heap.size 3 i0 (.int .i64 0) 1 8 Try.underlying22 hi hz0 hz1 hz2 rfl (by decide) _ _ _ rfl (own3.alloc _) ⟨w3.heap.size, 0, none⟩ 1 1 [.int .i64 ((ofS dims l : Nat))] rfl rfl (cell_one_new' _ _ _) (by intro u hu; simp at hu; subst hu; rfl) (by unfold maxLen; omega) (by omega) (by simp; omega) ?_; intro v' w4 hown' hgrow _))
            have hB5 := Below.appended hB4 hsz own3 _ hgrow
            go_roundw
            case rel => exact ⟨j + 1, by omega, by go_num, by rw [seqJ_step, HEF.out]; exact hown', hB5⟩
            case measure => simp [intOf]; omega
          · have hjn : j = N := by omega
            subst hjn
            go_wp2_with fail
            go_ret
            exact ⟨_, rfl, by rw [HL.out.1, HL.out.2]; exact owns_base HH.out.1 HW.out.2.2.1.size, Below.call HW.out.2.2.1 HH.out.2⟩
end Go.Proofs.Ytbcnmkdlaoaoeaa
