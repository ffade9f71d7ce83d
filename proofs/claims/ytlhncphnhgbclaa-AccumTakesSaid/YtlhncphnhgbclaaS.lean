/- Accumulators: Valid of both, in general; the document's New. -/
import Derived.Test.YtlhncphnhgbclaaR
namespace Go.Proofs.Ytlhncphnhgbclaa
open Go.RowKit
set_option linter.unusedVariables false
set_option linter.unusedSimpArgs false

/-- may a part not be? -/
def badB (c : Int) (p : Prt) : Bool := if p.any then (c == 0) || decide (p.mx < p.mn) else !(eqB p zeroP)
def anyBad (c : Int) (ps : List Prt) : Bool := (List.range ps.length).any fun i => badB c (ps.getD i zeroP)
theorem anyBad_yes {c : Int} {ps : List Prt} {k : Nat} (hk : k < ps.length) (h : badB c (ps.getD k zeroP) = true) : anyBad c ps = true := by
  unfold anyBad
  rw [List.any_eq_true]
  exact ⟨k, List.mem_range.2 hk, h⟩
theorem anyBad_no {c : Int} {ps : List Prt} (h : ∀ j, j < ps.length → badB c (ps.getD j zeroP) = false) : anyBad c ps = false := by
  unfold anyBad
  rw [List.any_eq_false]
  intro j hj
  show ¬ (badB _ _ = true)
  rw [h j (List.mem_range.1 hj)]
  decide
theorem zh : hiW zeroP.sum = 0 := by decide
theorem zl : loW zeroP.sum = 0 := by decide
theorem zmn : zeroP.mn = 0 := rfl
theorem zmx : zeroP.mx = 0 := rfl

set_option maxHeartbeats 4000000 in
theorem valid41g (p : Prt) (bx : Nat) (c : Int) (v : Value) (w : World) (hb : Blk w bx 39 #[.int .i64 c, v]) :
    Calls Try.prog 41 #[.agg #[.bool p.any, .int .i64 (hiW p.sum), .int .u64 (loW p.sum), .int .i64 p.mn, .int .i64 p.mx], .pointer (some ⟨bx, 0, none⟩)] w fun e w' => e = .returned (.bool (badB c p)) ∧ Below w.heap.size w w' := by
  have c0 : (w.alloc (Obj.cells #[.bool p.any, .int .i64 (hiW p.sum), .int .u64 (loW p.sum), .int .i64 p.mn, .int .i64 p.mx] 46)).cell? ⟨bx, 0, none⟩ = some (.int .i64 c) := Blk.cell (Blk.alloc hb _) 0
  cases ha : p.any with
  | true =>
    rw [ha] at c0
    cases hc : (c == 0) with
    | true =>
      have hbad : badB c p = true := by simp [badB, ha, hc]
      have HB := Lib.hid hbad
      clear hbad ha
      go_enter Try.func41, Try.ntmps41
      go_wp2_with fail
      go_ret
      exact ⟨by rw [HB.out] <;> rfl, Below.al (Below.refl _ _) _⟩
    | false =>
      obtain ⟨d, hd⟩ : ∃ d, decide (p.mx < p.mn) = d := ⟨_, rfl⟩
      have hbad : badB c p = d := by simp [badB, ha, hc, hd]
      have HB := Lib.hid hbad
      clear hbad ha
      go_enter Try.func41, Try.ntmps41
      go_wp2_with fail
      go_ret
      exact ⟨by rw [HB.out] <;> rfl, Below.al (Below.refl _ _) _⟩
  | false =>
    rw [ha] at c0
    cases hq : eqB p zeroP with
    | true =>
      have hbad : badB c p = false := by simp [badB, ha, hq]
      have HB := Lib.hid hbad
      obtain ⟨-, g2, g3, g4, g5⟩ := eqB_yes hq
      rw [zh] at g2
      rw [zl] at g3
      have g4' : p.mn = 0 := g4
      have g5' : p.mx = 0 := g5
      clear hbad ha hq g4 g5
      go_enter Try.func41, Try.ntmps41
      go_wp2_with fail
      go_ret
      exact ⟨by rw [HB.out] <;> rfl, Below.al (Below.refl _ _) _⟩
    | false =>
      have hbad : badB c p = true := by simp [badB, ha, hq]
      have HB := Lib.hid hbad
      have hd := eqB_no hq
      rw [ha, zh, zl, zmn, zmx] at hd
      rcases hd with hd | hd | hd | hd | hd
      · exact absurd hd (by decide)
      all_goals
        clear hbad ha hq
        go_enter Try.func41, Try.ntmps41
        go_wp2_with fail
        all_goals
          go_ret
          exact ⟨by rw [HB.out] <;> rfl, Below.al (Below.refl _ _) _⟩

set_option maxHeartbeats 4000000 in
theorem index47g (v : Value) (ps : List Prt) (bx : Nat) (c : Int) (va : Value) (w : World) (h1 : RowP w.heap.size w v ps) (hb : Blk w bx 39 #[.int .i64 c, va]) :
    Calls Try.prog 47 #[v, .func (.func 41) #[] #[.pointer (some ⟨bx, 0, none⟩)]] w fun e w' => ∃ i : Int, e = .returned (.int .i64 i) ∧ Hid (decide (0 ≤ i) = anyBad c ps) ∧ Below w.heap.size w w' := by
  obtain ⟨a1, cap1, rfl, hcap1, hmax1, hc1⟩ := h1.open
  have HC1 := Lib.hid hc1
  have hl := Blk.lt hb
  clear hc1 h1
  go_enter Try.func47, Try.ntmps47
  go_wp2_with fail
  go_loopw [5, 8] (fun _ i wr => ∃ k : Nat, k ≤ ps.length ∧ i = .int .i64 k ∧ Hid (∀ j, j < k → badB c (ps.getD j zeroP) = false) ∧ Below w.heap.size w wr) (fun _ i _ => ps.length - (intOf i).toNat)
  case atStart => exact ⟨0, by omega, rfl, fun j h => absurd h (by omega), Below.refl _ _⟩
  case round =>
    obtain ⟨k, hk, rfl, HN, hB⟩ := hrel
    by_cases hlt : k < ps.length
    · have d1 : decide ((k : Int) < ps.length) = true := by simp; omega
      obtain ⟨b1, off1, rfl, hb1, hcell1⟩ := HC1.out (by omega)
      obtain ⟨p, hpe⟩ : ∃ p, ps.getD k zeroP = p := ⟨_, rfl⟩
      have q1 : ∀ j, j < 5 → wr.cell? ⟨b1, off1 + k * 5 + j, none⟩ = (partA p)[j]? := fun j hj => by rw [hB.cell (by exact hb1), hcell1 k j hlt hj, hpe]
      unfold partA at q1
      have Q1 := Lib.hid q1
      have hbr := Blk.below hb hB hl
      have HPE := Lib.hid hpe
      clear hcell1 q1 hpe
      have c0 : wr.cell? ⟨b1, off1 + k * 5, none⟩ = some (.bool p.any) := Q1.out 0 (by decide)
      have c1 : wr.cell? ⟨b1, off1 + k * 5 + 1, none⟩ = some (.int .i64 (hiW p.sum)) := Q1.out 1 (by decide)
      have c2 : wr.cell? ⟨b1, off1 + k * 5 + 2, none⟩ = some (.int .u64 (loW p.sum)) := Q1.out 2 (by decide)
      have c3 : wr.cell? ⟨b1, off1 + k * 5 + 3, none⟩ = some (.int .i64 p.mn) := Q1.out 3 (by decide)
      have c4 : wr.cell? ⟨b1, off1 + k * 5 + 4, none⟩ = some (.int .i64 p.mx) := Q1.out 4 (by decide)
      go_wp2_with fail
      refine (valid41g p bx c va _ hbr).mono ?_
      rintro e w2 ⟨rfl, hB2⟩
      have hB3 := Below.call hB hB2
      obtain ⟨bb, hbb⟩ : ∃ bb, badB c p = bb := ⟨_, rfl⟩
      rw [hbb]
      have HBB := Lib.hid hbb
      clear hbb
      cases bb with
      | true =>
        have HY := Lib.hid (anyBad_yes (c := c) (ps := ps) hlt (by rw [HPE.out]; exact HBB.out))
        go_wp2_with fail
        go_ret
        exact ⟨(k : Int), rfl, by rw [Hid, HY.out]; simp, hB3⟩
      | false =>
        go_wp2_with fail
        go_roundw
        case rel =>
          refine ⟨k + 1, by omega, by go_num, ?_, hB3⟩
          intro j hj
          by_cases e : j = k
          · subst e; rw [HPE.out]; exact HBB.out
          · exact HN.out j (by omega)
        case measure => simp [intOf]; omega
    · obtain rfl : k = ps.length := by omega
      have HY := Lib.hid (anyBad_no HN.out)
      go_wp2_with fail
      go_ret
      exact ⟨-1, rfl, by rw [Hid, HY.out]; decide, hB⟩

theorem contains40g (v : Value) (ps : List Prt) (bx : Nat) (c : Int) (va : Value) (w : World) (h1 : RowP w.heap.size w v ps) (hb : Blk w bx 39 #[.int .i64 c, va]) :
    Calls Try.prog 40 #[v, .func (.func 41) #[] #[.pointer (some ⟨bx, 0, none⟩)]] w fun e w' => e = .returned (.bool (anyBad c ps)) ∧ Below w.heap.size w w' := by
  go_enter Try.func40, Try.ntmps40
  go_wp2_with fail
  refine (index47g v ps bx c va _ h1 hb).mono ?_
  rintro e w2 ⟨i, rfl, hi, hB2⟩
  go_wp2_with fail
  go_ret
  exact ⟨by rw [← hi.out] <;> rfl, hB2⟩

/-- may an accumulator be? -/
def validB (c : Int) (ps : List Prt) (m : Int) : Bool := decide (0 ≤ c) && ((ps.length : Int) == m) && !anyBad c ps
theorem valid25g (c m : Int) (v : Value) (ps : List Prt) (w : World) (h1 : RowP w.heap.size w v ps) :
    Calls Try.prog 25 #[.agg #[.int .i64 c, v], .int .i64 m] w fun e w' => e = .returned (.bool (validB c ps m)) ∧ Below w.heap.size w w' := by
  have hmf : ∀ (fn : Fn) (first cap : Array Value) (w : World), (Instr.makeFunc fn first cap).run Try.prog w = .ok (.func fn first cap) w := fun _ _ _ _ => rfl
  obtain ⟨a1, cap1, rfl, hcap1, hmax1, -⟩ := h1.open
  have hB : Below w.heap.size w (w.alloc (Obj.cells #[.int .i64 c, .slice a1 ps.length cap1] 39)) := Below.al (Below.refl _ _) _
  have h1' : RowP (w.alloc (Obj.cells #[.int .i64 c, .slice a1 ps.length cap1] 39)).heap.size (w.alloc (Obj.cells #[.int .i64 c, .slice a1 ps.length cap1] 39)) (.slice a1 ps.length cap1) ps := Row.mono h1 hB hB.size
  have hb : Blk (w.alloc (Obj.cells #[.int .i64 c, .slice a1 ps.length cap1] 39)) w.heap.size 39 #[.int .i64 c, .slice a1 ps.length cap1] := Blk.newAt _ _ _ rfl
  have H1 := Lib.hid h1'
  have HB := Lib.hid hB
  have HBB := Lib.hid hb
  clear h1 h1' hB hb
  cases hc : decide (0 ≤ c) with
  | false =>
    have hv : validB c ps m = false := by simp [validB, hc]
    have HV := Lib.hid hv
    clear hv
    go_enter Try.func25, Try.ntmps25
    go_wp2_with fail
    go_ret
    exact ⟨by rw [HV.out] <;> rfl, HB.out⟩
  | true =>
    cases hm : ((ps.length : Int) == m) with
    | false =>
      have hv : validB c ps m = false := by simp [validB, hm]
      have HV := Lib.hid hv
      clear hv
      go_enter Try.func25, Try.ntmps25
      go_wp2_with fail
      go_ret
      exact ⟨by rw [HV.out] <;> rfl, HB.out⟩
    | true =>
      have hv : validB c ps m = !anyBad c ps := by simp [validB, hc, hm]
      have HV := Lib.hid hv
      clear hv
      go_enter Try.func25, Try.ntmps25
      go_wp2_with fail
      refine (contains40g _ ps w.heap.size c _ _ H1.out HBB.out).mono ?_
      rintro e w2 ⟨rfl, hB2⟩
      have hB3 := Below.call HB.out hB2
      obtain ⟨ab, hab⟩ : ∃ ab, anyBad c ps = ab := ⟨_, rfl⟩
      rw [hab]
      have HAB := Lib.hid hab
      clear hab
      go_wp2_with fail
      go_ret
      exact ⟨by rw [HV.out, HAB.out] <;> rfl, hB3⟩
end Go.Proofs.Ytlhncphnhgbclaa
