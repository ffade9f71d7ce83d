/- Elements of a GROUP BY: which are sound. -/
import Derived.Test.YtbcnmkdlaoaoeaaE
namespace Go.Proofs.Ytbcnmkdlaoaoeaa
open Go.RowKit
set_option linter.unusedVariables false
set_option linter.unusedSimpArgs false

/-- an element -/
structure Grp where
  kind : Int
  cols : List ByteArray
  sets : List (List ByteArray)
def zeroG : Grp := ⟨0, [], []⟩
def soundB (g : Grp) : Bool := if g.kind = 1 then decide (g.cols.length = 1) else if g.kind = 2 ∨ g.kind = 3 then decide (0 < g.cols.length) else decide (g.kind = 4)

theorem info32 : (Try.prog.info? 32).map (·.size) = some 3 := by kernel_rfl

set_option maxHeartbeats 4000000 in
theorem sound18 (B : Nat) (g : Grp) (vc vs : Value) (w : World) (hc : RowS B w vc g.cols) (hs : RowL B w vs g.sets) :
    Calls Try.prog 18 #[.agg #[.int .i64 g.kind, vc, vs]] w fun e w' => e = .returned (.bool (soundB g)) ∧ Below w.heap.size w w' := by
  obtain ⟨a1, k1, rfl, -⟩ := hc.open
  obtain ⟨a2, k2, rfl, -⟩ := hs.open
  obtain ⟨kind, cols, sets⟩ := g
  simp only at hc hs ⊢
  clear hc hs
  have hB := Below.al (Below.refl w.heap.size w) (Obj.cells #[.int .i64 kind, .slice a1 cols.length k1, .slice a2 sets.length k2] 32)
  have HB := Lib.hid hB
  clear hB
  by_cases e1 : kind = 1
  · subst e1
    go_enter Try.func18, Try.ntmps18
    go_wp2_with fail
    go_ret
    exact ⟨ret_bool (by rw [show soundB ⟨1, cols, sets⟩ = decide (cols.length = 1) from rfl]; by_cases h : cols.length = 1 <;> simp [h] <;> omega), HB.out⟩
  · by_cases e2 : kind = 2
    · subst e2
      go_enter Try.func18, Try.ntmps18
      go_wp2_with fail
      go_ret
      exact ⟨ret_bool (by simp [soundB]; first | done | omega), HB.out⟩
    · by_cases e3 : kind = 3
      · subst e3
        go_enter Try.func18, Try.ntmps18
        go_wp2_with fail
        go_ret
        exact ⟨ret_bool (by simp [soundB]; first | done | omega), HB.out⟩
      · have d1 : (kind == 1) = false := by simpa using e1
        have d2 : (kind == 2) = false := by simpa using e2
        have d3 : (kind == 3) = false := by simpa using e3
        go_enter Try.func18, Try.ntmps18
        go_wp2_with fail
        go_ret
        exact ⟨ret_bool (by simp [soundB, e1, e2, e3]; first | done | rfl | omega), HB.out⟩

set_option maxHeartbeats 4000000 in
theorem unsound17 (g : Grp) (vc vs : Value) (w : World) (hc : RowS w.heap.size w vc g.cols) (hs : RowL w.heap.size w vs g.sets) :
    Calls Try.prog 17 #[.agg #[.int .i64 g.kind, vc, vs]] w fun e w' => e = .returned (.bool (!(soundB g))) ∧ Below w.heap.size w w' := by
  have hB := Below.al (Below.refl w.heap.size w) (Obj.cells #[.int .i64 g.kind, vc, vs] 32)
  have h1 := sound18 _ g vc vs (w.alloc (Obj.cells #[.int .i64 g.kind, vc, vs] 32)) (hc.mono hB (Nat.le_refl _)) (hs.mono hB (Nat.le_refl _))
  have hb : Blk (w.alloc (Obj.cells #[.int .i64 g.kind, vc, vs] 32)) w.heap.size 32 #[.int .i64 g.kind, vc, vs] := Blk.new _ _ _
  obtain ⟨w1, hw1⟩ : ∃ w1, w1 = w.alloc (Obj.cells #[.int .i64 g.kind, vc, vs] 32) := ⟨_, rfl⟩
  obtain ⟨a1, k1, rfl, -⟩ := hc.open
  obtain ⟨a2, k2, rfl, -⟩ := hs.open
  rw [← hw1] at hB h1 hb
  have HB := Lib.hid hB
  have H1 := Lib.hid h1
  have HBB := Lib.hid hb
  clear hc hs hB h1 hb
  go_enter Try.func17, Try.ntmps17
  go_upto_region 1 with (fail)
  rw [← hw1]
  clear hw1
  go_wp2_with (first | (refine wpList_load_at rfl 32 _ rfl (w.heap.size) 0 rfl #[.int .i64 g.kind, .slice a1 g.cols.length k1, .slice a2 g.sets.length k2] _ (fun j hj => by rw [Nat.zero_add]; exact Blk.cell HBB.out j) Try.underlying32 rfl info32 ?_) | (go_at_call 18; refine H1.out.mono ?_; rintro e w2 ⟨rfl, hB2⟩))
  go_ret
  exact ⟨rfl, Below.call HB.out hB2⟩

/-- three cells hold an element -/
structure GrpAt (B : Nat) (w : World) (x y z : Value) (g : Grp) : Prop where
  k : x = .int .i64 g.kind
  c : RowS B w y g.cols
  s : RowL B w z g.sets
theorem GrpAt.mono {B B' : Nat} {w w' : World} {x y z : Value} {g : Grp} (h : GrpAt B w x y z g) (hb : Below B w w') (hB : B ≤ B') : GrpAt B' w' x y z g := ⟨h.k, h.c.mono hb hB, h.s.mono hb hB⟩
/-- a slice of elements that can be read -/
structure RowG (B : Nat) (w : World) (v : Value) (gs : List Grp) : Prop where
  row : ∃ xs : List Value, Row B w v gs.length 3 xs ∧ ∀ j, j < gs.length → GrpAt B w (xs.getD (j * 3) undef) (xs.getD (j * 3 + 1) undef) (xs.getD (j * 3 + 2) undef) (gs.getD j zeroG)
theorem RowG.mono {B B' : Nat} {w w' : World} {v : Value} {gs : List Grp} (h : RowG B w v gs) (hb : Below B w w') (hB : B ≤ B') : RowG B' w' v gs := by
  obtain ⟨xs, h2, h3⟩ := h.row
  exact ⟨xs, Row.mono h2 hb hB, fun j hj => (h3 j hj).mono hb hB⟩
theorem RowG.open {B : Nat} {w : World} {v : Value} {gs : List Grp} (h : RowG B w v gs) : ∃ a cap, v = .slice a gs.length cap ∧ gs.length ≤ cap ∧ cap ≤ 9223372036854775807 ∧
    (0 < gs.length → ∃ b off, a = some ⟨b, off, none⟩ ∧ b < B ∧ ∀ j, j < gs.length → ∃ vc vs, w.cell? ⟨b, off + j * 3, none⟩ = some (.int .i64 (gs.getD j zeroG).kind) ∧ w.cell? ⟨b, off + j * 3 + 1, none⟩ = some vc ∧ w.cell? ⟨b, off + j * 3 + 2, none⟩ = some vs ∧
      RowS B w vc (gs.getD j zeroG).cols ∧ RowL B w vs (gs.getD j zeroG).sets) := by
  obtain ⟨xs, ⟨h1, a, cap, hv, h2, h3, h4⟩, h5⟩ := h.row
  refine ⟨a, cap, hv, h2, by simpa [maxLen] using h3, fun hn => ?_⟩
  obtain ⟨b, off, ha, hb', hc⟩ := h4 hn
  refine ⟨b, off, ha, hb', fun j hj => ?_⟩
  have g := h5 j hj
  refine ⟨_, _, ?_, ?_, ?_, g.c, g.s⟩
  · rw [hc (j * 3) (by omega), g.k]
  · rw [Nat.add_assoc, hc (j * 3 + 1) (by omega)]
  · rw [Nat.add_assoc, hc (j * 3 + 2) (by omega)]

set_option maxHeartbeats 4000000 in
theorem index32 (v : Value) (gs : List Grp) (w : World) (hl : RowG w.heap.size w v gs) :
    Calls Try.prog 32 #[v, .func (Fn.func 17) #[] #[]] w fun e w' => e = .returned (.int .i64 (idxP gs fun g => !(soundB g))) ∧ Below w.heap.size w w' := by
  obtain ⟨a, cap, rfl, hcap, hmax, hc⟩ := hl.open
  have HC := Lib.hid hc
  clear hc hl
  go_enter Try.func32, Try.ntmps32
  go_wp2
  go_loopw [8] (fun i wr => ∃ k : Nat, k ≤ gs.length ∧ i = .int .i64 k ∧ Below w.heap.size w wr ∧ ∀ j, j < k → (!(soundB (gs.getD j zeroG))) = false) (fun i _ => gs.length - (intOf i).toNat)
  case atStart => exact ⟨0, by omega, rfl, Below.refl _ _, fun j h => absurd h (by omega)⟩
  case round =>
    obtain ⟨k, hk, rfl, hB, hn⟩ := hrel
    have HN := Lib.hid hn
    clear hn
    by_cases hlt : k < gs.length
    · obtain ⟨b, off, rfl, hb, hcell⟩ := HC.out (by omega)
      obtain ⟨vc, vs, x0, x1, x2, r1, r2⟩ := hcell k hlt
      obtain ⟨g, hg⟩ : ∃ g, gs.getD k zeroG = g := ⟨_, rfl⟩
      rw [hg] at x0 r1 r2
      have HG := Lib.hid hg
      have y0 : wr.cell? ⟨b, off + k * 3, none⟩ = some (.int .i64 g.kind) := (hB.cell (by exact hb)).trans x0
      have y1 : wr.cell? ⟨b, off + k * 3 + 1, none⟩ = some vc := (hB.cell (by exact hb)).trans x1
      have y2 : wr.cell? ⟨b, off + k * 3 + 2, none⟩ = some vs := (hB.cell (by exact hb)).trans x2
      have HY := Lib.hid (And.intro y0 (And.intro y1 y2))
      have HU := Lib.hid (unsound17 g vc vs wr (r1.mono hB hB.size) (r2.mono hB hB.size))
      clear hcell HC x0 x1 x2 y0 y1 y2 r1 r2 hg
      have hload : ∀ j, j < (#[Value.int .i64 g.kind, vc, vs] : Array Value).size → wr.cell? ⟨b, off + k * 3 + j, none⟩ = (#[Value.int .i64 g.kind, vc, vs] : Array Value)[j]? := fun j hj => by
        have hj3 : j < 3 := hj
        match j, hj3 with
        | 0, _ => exact HY.out.1
        | 1, _ => exact HY.out.2.1
        | 2, _ => exact HY.out.2.2
      have HLD := Lib.hid hload
      clear hload
      cases hq : (!(soundB g))
      · have HQ := Lib.hid hq
        rw [hq] at HU
        clear hq
        go_wp2_with (first | (refine wpList_load_at rfl 32 _ rfl b (off + k * 3) rfl #[.int .i64 g.kind, vc, vs] _ HLD.out Try.underlying32 rfl info32 ?_) | (go_at_call 17; refine HU.out.mono ?_; rintro e w' ⟨rfl, hB2⟩))
        go_roundw
        case rel =>
          refine ⟨k + 1, by omega, by go_num, Below.call hB hB2, fun j hj => ?_⟩
          by_cases e : j = k
          · subst e; rw [HG.out]; exact HQ.out
          · exact HN.out j (by omega)
        case measure => simp [intOf]; omega
      · have HQ := Lib.hid hq
        rw [hq] at HU
        clear hq
        go_wp2_with (first | (refine wpList_load_at rfl 32 _ rfl b (off + k * 3) rfl #[.int .i64 g.kind, vc, vs] _ HLD.out Try.underlying32 rfl info32 ?_) | (go_at_call 17; refine HU.out.mono ?_; rintro e w' ⟨rfl, hB2⟩))
        go_ret
        exact ⟨ret_int (idxP_at (p := fun g => !(soundB g)) (d := zeroG) hlt (by rw [HG.out]; exact HQ.out) HN.out).symm, Below.call hB hB2⟩
    · go_wp2
      go_ret
      exact ⟨ret_int (idxP_none (p := fun g => !(soundB g)) (d := zeroG) fun j hj => HN.out j (by omega)).symm, hB⟩

theorem any16 (v : Value) (gs : List Grp) (w : World) (hl : RowG w.heap.size w v gs) :
    Calls Try.prog 16 #[v, .func (Fn.func 17) #[] #[]] w fun e w' => e = .returned (.bool (gs.any fun g => !(soundB g))) ∧ Below w.heap.size w w' := by
  have HI := Lib.hid (index32 v gs w hl)
  obtain ⟨a, cap, rfl, -⟩ := hl.open
  go_enter Try.func16, Try.ntmps16
  go_wp2_with (go_at_call 32; refine HI.out.mono ?_; rintro e w' ⟨rfl, hB⟩)
  go_ret
  exact ⟨ret_bool (by rw [← idxP_any]), hB⟩
end Go.Proofs.Ytbcnmkdlaoaoeaa
