/- awake: the document's examples. -/
import Derived.Test.YtbcnmkdlaoaoeaaK
namespace Go.Proofs.Ytbcnmkdlaoaoeaa
open Go.RowKit
set_option linter.unusedVariables false
set_option linter.unusedSimpArgs false

theorem RowS.of_blk {w : World} {b : Nat} {T : TypeId} {cs : Array Value} {n : Nat} {l : List ByteArray} (h : Blk w b T cs) (hl : cs.toList = l.map Value.string) (hn : n = l.length) (hm : n ≤ maxLen) : RowS w.heap.size w (.slice (some ⟨b, 0, none⟩) n n) l := by
  subst hn
  have := Row.of_blk (n := l.length) (size := 1) h (by rw [← Array.length_toList, hl]; simp) hm
  rw [hl] at this
  exact this
theorem RowG.of_blk {w : World} {b : Nat} {T : TypeId} {cs : Array Value} {n : Nat} {gs : List Grp} (h : Blk w b T cs) (hs : cs.size = n * 3) (hn : n = gs.length) (hm : n ≤ maxLen)
    (hg : ∀ j, j < n → GrpAt w.heap.size w (cs.toList.getD (j * 3) undef) (cs.toList.getD (j * 3 + 1) undef) (cs.toList.getD (j * 3 + 2) undef) (gs.getD j zeroG)) : RowG w.heap.size w (.slice (some ⟨b, 0, none⟩) n n) gs := by
  subst hn
  exact ⟨_, Row.of_blk h hs hm, hg⟩

theorem ex1 : expandL [⟨#[97]⟩, ⟨#[98]⟩, ⟨#[99]⟩] [⟨1, [⟨#[99]⟩], []⟩, ⟨2, [⟨#[97]⟩, ⟨#[98]⟩], []⟩] = ([7, 5, 4], 0) := by decide +kernel
theorem ex2 : expandL [⟨#[97]⟩] [⟨1, [⟨#[120]⟩], []⟩] = ([], 42) := by decide +kernel
theorem ex3 : ofN [0, 2] = 5 := by decide
theorem ex4 : (listL 5).length = 2 := by decide

set_option maxHeartbeats 4000000 in
set_option maxRecDepth 100000 in
theorem awake6 (w : World) : Calls Try.prog 6 #[] w fun e w' => e = .returned (.bool true) ∧ Below w.heap.size w w' := by
  obtain ⟨W, hW⟩ : ∃ W, W = (((w.alloc (Obj.cells #[.string ⟨#[97]⟩, .string ⟨#[98]⟩, .string ⟨#[99]⟩] 9)).alloc (Obj.cells #[.string ⟨#[99]⟩] 9)).alloc (Obj.cells #[.string ⟨#[97]⟩, .string ⟨#[98]⟩] 9)).alloc (Obj.cells #[.int .i64 1, .slice (some ⟨w.heap.size + 1, 0, none⟩) 1 1, .slice none 0 0, .int .i64 2, .slice (some ⟨w.heap.size + 1 + 1, 0, none⟩) 2 2, .slice none 0 0] 32) := ⟨_, rfl⟩
  have hBW : Below w.heap.size w W := by rw [hW]; exact Below.al (Below.al (Below.al (Below.al (Below.refl _ _) _) _) _) _
  have g0 : Blk W w.heap.size 9 #[.string ⟨#[97]⟩, .string ⟨#[98]⟩, .string ⟨#[99]⟩] := by rw [hW]; exact (((Blk.new _ _ _).alloc _).alloc _).alloc _
  have g1 : Blk W (w.heap.size + 1) 9 #[.string ⟨#[99]⟩] := by rw [hW]; exact ((Blk.newAt _ _ _ (by simp)).alloc _).alloc _
  have g2 : Blk W (w.heap.size + 1 + 1) 9 #[.string ⟨#[97]⟩, .string ⟨#[98]⟩] := by rw [hW]; exact (Blk.newAt _ _ _ (by simp)).alloc _
  have g3 : Blk W (w.heap.size + 1 + 1 + 1) 32 #[.int .i64 1, .slice (some ⟨w.heap.size + 1, 0, none⟩) 1 1, .slice none 0 0, .int .i64 2, .slice (some ⟨w.heap.size + 1 + 1, 0, none⟩) 2 2, .slice none 0 0] := by rw [hW]; exact Blk.newAt _ _ _ (by simp)
  have hx := expand8 (.slice (some ⟨w.heap.size, 0, none⟩) 3 3) (.slice (some ⟨w.heap.size + 1 + 1 + 1, 0, none⟩) 2 2) [⟨#[97]⟩, ⟨#[98]⟩, ⟨#[99]⟩] [⟨1, [⟨#[99]⟩], []⟩, ⟨2, [⟨#[97]⟩, ⟨#[98]⟩], []⟩] W
    (RowS.of_blk g0 rfl rfl (by decide)) (RowG.of_blk g3 rfl rfl (by decide) (fun j hj => by
      match j, hj with
      | 0, _ => exact ⟨rfl, RowS.of_blk g1 rfl rfl (by decide), RowL.nil _ _⟩
      | 1, _ => exact ⟨rfl, RowS.of_blk g2 rfl rfl (by decide), RowL.nil _ _⟩)) (by decide)
  rw [ex1] at hx
  have HX := Lib.hid hx
  have HBW := Lib.hid hBW
  clear g0 g1 g2 g3 hx hBW
  go_enter Try.func6, Try.ntmps6
  go_wp2_with fail
  rw [← hW]
  clear hW
  refine HX.out.mono ?_
  rintro e w1 ⟨v1, rfl, hr1, hB1⟩
  obtain ⟨a1, k1, hv1, hk1, hm1, hc1⟩ := hr1.open
  obtain ⟨b1, o1, ha1, hb1, hcc⟩ := hc1 (by decide)
  subst ha1
  subst hv1
  have q0 := hcc 0 (by decide)
  have q1 := hcc 1 (by decide)
  have q2 := hcc 2 (by decide)
  simp only [List.map_cons, List.map_nil, List.getD_cons_zero, List.getD_cons_succ, Nat.add_zero] at q0 q1 q2
  simp only [List.length_map, List.length_cons, List.length_nil] at hk1 ⊢
  have HQ := Lib.hid (And.intro q0 (And.intro q1 q2))
  have HB1 := Lib.hid (Below.call HBW.out hB1)
  obtain ⟨W2, hW2⟩ : ∃ W2, W2 = ((w1.alloc (Obj.cells #[.string ⟨#[97]⟩] 9)).alloc (Obj.cells #[.string ⟨#[120]⟩] 9)).alloc (Obj.cells #[.int .i64 1, .slice (some ⟨w1.heap.size + 1, 0, none⟩) 1 1, .slice none 0 0] 32) := ⟨_, rfl⟩
  have hBW : Below w1.heap.size w1 W2 := by rw [hW2]; exact Below.al (Below.al (Below.al (Below.refl _ _) _) _) _
  have g0 : Blk W2 w1.heap.size 9 #[.string ⟨#[97]⟩] := by rw [hW2]; exact ((Blk.new _ _ _).alloc _).alloc _
  have g1 : Blk W2 (w1.heap.size + 1) 9 #[.string ⟨#[120]⟩] := by rw [hW2]; exact (Blk.newAt _ _ _ (by simp)).alloc _
  have g3 : Blk W2 (w1.heap.size + 1 + 1) 32 #[.int .i64 1, .slice (some ⟨w1.heap.size + 1, 0, none⟩) 1 1, .slice none 0 0] := by rw [hW2]; exact Blk.newAt _ _ _ (by simp)
  have hx := expand8 (.slice (some ⟨w1.heap.size, 0, none⟩) 1 1) (.slice (some ⟨w1.heap.size + 1 + 1, 0, none⟩) 1 1) [⟨#[97]⟩] [⟨1, [⟨#[120]⟩], []⟩] W2
    (RowS.of_blk g0 rfl rfl (by decide)) (RowG.of_blk g3 rfl rfl (by decide) (fun j hj => by
      match j, hj with
      | 0, _ => exact ⟨rfl, RowS.of_blk g1 rfl rfl (by decide), RowL.nil _ _⟩)) (by decide)
  rw [ex2] at hx
  have HX2 := Lib.hid hx
  have HBW2 := Lib.hid hBW
  clear g0 g1 g3 hx hBW q0 q1 q2 hr1 hB1 hc1 hcc HX HBW hk1
  go_wp2_with fail
  rw [← hW2]
  clear hW2
  refine HX2.out.mono ?_
  rintro e w2 ⟨v2, rfl, hr2, hB2⟩
  obtain ⟨a2, k2, hv2, -, -, -⟩ := hr2.open
  subst hv2
  have hBx := HBW2.out.trans (hB2.mono HBW2.out.size)
  have HBx := Lib.hid hBx
  have p0 : w2.cell? ⟨b1, o1, none⟩ = some (.int .i64 7) := (hBx.cell (by exact hb1)).trans HQ.out.1
  have p1 : w2.cell? ⟨b1, o1 + 1, none⟩ = some (.int .i64 5) := (hBx.cell (by exact hb1)).trans HQ.out.2.1
  have p2 : w2.cell? ⟨b1, o1 + 2, none⟩ = some (.int .i64 4) := (hBx.cell (by exact hb1)).trans HQ.out.2.2
  have ho := of14 _ (.slice (some ⟨w2.heap.size, 0, none⟩) 2 2) [0, 2] (w2.alloc (Obj.cells #[.int .i64 0, .int .i64 2] 3)) (RowI.of_blk (l := [0, 2]) (Blk.new w2 3 _) rfl (by decide))
  rw [ex3] at ho
  have HO := Lib.hid ho
  have hl := list10 5 (w2.alloc (Obj.cells #[.int .i64 0, .int .i64 2] 3))
  have HL := Lib.hid hl
  have HBY := Lib.hid (Below.al (HB1.out.trans (hBx.mono HB1.out.size)) (Obj.cells #[.int .i64 0, .int .i64 2] 3))
  clear hBx hB2 hr2 ho hl HX2 HBW2 HQ
  go_wp2_with (first | (go_at_call 14; refine HO.out.mono ?_; rintro e w3 ⟨rfl, rfl⟩) | (go_at_call 10; refine HL.out.mono ?_; rintro e w4 ⟨vl, rfl, hown, hB4⟩; obtain ⟨al, kl, rfl⟩ := owns_form hown; have HB4 := Lib.hid hB4; rw [ex4]; clear hown hB4))
  go_ret
  exact ⟨rfl, Below.call HBY.out HB4.out⟩
end Go.Proofs.Ytbcnmkdlaoaoeaa
