/- NetNil: the walk. -/
import Derived.Test.YtalcmaphndfcfaaK
namespace Go.Proofs.Ytalcmaphndfcfaa
open Go.RowKit Go.Maps
set_option linter.unusedVariables false
set_option linter.unusedSimpArgs false

theorem conns17_nil (w : World) : Calls Try.prog 17 #[.pointer none] w fun e w' => e = .returned (.slice none 0 0) ∧ w = w' := by
  go_enter Try.func17, Try.ntmps17
  go_wp2_with fail
  go_ret
  exact ⟨rfl, rfl⟩

set_option maxRecDepth 100000 in
set_option maxHeartbeats 4000000 in
theorem nil6 (x s : Int) (d : ByteArray) (w : World) : Calls Try.prog 6 #[.int .i64 x, .int .i64 s, .string d] w fun e w' => e = .returned (.bool true) ∧ Below w.heap.size w w' := by
  go_enter Try.func6, Try.ntmps6
  go_wp2_with (first
    | (go_at_call 10; refine (send10_nil _ _ _ _).mono ?_; rintro e w' ⟨rfl, rfl⟩)
    | (go_at_call 11; refine (move11_nil _ _ _ _).mono ?_; rintro e w' ⟨rfl, rfl⟩)
    | (go_at_call 12; refine (take12_nil _ _ _ _).mono ?_; rintro e w' ⟨rfl, rfl⟩)
    | (go_at_call 15; refine (waits15_nil _ _ _).mono ?_; rintro e w' ⟨rfl, rfl⟩))
  refine (open9_nil _).mono ?_
  rintro e w1 ⟨rfl, rfl⟩
  obtain ⟨w1, hw1⟩ : ∃ w1, w1 = w.alloc (.cells #[.int .i64 0, .map none] 55) := ⟨_, rfl⟩
  have hN : NetAt (fun k => w.heap.size ≤ k) w1 w.heap.size 0 [] := by rw [hw1]; exact ⟨Nat.le_refl _, .map none, Blk.new _ _ _, ⟨.inl ⟨rfl, rfl⟩, by simp, by simp, List.Pairwise.nil, by simp⟩⟩
  have hT : Turn (fun k => w.heap.size ≤ k) w w1 := by rw [hw1]; exact (Turn.refl _ _).alloc _
  rw [← hw1]
  clear hw1
  go_wp2_with (first
    | (go_at_call 10; refine (send10_nil _ _ _ _).mono ?_; rintro e w' ⟨rfl, rfl⟩)
    | (go_at_call 11; refine (move11_nil _ _ _ _).mono ?_; rintro e w' ⟨rfl, rfl⟩)
    | (go_at_call 12; refine (take12_nil _ _ _ _).mono ?_; rintro e w' ⟨rfl, rfl⟩)
    | (go_at_call 15; refine (waits15_nil _ _ _).mono ?_; rintro e w' ⟨rfl, rfl⟩))
  refine (open9_ok hN (by simp) (by omega) (by simp)).mono ?_
  rintro e w2 ⟨rfl, b, hN2, hT2, hb⟩
  have hT3 := hT.trans hT2
  have HT := Lib.hid hT3
  clear hN hT hN2 hT2 hT3 hb
  go_wp2_with fail
  refine (awake7 w2).mono ?_
  rintro e w3 ⟨rfl, hB⟩
  have HB := Lib.hid hB
  clear hB
  go_wp2_with (first
    | (go_at_call 14; refine (shut14_nil _ _ _).mono ?_; rintro e w' ⟨rfl, rfl⟩)
    | (go_at_call 13; refine (cut13_nil _ _).mono ?_; rintro e w' ⟨rfl, rfl⟩)
    | (go_at_call 17; refine (conns17_nil _).mono ?_; rintro e w' ⟨rfl, rfl⟩))
  go_ret
  exact ⟨rfl, Below.call HT.out.toBelow HB.out⟩

theorem nilLaw (x s : Int) (d : ByteArray) (w : World) (hx : (Lit.int .i64 x).wf = true) (hs : (Lit.int .i64 s).wf = true) (hd : d.size ≤ 140737488351232) :
    Calls Try.prog 6 #[.int .i64 x, .int .i64 s, .string d] w fun e w' => e = .returned (.bool true) ∧ Below w.heap.size w w' := nil6 x s d w
end Go.Proofs.Ytalcmaphndfcfaa
