/- SchedNil. -/
import Derived.Test.YtkndcofmhfeaoaaS
namespace Go.Proofs.Ytkndcofmhfeaoaa
open Go.RowKit Go.Maps
set_option linter.unusedVariables false
set_option linter.unusedSimpArgs false
def z4 : SchedP := ⟨1, [(1, ⟨0, none, -1⟩)], [(3, ⟨1, []⟩)], []⟩
set_option maxRecDepth 100000 in
set_option maxHeartbeats 8000000 in
theorem nilLaw (a b : Int) (w : World) (ha : (Lit.int .i64 a).wf = true) (hb : (Lit.int .i64 b).wf = true) : Calls Try.prog 8 #[.int .i64 a, .int .i64 b] w fun e w' => e = .returned (.bool true) ∧ Below w.heap.size w w' := by
  have HW : Hid ((Lit.int .i64 a).wf = true ∧ (Lit.int .i64 b).wf = true) := Lib.hid ⟨ha, hb⟩
  clear ha hb
  have HQ0 := Lib.hid (Own.new w)
  go_enter Try.func8, Try.ntmps8
  go_wp2_with fail
  obtain ⟨w0, hw0⟩ : ∃ w0, w0 = w.alloc (Obj.cells #[.int .i64 0, .map none, .map none, .map none] 57) := ⟨_, rfl⟩
  obtain ⟨S, hS⟩ : ∃ S, S = w.heap.size := ⟨_, rfl⟩
  rw [← hw0, ← hS] at HQ0
  rw [← hw0, ← hS]
  clear hw0 hS
  have HC := Lib.hid (show Calls Try.prog 11 #[.pointer none] w0 (fun e w2 => e = .returned (.tuple #[.int .i64 0, .int .i64 1]) ∧ w0 = w2) from start11_nil _)
  refine HC.out.mono ?_
  rintro e wz ⟨rfl, rfl⟩
  clear HC
  go_wp2_with fail
  have HC := Lib.hid (show Calls Try.prog 12 #[.pointer none, .int .i64 a, .int .i64 b] w0 (fun e w2 => e = .returned (.tuple #[.bool false, .int .i64 1]) ∧ w0 = w2) from lock12_nil a b _)
  refine HC.out.mono ?_
  rintro e wz ⟨rfl, rfl⟩
  clear HC
  go_wp2_with fail
  have HC := Lib.hid (show Calls Try.prog 25 #[.pointer none, .int .i64 a, .int .i64 b] w0 (fun e w2 => e = .returned (.tuple #[.bool false, .int .i64 1]) ∧ w0 = w2) from await25_nil a b _)
  refine HC.out.mono ?_
  rintro e wz ⟨rfl, rfl⟩
  clear HC
  go_wp2_with fail
  have HC := Lib.hid (show Calls Try.prog 17 #[.pointer none, .int .i64 a] w0 (fun e w2 => e = .returned (.tuple #[.int .i64 0, .bool false]) ∧ w0 = w2) from pick17_nil a _)
  refine HC.out.mono ?_
  rintro e wz ⟨rfl, rfl⟩
  clear HC
  go_wp2_with fail
  have HC := Lib.hid (show Calls Try.prog 11 #[(.pointer (some ⟨S, 0, none⟩))] w0 (fun e w2 => e = .returned (.tuple #[.int .i64 1, .int .i64 0]) ∧ Own w S w2 b1) from HQ0.out.start (by decide))
  refine HC.out.mono ?_
  rintro e w1 ⟨rfl, hq⟩
  have HQ1 := Lib.hid hq
  clear hq HC
  go_wp2_with fail
  have HC := Lib.hid (show Calls Try.prog 12 #[(.pointer (some ⟨S, 0, none⟩)), .int .i64 (1), .int .i64 (3)] w1 (fun e w2 => e = .returned (.tuple #[.bool true, .int .i64 0]) ∧ Own w S w2 z4) from HQ1.out.lock (by decide) (by decide) (by omega) (by decide))
  refine HC.out.mono ?_
  rintro e w2 ⟨rfl, hq⟩
  have HQ2 := Lib.hid hq
  clear hq HC
  go_wp2_with fail
  have HC := Lib.hid (awake9 w2)
  refine HC.out.mono ?_
  rintro e w3 ⟨rfl, hq⟩
  have HQ3 := Lib.hid (HQ2.out.below hq)
  clear hq HC
  go_wp2_with fail
  have HC := Lib.hid (show Calls Try.prog 18 #[.pointer none, .int .i64 a] w3 (fun e w2 => e = .returned (.int .i64 1) ∧ w3 = w2) from end18_nil a _)
  refine HC.out.mono ?_
  rintro e wz ⟨rfl, rfl⟩
  clear HC
  go_wp2_with fail
  have HC := Lib.hid (show Calls Try.prog 15 #[.pointer none, .int .i64 a, .int .i64 b] w3 (fun e w2 => e = .returned (.int .i64 1) ∧ w3 = w2) from unlock15_nil a b _)
  refine HC.out.mono ?_
  rintro e wz ⟨rfl, rfl⟩
  clear HC
  go_wp2_with fail
  have HC := Lib.hid (show Calls Try.prog 26 #[.pointer none, .int .i64 b] w3 (fun e w2 => e = .returned (.int .i64 0) ∧ Below w3.heap.size w3 w2) from open26_nil b _)
  refine HC.out.mono ?_
  rintro e w4 ⟨rfl, hq⟩
  have HQ4 := Lib.hid (HQ3.out.below hq)
  clear hq HC
  go_wp2_with fail
  have HC := Lib.hid (show Calls Try.prog 13 #[.pointer none, .int .i64 b] w4 (fun e w2 => e = .returned (.int .i64 0) ∧ w4 = w2) from holder13_nil b _)
  refine HC.out.mono ?_
  rintro e wz ⟨rfl, rfl⟩
  clear HC
  go_wp2_with fail
  have HC := Lib.hid (show Calls Try.prog 19 #[.pointer none, .int .i64 a] w4 (fun e w2 => e = .returned (.int .i64 0) ∧ w4 = w2) from picks19_nil a _)
  refine HC.out.mono ?_
  rintro e wz ⟨rfl, rfl⟩
  clear HC
  go_wp2_with fail
  have HC := Lib.hid (show Calls Try.prog 14 #[.pointer none] w4 (fun e w2 => e = .returned (.slice none 0 0) ∧ w4 = w2) from ready14_nil _)
  refine HC.out.mono ?_
  rintro e wz ⟨rfl, rfl⟩
  clear HC
  go_wp2_with fail
  have HC := Lib.hid (show Calls Try.prog 16 #[.pointer none] w4 (fun e w2 => e = .returned (.bool false) ∧ w4 = w2) from stuck16_nil _)
  refine HC.out.mono ?_
  rintro e wz ⟨rfl, rfl⟩
  clear HC
  go_wp2_with fail
  go_ret
  obtain ⟨G, -, -, hB⟩ := HQ4.out
  exact ⟨rfl, hB⟩
end Go.Proofs.Ytkndcofmhfeaoaa
