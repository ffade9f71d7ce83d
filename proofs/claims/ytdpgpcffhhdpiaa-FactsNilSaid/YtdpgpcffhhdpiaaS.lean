/- Of no store nothing comes: FactsNil's walk. -/
import Derived.Test.YtdpgpcffhhdpiaaR
namespace Go.Proofs.Ytdpgpcffhhdpiaa
open Go.RowKit Go.Maps
set_option linter.unusedVariables false
set_option linter.unusedSimpArgs false

set_option maxRecDepth 100000 in
set_option maxHeartbeats 32000000 in
theorem nil6 (v : Value) (a b : Int) (w : World) (ha : allInt a) (hb : allInt b) : Calls Try.prog 6 #[v, .int .i64 a, .int .i64 b] w fun e w' => e = .returned (.bool true) ∧ Below w.heap.size w w' := by
  have hZ : No (.pointer (some ⟨w.heap.size, 0, none⟩)) (w.alloc (Obj.cells #[.slice none 0 0, .int .i64 0, .slice none 0 0, .slice none 0 0] 50)) := no_zero _ _ _ _ _ (Blk.new w 50 _)
  have hB := Below.al (Below.refl w.heap.size w) (Obj.cells #[.slice none 0 0, .int .i64 0, .slice none 0 0, .slice none 0 0] 50)
  have HZ := Lib.hid (And.intro hZ hB)
  clear hZ hB ha hb
  go_enter Try.func6, Try.ntmps6
  go_upto_region 3 with fail
  generalize w.alloc (Obj.cells #[.slice none 0 0, .int .i64 0, .slice none 0 0, .slice none 0 0] 50) = w1 at *
  have H1 := Lib.hid (append10_no (no_nil w1) v)
  go_wp2_with fail
  refine H1.out.mono ?_
  rintro e w2 ⟨rfl, hB2⟩
  have HZ2 := Lib.hid (And.intro (HZ.out.1.below hB2) (Below.call HZ.out.2 hB2))
  clear H1 HZ hB2
  have H1 := Lib.hid (append10_no HZ2.out.1 v)
  go_wp2_with fail
  refine H1.out.mono ?_
  rintro e w3 ⟨rfl, hB3⟩
  have HZ3 := Lib.hid (And.intro (HZ2.out.1.below hB3) (Below.call HZ2.out.2 hB3))
  clear H1 HZ2 hB3
  have H1 := Lib.hid (awake8 w3)
  go_wp2_with fail
  refine H1.out.mono ?_
  rintro e w4 ⟨rfl, hB4⟩
  have HZ4 := Lib.hid (And.intro (HZ3.out.1.below hB4) (Below.call HZ3.out.2 hB4))
  clear H1 HZ3 hB4
  have H1 := Lib.hid (check20_no (no_nil w4) v)
  go_wp2_with fail
  refine H1.out.mono ?_
  rintro e w5 ⟨rfl, hB5⟩
  have HZ5 := Lib.hid (And.intro (HZ4.out.1.below hB5) (Below.call HZ4.out.2 hB5))
  clear H1 HZ4 hB5
  have HN := Lib.hid (no_nil w5)
  have H1 := Lib.hid (seq21_no HN.out)
  go_wp2_with fail
  refine H1.out.mono ?_
  rintro e w6 ⟨rfl, rfl⟩
  clear H1
  have H1 := Lib.hid (len16_no HN.out)
  go_wp2_with fail
  refine H1.out.mono ?_
  rintro e w6 ⟨rfl, rfl⟩
  clear H1
  have H1 := Lib.hid (scan12_no HN.out a b)
  go_wp2_with fail
  refine H1.out.mono ?_
  rintro e w6 ⟨rfl, rfl⟩
  clear H1
  have H1 := Lib.hid (size14_no HN.out a b)
  go_wp2_with fail
  refine H1.out.mono ?_
  rintro e w6 ⟨rfl, rfl⟩
  clear H1
  have H1 := Lib.hid (values18_no HN.out a)
  go_wp2_with fail
  refine H1.out.mono ?_
  rintro e w6 ⟨rfl, rfl⟩
  clear H1
  have H1 := Lib.hid (match19_no HN.out a ⟨#[]⟩ b)
  go_wp2_with fail
  refine H1.out.mono ?_
  rintro e w6 ⟨rfl, rfl⟩
  clear H1
  have H1 := Lib.hid (segs17_no HN.out)
  go_wp2_with fail
  refine H1.out.mono ?_
  rintro e w6 ⟨rfl, rfl⟩
  clear H1
  have H1 := Lib.hid (seq21_no HZ5.out.1)
  go_wp2_with fail
  refine H1.out.mono ?_
  rintro e w6 ⟨rfl, rfl⟩
  clear H1
  have H1 := Lib.hid (len16_no HZ5.out.1)
  go_wp2_with fail
  refine H1.out.mono ?_
  rintro e w6 ⟨rfl, rfl⟩
  clear H1
  have H1 := Lib.hid (scan12_no HZ5.out.1 a b)
  go_wp2_with fail
  refine H1.out.mono ?_
  rintro e w6 ⟨rfl, rfl⟩
  clear H1
  have H1 := Lib.hid (values18_no HZ5.out.1 0)
  go_wp2_with fail
  refine H1.out.mono ?_
  rintro e w6 ⟨rfl, rfl⟩
  clear H1
  have H1 := Lib.hid (match19_no HZ5.out.1 0 ⟨#[]⟩ 1)
  go_wp2_with fail
  refine H1.out.mono ?_
  rintro e w6 ⟨rfl, rfl⟩
  clear H1
  go_wp2_with fail
  go_ret
  exact ⟨rfl, HZ5.out.2⟩
theorem nilLaw (v : Value) (a b : Int) (w : World) (ha : (Lit.int .i64 a).wf = true) (hb : (Lit.int .i64 b).wf = true) :
    Calls Try.prog 6 #[v, .int .i64 a, .int .i64 b] w fun e w' => e = .returned (.bool true) ∧ Below w.heap.size w w' := nil6 v a b w (wf_bd ha) (wf_bd hb)
end Go.Proofs.Ytdpgpcffhhdpiaa
