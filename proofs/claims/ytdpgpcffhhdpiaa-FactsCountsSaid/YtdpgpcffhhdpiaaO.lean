/- No store: nil, or one of no measures. -/
import Derived.Test.YtdpgpcffhhdpiaaN
namespace Go.Proofs.Ytdpgpcffhhdpiaa
open Go.RowKit Go.Maps
set_option linter.unusedVariables false
set_option linter.unusedSimpArgs false

/-- no store is there -/
def No (v : Value) (w : World) : Prop := ∀ w', Below w.heap.size w w' → Calls Try.prog 25 #[v] w' fun e w'' => e = .returned (.bool false) ∧ w' = w''
theorem No.below {v : Value} {w w' : World} (h : No v w) (hB : Below w.heap.size w w') : No v w' := fun w'' h2 => h w'' (Below.call hB h2)
theorem no_nil (w : World) : No (.pointer none) w := fun w' hB => by
  clear hB
  go_enter Try.func25, Try.ntmps25
  go_wp2_with fail
  go_ret
  exact ⟨rfl, rfl⟩
theorem no_zero (w : World) (B : Nat) (x y z : Value) (h : Blk w B 50 #[x, .int .i64 0, y, z]) : No (.pointer (some ⟨B, 0, none⟩)) w := fun w' hB => by
  have c1 : w'.cell? ⟨B, 1, none⟩ = some (.int .i64 0) := (Below.cell hB (p := ⟨B, 1, none⟩) h.lt).trans (Blk.cell h 1)
  clear hB h
  go_enter Try.func25, Try.ntmps25
  go_wp2_with fail
  go_ret
  exact ⟨rfl, rfl⟩
section
variable {v : Value} {w : World}
theorem seq21_no (h : No v w) : Calls Try.prog 21 #[v] w fun e w' => e = .returned (.int .i64 0) ∧ w = w' := by
  have HT := Lib.hid (h w (Below.refl _ _))
  clear h
  go_enter Try.func21, Try.ntmps21
  go_wp2_with fail
  refine HT.out.mono ?_
  rintro e w1 ⟨rfl, rfl⟩
  go_wp2_with fail
  go_ret
  exact ⟨rfl, rfl⟩
theorem len16_no (h : No v w) : Calls Try.prog 16 #[v] w fun e w' => e = .returned (.int .i64 0) ∧ w = w' := by
  have HT := Lib.hid (h w (Below.refl _ _))
  clear h
  go_enter Try.func16, Try.ntmps16
  go_wp2_with fail
  refine HT.out.mono ?_
  rintro e w1 ⟨rfl, rfl⟩
  go_wp2_with fail
  go_ret
  exact ⟨rfl, rfl⟩
theorem scan12_no (h : No v w) (a b : Int) : Calls Try.prog 12 #[v, .int .i64 a, .int .i64 b] w fun e w' => e = .returned (.slice none 0 0) ∧ w = w' := by
  have HT := Lib.hid (h w (Below.refl _ _))
  clear h
  go_enter Try.func12, Try.ntmps12
  go_wp2_with fail
  refine HT.out.mono ?_
  rintro e w1 ⟨rfl, rfl⟩
  go_wp2_with fail
  go_ret
  exact ⟨rfl, rfl⟩
theorem size14_no (h : No v w) (a b : Int) : Calls Try.prog 14 #[v, .int .i64 a, .int .i64 b] w fun e w' => e = .returned (.int .i64 0) ∧ w = w' := by
  have HT := Lib.hid (h w (Below.refl _ _))
  clear h
  go_enter Try.func14, Try.ntmps14
  go_wp2_with fail
  refine HT.out.mono ?_
  rintro e w1 ⟨rfl, rfl⟩
  go_wp2_with fail
  go_ret
  exact ⟨rfl, rfl⟩
theorem segs17_no (h : No v w) : Calls Try.prog 17 #[v] w fun e w' => e = .returned (.int .i64 0) ∧ w = w' := by
  have HT := Lib.hid (len16_no h)
  clear h
  go_enter Try.func17, Try.ntmps17
  go_wp2_with fail
  refine HT.out.mono ?_
  rintro e w1 ⟨rfl, rfl⟩
  go_wp2_with fail
  go_ret
  exact ⟨rfl, rfl⟩
theorem dim28_no (h : No v w) (i : Int) : Calls Try.prog 28 #[v, .int .i64 i] w fun e w' => e = .returned (.pointer none) ∧ w = w' := by
  have HT := Lib.hid (h w (Below.refl _ _))
  clear h
  go_enter Try.func28, Try.ntmps28
  go_wp2_with fail
  refine HT.out.mono ?_
  rintro e w1 ⟨rfl, rfl⟩
  go_wp2_with fail
  go_ret
  exact ⟨rfl, rfl⟩
theorem values18_no (h : No v w) (i : Int) : Calls Try.prog 18 #[v, .int .i64 i] w fun e w' => e = .returned (.int .i64 0) ∧ w = w' := by
  have HD := Lib.hid (dim28_no h i)
  have HL := Lib.hid (len29_nil w)
  clear h
  go_enter Try.func18, Try.ntmps18
  go_wp2_with fail
  refine HD.out.mono ?_
  rintro e w1 ⟨rfl, rfl⟩
  go_wp2_with fail
  refine HL.out.mono ?_
  rintro e w2 ⟨rfl, rfl⟩
  go_wp2_with fail
  go_ret
  exact ⟨rfl, rfl⟩
theorem match19_no (h : No v w) (i : Int) (s : ByteArray) (b : Int) : Calls Try.prog 19 #[v, .int .i64 i, .string s, .int .i64 b] w fun e w' => e = .returned (.int .i64 0) ∧ w = w' := by
  have HD := Lib.hid (dim28_no h i)
  have HL := Lib.hid (find30_nil s w)
  clear h
  go_enter Try.func19, Try.ntmps19
  go_wp2_with fail
  refine HD.out.mono ?_
  rintro e w1 ⟨rfl, rfl⟩
  go_wp2_with fail
  refine HL.out.mono ?_
  rintro e w2 ⟨rfl, rfl⟩
  go_wp2_with fail
  go_ret
  exact ⟨rfl, rfl⟩
theorem check20_no {p : Option Addr} (h : No (.pointer p) w) (l : Value) : Calls Try.prog 20 #[.pointer p, l] w fun e w' => e = .returned (.int .i64 1) ∧ Below w.heap.size w w' := by
  have hBl := Below.al (Below.refl w.heap.size w) (Obj.cells #[.pointer p] 24)
  have hb := Blk.new w 24 #[.pointer p]
  obtain ⟨w1, hw1⟩ : ∃ w1, w1 = w.alloc (Obj.cells #[.pointer p] 24) := ⟨_, rfl⟩
  rw [← hw1] at hBl hb
  have HT := Lib.hid (h w1 hBl)
  have c0 : w1.cell? ⟨w.heap.size, 0, none⟩ = some (.pointer p) := Blk.cell hb 0
  have HB := Lib.hid hBl
  clear h hBl hb
  go_enter Try.func20, Try.ntmps20
  go_upto_region 1 with fail
  rw [← hw1]
  clear hw1
  go_wp2_with fail
  refine HT.out.mono ?_
  rintro e w' ⟨rfl, rfl⟩
  go_wp2_with fail
  go_ret
  exact ⟨rfl, HB.out⟩
theorem append10_no {p : Option Addr} (h : No (.pointer p) w) (l : Value) : Calls Try.prog 10 #[.pointer p, l] w fun e w' => e = .returned (.tuple #[.int .i64 0, .int .i64 1]) ∧ Below w.heap.size w w' := by
  have HC := Lib.hid (check20_no h l)
  clear h
  go_enter Try.func10, Try.ntmps10
  go_wp2_with fail
  refine HC.out.mono ?_
  rintro e w1 ⟨rfl, hB⟩
  have HB := Lib.hid hB
  clear hB
  go_wp2_with fail
  go_ret2
  exact ⟨rfl, HB.out⟩
end
end Go.Proofs.Ytdpgpcffhhdpiaa
