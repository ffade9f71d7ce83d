/- A store of facts: a fact made, New refused, awake. -/
import Derived.Test.YtdpgpcffhhdpiaaP
namespace Go.Proofs.Ytdpgpcffhhdpiaa
open Go.RowKit Go.Maps
set_option linter.unusedVariables false
set_option linter.unusedSimpArgs false

theorem new9_bad (w : World) : Calls Try.prog 9 #[.int .i64 0, .int .i64 1] w fun e w' => e = .returned (.tuple #[.pointer none, .int .i64 1]) ∧ w = w' := by
  go_enter Try.func9, Try.ntmps9
  go_wp2_with fail
  go_ret2
  exact ⟨rfl, rfl⟩
set_option maxRecDepth 100000 in
theorem fact22 (a b : ByteArray) (n : Int) (w : World) : Calls Try.prog 22 #[.string a, .string b, .int .i64 n] w fun e w' => ∃ vd vm, e = .returned (.agg #[vd, vm]) ∧ Below w.heap.size w w' ∧ w'.ownsRow w.heap.size 9 1 vd 2 ([a, b].map .string) ∧ w'.ownsRow w.heap.size 2 1 vm 1 ([n].map (.int .i64)) := by
  have hb0 := ((Blk.new w 41 #[.slice none 0 0, .slice none 0 0]).alloc (Obj.cells #[.string a, .string b] 9)).alloc (Obj.cells #[.int .i64 n] 2)
  have hb1 := (Blk.newAt (w.alloc (Obj.cells #[.slice none 0 0, .slice none 0 0] 41)) 9 #[.string a, .string b] (b := w.heap.size + 1) (by simp)).alloc (Obj.cells #[.int .i64 n] 2)
  have hb2 := Blk.newAt ((w.alloc (Obj.cells #[.slice none 0 0, .slice none 0 0] 41)).alloc (Obj.cells #[.string a, .string b] 9)) 2 #[.int .i64 n] (b := w.heap.size + 2) (by simp)
  have hB := Below.al (Below.al (Below.al (Below.refl w.heap.size w) (Obj.cells #[.slice none 0 0, .slice none 0 0] 41)) (Obj.cells #[.string a, .string b] 9)) (Obj.cells #[.int .i64 n] 2)
  have HA := Lib.hid (And.intro hb0 (And.intro hb1 (And.intro hb2 hB)))
  clear hb0 hb1 hb2 hB
  go_enter Try.func22, Try.ntmps22
  go_wp2_with (refine wpList_store_row rfl 41 _ _ rfl w.heap.size #[.slice (some ⟨w.heap.size + 1, 0, none⟩) 2 2, .slice (some ⟨w.heap.size + 2, 0, none⟩) 1 1] rfl rfl 41 _ HA.out.1 info41 rfl (by simp [Value.oneCell']) ?_)
  have hZ2 := Blk.setRow (cs' := #[.slice (some ⟨w.heap.size + 1, 0, none⟩) 2 2, .slice (some ⟨w.heap.size + 2, 0, none⟩) 1 1]) HA.out.1
  have hB2 := Below.setRow HA.out.2.2.2 (Nat.le_refl _) #[.slice (some ⟨w.heap.size + 1, 0, none⟩) 2 2, .slice (some ⟨w.heap.size + 2, 0, none⟩) 1 1]
  have hD2 := Blk.otherRow (cs' := #[.slice (some ⟨w.heap.size + 1, 0, none⟩) 2 2, .slice (some ⟨w.heap.size + 2, 0, none⟩) 1 1]) HA.out.2.1 (show w.heap.size + 1 ≠ w.heap.size by omega)
  have hM2 := Blk.otherRow (cs' := #[.slice (some ⟨w.heap.size + 1, 0, none⟩) 2 2, .slice (some ⟨w.heap.size + 2, 0, none⟩) 1 1]) HA.out.2.2.1 (show w.heap.size + 2 ≠ w.heap.size by omega)
  refine bodyPost_ret (results_cell_row rfl _ _ w.heap.size 41 #[.slice (some ⟨w.heap.size + 1, 0, none⟩) 2 2, .slice (some ⟨w.heap.size + 2, 0, none⟩) 1 1] (0, 0) _ rfl hZ2 Try.underlying41 rfl info41) rfl ?_
  exact ⟨_, _, rfl, hB2, owns_full hD2 rfl (by decide) (by omega), owns_full hM2 rfl (by decide) (by omega)⟩
end Go.Proofs.Ytdpgpcffhhdpiaa
