/- A reader that may be nil: Facts; Done of a writer that may be nil. -/
import Derived.Test.YtocanbdpdnkapaaZF
namespace Go.Proofs.Ytocanbdpdnkapaa
open Go.RowKit
set_option linter.unusedVariables false
set_option linter.unusedSimpArgs false

set_option maxHeartbeats 4000000 in
theorem sev88_nil (w : World) : Calls Try.prog 88 #[.pointer none, .int .i64 8, .func (Fn.func 63) #[.pointer none] #[]] w fun e w' => e = .returned (.slice none 0 0) ∧ KeepB none w w' := by
  have HT := Lib.hid (fun w => take75O none nilX 4 (by omega) w rfl)
  have HG := Lib.hid (fun w => good77O none nilX w rfl)
  have HN := Lib.hid (fun w => number40 emptyS w (by decide))
  rw [show deS emptyS = 0 from rfl] at HN
  rw [nilX_e] at HG
  go_enter Try.func88, Try.ntmps88
  go_wp2_with fail
  refine (HT.out w).mono ?_
  rintro e w1 ⟨rfl, -, h2⟩
  have H1 := Lib.hid h2
  clear h2
  rw [show (takeR nilX 4).1 = emptyS from rfl]
  go_wp2_with fail
  refine (HN.out w1).mono ?_
  rintro e w' ⟨rfl, rfl⟩
  go_wp2_with fail
  refine (HG.out w1).mono ?_
  rintro e w' ⟨rfl, rfl⟩
  go_wp2_with fail
  go_loopw [8, 9] (fun v i wr => v = .slice none 0 0 ∧ i = .int .i64 0 ∧ KeepB none w wr) (fun _ _ _ => 0)
  case atStart => exact ⟨rfl, rfl, H1.out⟩
  case round =>
    obtain ⟨rfl, rfl, hB⟩ := hrel
    have HB := Lib.hid hB
    have HG2 := Lib.hid (HG.out wr)
    clear hB
    go_wp2_with fail
    refine HG2.out.mono ?_
    rintro e w' ⟨rfl, rfl⟩
    go_wp2_with fail
    go_ret
    exact ⟨rfl, HB.out⟩
theorem sev88O (b : Option Nat) (x : RdS) (w : World) (hx : RdO b w x) :
    Calls Try.prog 88 #[wptr b, .int .i64 8, .func (Fn.func 63) #[wptr b] #[]] w fun e w' => ∃ v, e = .returned v ∧ RdO b w' (sevR factR 8 x).2 ∧ KeepB b w w' ∧ RowsFs w.heap.size w' v (sevR factR 8 x).1 := by
  cases b with
  | some B => exact sev88 B x w hx
  | none =>
    have hx : x = nilX := hx
    subst hx
    rw [show sevR factR 8 nilX = ([], nilX) from rfl]
    exact (sev88_nil w).mono fun e w' ⟨h1, h2⟩ => ⟨_, h1, rfl, h2, RowsFs.nil _ _⟩
theorem facts64O (b : Option Nat) (x : RdS) (w : World) (hx : RdO b w x) :
    Calls Try.prog 64 #[wptr b] w fun e w' => ∃ v, e = .returned v ∧ RdO b w' (sevR factR 8 x).2 ∧ KeepB b w w' ∧ RowsFs w.heap.size w' v (sevR factR 8 x).1 := by
  have HC := Lib.hid (sev88O b x w hx)
  clear hx
  go_enter Try.func64, Try.ntmps64
  go_wp2_with fail
  refine HC.out.mono ?_
  rintro e w1 ⟨v, rfl, h⟩
  have H := Lib.hid h
  clear h
  go_wp2_with fail
  go_ret
  exact ⟨v, rfl, H.out⟩
theorem done21_nil (w : World) : Calls Try.prog 21 #[.pointer none] w fun e w' => e = .returned (.tuple #[.string ⟨#[]⟩, .int .i64 1]) ∧ w = w' := by
  go_enter Try.func21, Try.ntmps21
  go_wp2_with fail
  go_ret2
  exact ⟨rfl, rfl⟩
end Go.Proofs.Ytocanbdpdnkapaa

