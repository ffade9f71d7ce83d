/- A task; what waits. -/
import Derived.Test.YtkndcofmhfeaoaaA
namespace Go.Proofs.Ytkndcofmhfeaoaa
open Go.RowKit Go.Maps
set_option linter.unusedVariables false
set_option linter.unusedSimpArgs false
/-- a task: how often it was picked, the lock it waits for (its block), the latch it waits for -/
structure TaskT where
  picks : Int
  lock : Option Nat
  latch : Int
def taskC (t : TaskT) : Array Value := #[.int .i64 t.picks, pv t.lock, .int .i64 t.latch]
def waitsB (t : TaskT) : Bool := t.lock.isSome || decide (0 ≤ t.latch)
theorem waits31 (b : Nat) (t : TaskT) (w : World) (hb : Blk w b 66 (taskC t)) : Calls Try.prog 31 #[.pointer (some ⟨b, 0, none⟩)] w fun e w' => e = .returned (.bool (waitsB t)) ∧ w = w' := by
  have c1 := Blk.cell hb 1
  have c2 := Blk.cell hb 2
  obtain ⟨p, lk, la⟩ := t
  unfold taskC waitsB at *
  clear hb
  cases lk with
  | some x =>
    unfold pv at *
    go_enter Try.func31, Try.ntmps31
    go_wp2_with fail
    go_ret
    exact ⟨by simp, rfl⟩
  | none =>
    unfold pv at *
    go_enter Try.func31, Try.ntmps31
    go_wp2_with fail
    go_ret
    exact ⟨by simp, rfl⟩
end Go.Proofs.Ytkndcofmhfeaoaa
