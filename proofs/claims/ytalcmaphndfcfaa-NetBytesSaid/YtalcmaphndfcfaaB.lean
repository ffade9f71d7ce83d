/- The queues. -/
import Derived.Test.YtalcmaphndfcfaaRows
import Derived.Test.YtalcmaphndfcfaaA
namespace Go.Proofs.Ytalcmaphndfcfaa
open Go.RowKit Go.Maps
set_option linter.unusedVariables false
set_option linter.unusedSimpArgs false

theorem size19 {w : World} {b o : Nat} {x : ByteArray} (h : w.cell? ⟨b, o, none⟩ = some (.string x)) :
    Calls Try.prog 19 #[.pointer (some ⟨b, o, none⟩)] w fun e w' => e = .returned (.int .i64 (x.size : Nat)) ∧ w = w' := by
  go_enter Try.func19, Try.ntmps19
  go_wp2_with fail
  go_ret
  exact ⟨rfl, rfl⟩

theorem put20 {w : World} {b o : Nat} {x s : ByteArray} (h : w.cell? ⟨b, o, none⟩ = some (.string x)) (hf : w.frozen? ⟨b, o, none⟩ = false) (hs : x.size + s.size ≤ 9223372036854775807) :
    Calls Try.prog 20 #[.pointer (some ⟨b, o, none⟩), .string s] w fun e w' => e = .returned (.tuple #[]) ∧ w' = w.setCell ⟨b, o, none⟩ (.string (x ++ s)) := by
  have hadd := fun w : World => run_string_add_sum (P := Try.prog) w x s hs
  go_enter Try.func20, Try.ntmps20
  go_wp2_with fail
  (first | go_end0 | refine bodyPost_ret (results_none rfl _ _ _) rfl ?_)
  trivial

/-- how many are taken -/
def tookN (many : Int) (n : Nat) : Nat := min many.toNat n

theorem take21 {w : World} {b o : Nat} {x : ByteArray} {many : Int} (h : w.cell? ⟨b, o, none⟩ = some (.string x)) (hf : w.frozen? ⟨b, o, none⟩ = false) :
    Calls Try.prog 21 #[.pointer (some ⟨b, o, none⟩), .int .i64 many] w fun e w' => e = .returned (.string (x.extract 0 (tookN many x.size))) ∧ w' = w.setCell ⟨b, o, none⟩ (.string (x.extract (tookN many x.size) x.size)) := by
  go_enter Try.func21, Try.ntmps21
  go_wp2_with fail
  all_goals go_ret
  · have e : tookN many x.size = x.size := by unfold tookN; rename_i h2; split at h2 <;> omega
    rw [e, ByteArray.extract_zero_size, ByteArray.extract_same]
    exact ⟨rfl, rfl⟩
  · have e : tookN many x.size = 0 := by unfold tookN; omega
    rw [e, ByteArray.extract_zero_size, ByteArray.extract_same]
    exact ⟨rfl, rfl⟩
  · have e : tookN many x.size = many.toNat := by unfold tookN; rename_i h2; split at h2 <;> omega
    rw [e]
    exact ⟨rfl, rfl⟩

end Go.Proofs.Ytalcmaphndfcfaa
