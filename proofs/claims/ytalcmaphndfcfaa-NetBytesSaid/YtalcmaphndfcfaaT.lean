/- NetBytes: as the row asks it. -/
import Derived.Test.YtalcmaphndfcfaaS
import Derived.Test.YtalcmaphndfcfaaP
namespace Go.Proofs.Ytalcmaphndfcfaa
open Go.RowKit
theorem bytesLaw (v : Value) (w : World) (l : List Op5) (hr : Row w.heap.size w v l.length 5 (opsC l)) (hx : ∀ o ∈ l, okOp o) (hl : l.length * 48 ≤ 140737488351232) :
    Calls Try.prog 4 #[v] w fun e w' => e = .returned (.bool true) ∧ Below w.heap.size w w' :=
  bytes4 v l w hr (Nat.le_trans hl (by decide)) (fun o ho => by have := (hx o ho).2.2.2.2; simpa [maxLen] using this)
end Go.Proofs.Ytalcmaphndfcfaa
