/- AccumSums and AccumRules: as the rows ask them. -/
import Derived.Test.YtlhncphnhgbclaaN
namespace Go.Proofs.Ytlhncphnhgbclaa
open Go.RowKit
set_option linter.unusedVariables false

theorem sumsLaw (a b n : Int) (w : World) (ha : In128 a) (hb : In128 b) (hn : (Lit.int .i64 n).wf = true) :
    Calls Try.prog 3 #[sumV a, sumV b, .int .i64 n] w fun e w' => e = .returned (.bool true) ∧ Below w.heap.size w w' := sums3 a b n w ha hb hn
theorem rulesLaw (a b c : Int) (w : World) (ha : In128 a) (hb : In128 b) (hc : In128 c) :
    Calls Try.prog 4 #[sumV a, sumV b, sumV c] w fun e w' => e = .returned (.bool true) ∧ Below w.heap.size w w' := rules4 a b c w ha hb hc
end Go.Proofs.Ytlhncphnhgbclaa
