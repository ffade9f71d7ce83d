/-
  No cell of these rows narrows 'for every input' (looked for: loops, veiled, ifaces, maps, wideKeys, modest, calm, conditions, laid).
  DERIVED. THE GIVEN ROWS OF THIS SEAT. 7 by the template 'for every input the law returns true; each argument reads behind the call as it read before'; 0 by the template 'total and deterministic' (their statements: YtlhncphnhgbclaaTotals.lean).
  GIVEN WITH THE SEED: the statements are not yours to turn. If you find one false, say at which input.
  Laid BY PROGRAM, IN A SANDBOX (cutbox-rows.mjs): the forced cells as the released guide's own fill.sh prints them over the translation e05b9221e1da28df… (all of the seat's roots in one cut). By AI agents, Wed Nov 11 2026. No macro, syntax, notation, axiom, sorry.
-/
import Derived.Test.YtlhncphnhgbclaaChecked
import GoSem.Claim
import GoSem.ClaimJoined
import GoSem.ClaimMapViews
import Derived.JoinedTies
import Derived.KernelRfl
namespace Go.Proofs.Ytlhncphnhgbclaa
/- THE CELL 'sum', in the pinned program and in every row, IS THE sha256 OF THE DUMP (.gsa) THAT YtlhncphnhgbclaaProg.lean LOADS. Nothing in Lean hashes anything: it is a label: what it is worth is what the hold of that sum in a sandbox is worth. -/
noncomputable def Try.pinned : Pinned := { name := "ytlhncphnhgbclaa", sum := "e05b9221e1da28dfe7680e54f56f2ee5d7780d76280aa145c4b9112d38ed9a79", checked := Try.checked }
namespace Rows
def none {H : Type} : Left H := { results := [], args := [] }

/-- 'caissonlaw13.AccumSums': WHATEVER THE INPUT: true; the input reads as it did. -/
def accumSumsSpec : ChangeSpec := { name := "accumSums", fn := fun _ => fun
  | [d1, d2, d3] => { results := [.lit (.bool true)], args := [d1, d2, d3] }
  | _ => none }
def accumSumsRow : OpenClaim := { program := "ytlhncphnhgbclaa", sum := "e05b9221e1da28dfe7680e54f56f2ee5d7780d76280aa145c4b9112d38ed9a79", func := "caisson/caissonlaw13.AccumSums", spec := "accumSums", inPlace := ["math/bits.Add64", "math/bits.Sub64"], unfollowed := true, recurses := true, named := ["math/bits.divideError", "math/bits.overflowError"], apart := false }
def AccumSumsSaid : Prop := accumSumsRow.holds Try.pinned (OpenSpec.ofChange accumSumsSpec)

/-- ITS FALSE NEIGHBOUR: 'it returns false'. Refute it at one input. -/
def accumSumsWrong : ChangeSpec := { name := "accumSums", fn := fun _ => fun
  | [d1, d2, d3] => { results := [.lit (.bool false)], args := [d1, d2, d3] }
  | _ => none }
def AccumSumsWrongFalsely : Prop := accumSumsRow.holds Try.pinned (OpenSpec.ofChange accumSumsWrong)

/-- 'caissonlaw13.AccumRules': WHATEVER THE INPUT: true; the input reads as it did. -/
def accumRulesSpec : ChangeSpec := { name := "accumRules", fn := fun _ => fun
  | [d1, d2, d3] => { results := [.lit (.bool true)], args := [d1, d2, d3] }
  | _ => none }
def accumRulesRow : OpenClaim := { program := "ytlhncphnhgbclaa", sum := "e05b9221e1da28dfe7680e54f56f2ee5d7780d76280aa145c4b9112d38ed9a79", func := "caisson/caissonlaw13.AccumRules", spec := "accumRules", inPlace := ["math/bits.Add64", "math/bits.Sub64"], unfollowed := true, recurses := true, named := ["math/bits.divideError", "math/bits.overflowError"], apart := false }
def AccumRulesSaid : Prop := accumRulesRow.holds Try.pinned (OpenSpec.ofChange accumRulesSpec)

/-- ITS FALSE NEIGHBOUR: 'it returns false'. Refute it at one input. -/
def accumRulesWrong : ChangeSpec := { name := "accumRules", fn := fun _ => fun
  | [d1, d2, d3] => { results := [.lit (.bool false)], args := [d1, d2, d3] }
  | _ => none }
def AccumRulesWrongFalsely : Prop := accumRulesRow.holds Try.pinned (OpenSpec.ofChange accumRulesWrong)

/-- 'caissonlaw13.AccumTells': WHATEVER THE INPUT: true; the input reads as it did. -/
def accumTellsSpec : ChangeSpec := { name := "accumTells", fn := fun _ => fun
  | [d] => { results := [.lit (.bool true)], args := [d] }
  | _ => none }
def accumTellsRow : OpenClaim := { program := "ytlhncphnhgbclaa", sum := "e05b9221e1da28dfe7680e54f56f2ee5d7780d76280aa145c4b9112d38ed9a79", func := "caisson/caissonlaw13.AccumTells", spec := "accumTells", inPlace := ["math/bits.Add64", "math/bits.Sub64"], unfollowed := true, recurses := true, named := ["math/bits.divideError", "math/bits.overflowError"], apart := false }
def AccumTellsSaid : Prop := accumTellsRow.holds Try.pinned (OpenSpec.ofChange accumTellsSpec)

/-- ITS FALSE NEIGHBOUR: 'it returns false'. Refute it at one input. -/
def accumTellsWrong : ChangeSpec := { name := "accumTells", fn := fun _ => fun
  | [d] => { results := [.lit (.bool false)], args := [d] }
  | _ => none }
def AccumTellsWrongFalsely : Prop := accumTellsRow.holds Try.pinned (OpenSpec.ofChange accumTellsWrong)

/-- 'caissonlaw13.AccumAsked': WHATEVER THE INPUT: true; the input reads as it did. -/
def accumAskedSpec : ChangeSpec := { name := "accumAsked", fn := fun _ => fun
  | [d1, d2, d3] => { results := [.lit (.bool true)], args := [d1, d2, d3] }
  | _ => none }
def accumAskedRow : OpenClaim := { program := "ytlhncphnhgbclaa", sum := "e05b9221e1da28dfe7680e54f56f2ee5d7780d76280aa145c4b9112d38ed9a79", func := "caisson/caissonlaw13.AccumAsked", spec := "accumAsked", inPlace := ["math/bits.Add64", "math/bits.Sub64"], unfollowed := true, recurses := true, named := ["math/bits.divideError", "math/bits.overflowError"], apart := false }
def AccumAskedSaid : Prop := accumAskedRow.holds Try.pinned (OpenSpec.ofChange accumAskedSpec)

/-- ITS FALSE NEIGHBOUR: 'it returns false'. Refute it at one input. -/
def accumAskedWrong : ChangeSpec := { name := "accumAsked", fn := fun _ => fun
  | [d1, d2, d3] => { results := [.lit (.bool false)], args := [d1, d2, d3] }
  | _ => none }
def AccumAskedWrongFalsely : Prop := accumAskedRow.holds Try.pinned (OpenSpec.ofChange accumAskedWrong)

/-- 'caissonlaw13.AccumOrder': WHATEVER THE INPUT: true; the input reads as it did. -/
def accumOrderSpec : ChangeSpec := { name := "accumOrder", fn := fun _ => fun
  | [d1, d2] => { results := [.lit (.bool true)], args := [d1, d2] }
  | _ => none }
def accumOrderRow : OpenClaim := { program := "ytlhncphnhgbclaa", sum := "e05b9221e1da28dfe7680e54f56f2ee5d7780d76280aa145c4b9112d38ed9a79", func := "caisson/caissonlaw13.AccumOrder", spec := "accumOrder", inPlace := ["math/bits.Add64", "math/bits.Sub64"], unfollowed := true, recurses := true, named := ["math/bits.divideError", "math/bits.overflowError"], apart := false }
def AccumOrderSaid : Prop := accumOrderRow.holds Try.pinned (OpenSpec.ofChange accumOrderSpec)

/-- ITS FALSE NEIGHBOUR: 'it returns false'. Refute it at one input. -/
def accumOrderWrong : ChangeSpec := { name := "accumOrder", fn := fun _ => fun
  | [d1, d2] => { results := [.lit (.bool false)], args := [d1, d2] }
  | _ => none }
def AccumOrderWrongFalsely : Prop := accumOrderRow.holds Try.pinned (OpenSpec.ofChange accumOrderWrong)

/-- 'caissonlaw13.AccumTakes': WHATEVER THE INPUT: true; the input reads as it did. -/
def accumTakesSpec : ChangeSpec := { name := "accumTakes", fn := fun _ => fun
  | [d1, d2, d3] => { results := [.lit (.bool true)], args := [d1, d2, d3] }
  | _ => none }
def accumTakesRow : OpenClaim := { program := "ytlhncphnhgbclaa", sum := "e05b9221e1da28dfe7680e54f56f2ee5d7780d76280aa145c4b9112d38ed9a79", func := "caisson/caissonlaw13.AccumTakes", spec := "accumTakes", inPlace := ["math/bits.Add64", "math/bits.Sub64"], unfollowed := true, recurses := true, named := ["math/bits.divideError", "math/bits.overflowError"], apart := false }
def AccumTakesSaid : Prop := accumTakesRow.holds Try.pinned (OpenSpec.ofChange accumTakesSpec)

/-- ITS FALSE NEIGHBOUR: 'it returns false'. Refute it at one input. -/
def accumTakesWrong : ChangeSpec := { name := "accumTakes", fn := fun _ => fun
  | [d1, d2, d3] => { results := [.lit (.bool false)], args := [d1, d2, d3] }
  | _ => none }
def AccumTakesWrongFalsely : Prop := accumTakesRow.holds Try.pinned (OpenSpec.ofChange accumTakesWrong)

/-- 'caissonlaw13.AccumParts': WHATEVER THE INPUT: true; the input reads as it did. -/
def accumPartsSpec : ChangeSpec := { name := "accumParts", fn := fun _ => fun
  | [d1, d2] => { results := [.lit (.bool true)], args := [d1, d2] }
  | _ => none }
def accumPartsRow : OpenClaim := { program := "ytlhncphnhgbclaa", sum := "e05b9221e1da28dfe7680e54f56f2ee5d7780d76280aa145c4b9112d38ed9a79", func := "caisson/caissonlaw13.AccumParts", spec := "accumParts", inPlace := ["math/bits.Add64", "math/bits.Sub64"], unfollowed := true, recurses := true, named := ["math/bits.divideError", "math/bits.overflowError"], apart := false }
def AccumPartsSaid : Prop := accumPartsRow.holds Try.pinned (OpenSpec.ofChange accumPartsSpec)

/-- ITS FALSE NEIGHBOUR: 'it returns false'. Refute it at one input. -/
def accumPartsWrong : ChangeSpec := { name := "accumParts", fn := fun _ => fun
  | [d1, d2] => { results := [.lit (.bool false)], args := [d1, d2] }
  | _ => none }
def AccumPartsWrongFalsely : Prop := accumPartsRow.holds Try.pinned (OpenSpec.ofChange accumPartsWrong)

/- THE SECOND FORM. 'bulk': how many values and letters a reading holds, each counted each time it is reached (what is shared counts as often as it is met; a slice's spare places count too). A statement '..UptoSaid' is the law's where the arguments, and the package variables that the reading takes, are together of bulk at most 1048576: NARROWER than '..Said'. Prove '..Said' where nothing that the law and all that it calls make is longer than what came in: it says more and counts as full. Else prove '..UptoSaid'. A law counts once. -/
mutual
def uptoBulk {H : Type} : DataW H → Nat
  | .lit (.string bytes) => bytes.length + 1
  | .lit _ => 1
  | .nil => 1
  | .ptr d => uptoBulk d + 1
  | .slice elems spare => uptoBulkAll elems + uptoBulkAll spare + 1
  | .agg parts => uptoBulkAll parts + 1
  | .iface _ d => uptoBulk d + 1
  | .map entries => uptoBulkEntries entries + 1
  | .held _ => 1
def uptoBulkAll {H : Type} : List (DataW H) → Nat
  | [] => 0
  | d :: r => uptoBulk d + uptoBulkAll r
def uptoBulkEntries {H : Type} : List (Lit × DataW H) → Nat
  | [] => 0
  | x :: r => uptoBulkEntry x + uptoBulkEntries r
def uptoBulkEntry {H : Type} : Lit × DataW H → Nat
  | (.string bytes, d) => bytes.length + uptoBulk d + 1
  | (_, d) => uptoBulk d + 1
 end
def uptoSmall : (H : Type) → List (DataW H) → Bool := fun _ ds => decide (uptoBulkAll ds ≤ 1048576)
def OpenSpec.upto (s : _root_.Go.ChangeSpec) : _root_.Go.OpenSpec := { _root_.Go.OpenSpec.ofChange s with cond := some uptoSmall }

/-- 'caissonlaw13.AccumSums', WHERE WHAT IT READS IS OF BULK AT MOST 1048576: true; the input reads as it did. -/
def accumSumsUptoRow : OpenClaim := { program := "ytlhncphnhgbclaa", sum := "e05b9221e1da28dfe7680e54f56f2ee5d7780d76280aa145c4b9112d38ed9a79", func := "caisson/caissonlaw13.AccumSums", spec := "accumSums", inPlace := ["math/bits.Add64", "math/bits.Sub64"], unfollowed := true, recurses := true, named := ["math/bits.divideError", "math/bits.overflowError"], apart := false, narrowed := true }
def AccumSumsUptoSaid : Prop := accumSumsUptoRow.holds Try.pinned (OpenSpec.upto accumSumsSpec)

/-- 'caissonlaw13.AccumRules', WHERE WHAT IT READS IS OF BULK AT MOST 1048576: true; the input reads as it did. -/
def accumRulesUptoRow : OpenClaim := { program := "ytlhncphnhgbclaa", sum := "e05b9221e1da28dfe7680e54f56f2ee5d7780d76280aa145c4b9112d38ed9a79", func := "caisson/caissonlaw13.AccumRules", spec := "accumRules", inPlace := ["math/bits.Add64", "math/bits.Sub64"], unfollowed := true, recurses := true, named := ["math/bits.divideError", "math/bits.overflowError"], apart := false, narrowed := true }
def AccumRulesUptoSaid : Prop := accumRulesUptoRow.holds Try.pinned (OpenSpec.upto accumRulesSpec)

/-- 'caissonlaw13.AccumTells', WHERE WHAT IT READS IS OF BULK AT MOST 1048576: true; the input reads as it did. -/
def accumTellsUptoRow : OpenClaim := { program := "ytlhncphnhgbclaa", sum := "e05b9221e1da28dfe7680e54f56f2ee5d7780d76280aa145c4b9112d38ed9a79", func := "caisson/caissonlaw13.AccumTells", spec := "accumTells", inPlace := ["math/bits.Add64", "math/bits.Sub64"], unfollowed := true, recurses := true, named := ["math/bits.divideError", "math/bits.overflowError"], apart := false, narrowed := true }
def AccumTellsUptoSaid : Prop := accumTellsUptoRow.holds Try.pinned (OpenSpec.upto accumTellsSpec)

/-- 'caissonlaw13.AccumAsked', WHERE WHAT IT READS IS OF BULK AT MOST 1048576: true; the input reads as it did. -/
def accumAskedUptoRow : OpenClaim := { program := "ytlhncphnhgbclaa", sum := "e05b9221e1da28dfe7680e54f56f2ee5d7780d76280aa145c4b9112d38ed9a79", func := "caisson/caissonlaw13.AccumAsked", spec := "accumAsked", inPlace := ["math/bits.Add64", "math/bits.Sub64"], unfollowed := true, recurses := true, named := ["math/bits.divideError", "math/bits.overflowError"], apart := false, narrowed := true }
def AccumAskedUptoSaid : Prop := accumAskedUptoRow.holds Try.pinned (OpenSpec.upto accumAskedSpec)

/-- 'caissonlaw13.AccumOrder', WHERE WHAT IT READS IS OF BULK AT MOST 1048576: true; the input reads as it did. -/
def accumOrderUptoRow : OpenClaim := { program := "ytlhncphnhgbclaa", sum := "e05b9221e1da28dfe7680e54f56f2ee5d7780d76280aa145c4b9112d38ed9a79", func := "caisson/caissonlaw13.AccumOrder", spec := "accumOrder", inPlace := ["math/bits.Add64", "math/bits.Sub64"], unfollowed := true, recurses := true, named := ["math/bits.divideError", "math/bits.overflowError"], apart := false, narrowed := true }
def AccumOrderUptoSaid : Prop := accumOrderUptoRow.holds Try.pinned (OpenSpec.upto accumOrderSpec)

/-- 'caissonlaw13.AccumTakes', WHERE WHAT IT READS IS OF BULK AT MOST 1048576: true; the input reads as it did. -/
def accumTakesUptoRow : OpenClaim := { program := "ytlhncphnhgbclaa", sum := "e05b9221e1da28dfe7680e54f56f2ee5d7780d76280aa145c4b9112d38ed9a79", func := "caisson/caissonlaw13.AccumTakes", spec := "accumTakes", inPlace := ["math/bits.Add64", "math/bits.Sub64"], unfollowed := true, recurses := true, named := ["math/bits.divideError", "math/bits.overflowError"], apart := false, narrowed := true }
def AccumTakesUptoSaid : Prop := accumTakesUptoRow.holds Try.pinned (OpenSpec.upto accumTakesSpec)

/-- 'caissonlaw13.AccumParts', WHERE WHAT IT READS IS OF BULK AT MOST 1048576: true; the input reads as it did. -/
def accumPartsUptoRow : OpenClaim := { program := "ytlhncphnhgbclaa", sum := "e05b9221e1da28dfe7680e54f56f2ee5d7780d76280aa145c4b9112d38ed9a79", func := "caisson/caissonlaw13.AccumParts", spec := "accumParts", inPlace := ["math/bits.Add64", "math/bits.Sub64"], unfollowed := true, recurses := true, named := ["math/bits.divideError", "math/bits.overflowError"], apart := false, narrowed := true }
def AccumPartsUptoSaid : Prop := accumPartsUptoRow.holds Try.pinned (OpenSpec.upto accumPartsSpec)

end Rows
end Go.Proofs.Ytlhncphnhgbclaa
