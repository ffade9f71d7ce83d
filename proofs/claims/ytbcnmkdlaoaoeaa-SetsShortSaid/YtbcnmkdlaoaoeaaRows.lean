/-
  No cell of these rows narrows 'for every input' (looked for: loops, veiled, ifaces, maps, wideKeys, modest, calm, conditions, laid).
  DERIVED. THE GIVEN ROWS OF THIS SEAT. 3 by the template 'for every input the law returns true; each argument reads behind the call as it read before'; 0 by the template 'total and deterministic' (their statements: YtbcnmkdlaoaoeaaTotals.lean).
  GIVEN WITH THE SEED: the statements are not yours to turn. If you find one false, say at which input.
  Laid BY PROGRAM, IN A SANDBOX (cutbox-rows.mjs): the forced cells as the released guide's own fill.sh prints them over the translation 0da2473de2ae236c… (all of the seat's roots in one cut). By AI agents, Wed Nov 11 2026. No macro, syntax, notation, axiom, sorry.
-/
import Derived.Test.YtbcnmkdlaoaoeaaChecked
import GoSem.Claim
import GoSem.ClaimJoined
import GoSem.ClaimMapViews
import Derived.JoinedTies
import Derived.KernelRfl
namespace Go.Proofs.Ytbcnmkdlaoaoeaa
/- THE CELL 'sum', in the pinned program and in every row, IS THE sha256 OF THE DUMP (.gsa) THAT YtbcnmkdlaoaoeaaProg.lean LOADS. Nothing in Lean hashes anything: it is a label: what it is worth is what the hold of that sum in a sandbox is worth. -/
noncomputable def Try.pinned : Pinned := { name := "ytbcnmkdlaoaoeaa", sum := "0da2473de2ae236cc192f57add06e51877bac10b575d59898f2aaf94d5a38fd0", checked := Try.checked }
namespace Rows
def none {H : Type} : Left H := { results := [], args := [] }

/-- 'caissonlaw11.SetsShort': WHATEVER THE INPUT: true; the input reads as it did. -/
def setsShortSpec : ChangeSpec := { name := "setsShort", fn := fun _ => fun
  | [d] => { results := [.lit (.bool true)], args := [d] }
  | _ => none }
def setsShortRow : OpenClaim := { program := "ytbcnmkdlaoaoeaa", sum := "0da2473de2ae236cc192f57add06e51877bac10b575d59898f2aaf94d5a38fd0", func := "caisson/caissonlaw11.SetsShort", spec := "setsShort", unfollowed := true, recurses := true, apart := false }
def SetsShortSaid : Prop := setsShortRow.holds Try.pinned (OpenSpec.ofChange setsShortSpec)

/-- ITS FALSE NEIGHBOUR: 'it returns false'. Refute it at one input. -/
def setsShortWrong : ChangeSpec := { name := "setsShort", fn := fun _ => fun
  | [d] => { results := [.lit (.bool false)], args := [d] }
  | _ => none }
def SetsShortWrongFalsely : Prop := setsShortRow.holds Try.pinned (OpenSpec.ofChange setsShortWrong)

/-- 'caissonlaw11.SetsCross': WHATEVER THE INPUT: true; the input reads as it did. -/
def setsCrossSpec : ChangeSpec := { name := "setsCross", fn := fun _ => fun
  | [d1, d2] => { results := [.lit (.bool true)], args := [d1, d2] }
  | _ => none }
def setsCrossRow : OpenClaim := { program := "ytbcnmkdlaoaoeaa", sum := "0da2473de2ae236cc192f57add06e51877bac10b575d59898f2aaf94d5a38fd0", func := "caisson/caissonlaw11.SetsCross", spec := "setsCross", unfollowed := true, recurses := true, apart := false }
def SetsCrossSaid : Prop := setsCrossRow.holds Try.pinned (OpenSpec.ofChange setsCrossSpec)

/-- ITS FALSE NEIGHBOUR: 'it returns false'. Refute it at one input. -/
def setsCrossWrong : ChangeSpec := { name := "setsCross", fn := fun _ => fun
  | [d1, d2] => { results := [.lit (.bool false)], args := [d1, d2] }
  | _ => none }
def SetsCrossWrongFalsely : Prop := setsCrossRow.holds Try.pinned (OpenSpec.ofChange setsCrossWrong)

/-- 'caissonlaw11.SetsLists': WHATEVER THE INPUT: true; the input reads as it did. -/
def setsListsSpec : ChangeSpec := { name := "setsLists", fn := fun _ => fun
  | [d1, d2, d3] => { results := [.lit (.bool true)], args := [d1, d2, d3] }
  | _ => none }
def setsListsRow : OpenClaim := { program := "ytbcnmkdlaoaoeaa", sum := "0da2473de2ae236cc192f57add06e51877bac10b575d59898f2aaf94d5a38fd0", func := "caisson/caissonlaw11.SetsLists", spec := "setsLists", unfollowed := true, recurses := true, apart := false }
def SetsListsSaid : Prop := setsListsRow.holds Try.pinned (OpenSpec.ofChange setsListsSpec)

/-- ITS FALSE NEIGHBOUR: 'it returns false'. Refute it at one input. -/
def setsListsWrong : ChangeSpec := { name := "setsLists", fn := fun _ => fun
  | [d1, d2, d3] => { results := [.lit (.bool false)], args := [d1, d2, d3] }
  | _ => none }
def SetsListsWrongFalsely : Prop := setsListsRow.holds Try.pinned (OpenSpec.ofChange setsListsWrong)

/- THE SECOND FORM. 'bulk': how many values and letters a reading holds, each counted each time it is reached (what is shared counts as often as it is met; a slice's spare places count too). A statement '..UptoSaid' is the law's where the arguments, and the package variables that the reading takes, are together of bulk at most 1048576: NARROWER than '..Said'. Prove '..Said' where nothing that the law and all that it calls make is longer than what came in: it says more and counts as full. Else prove '..UptoSaid'. A law counts once. -/
mutual
def uptoBulk {H : Type} : DataW H → Nat
  | .lit (.string bytes) => bytes.length + 1
  | .lit _ => 1
  | .nil => 1
  | .ptr d => uptoBulk d + 1
  | .slice elems spare => uptoBulkAll elems + uptoBulkAll spare + 1
  | .agg parts => uptoBulkAll parts + 1
  | .iface _ d => uptoBulk d + 1
  | .map entries => uptoBulkEntries entries + 1
  | .held _ => 1
def uptoBulkAll {H : Type} : List (DataW H) → Nat
  | [] => 0
  | d :: r => uptoBulk d + uptoBulkAll r
def uptoBulkEntries {H : Type} : List (Lit × DataW H) → Nat
  | [] => 0
  | x :: r => uptoBulkEntry x + uptoBulkEntries r
def uptoBulkEntry {H : Type} : Lit × DataW H → Nat
  | (.string bytes, d) => bytes.length + uptoBulk d + 1
  | (_, d) => uptoBulk d + 1
 end
def uptoSmall : (H : Type) → List (DataW H) → Bool := fun _ ds => decide (uptoBulkAll ds ≤ 1048576)
def OpenSpec.upto (s : _root_.Go.ChangeSpec) : _root_.Go.OpenSpec := { _root_.Go.OpenSpec.ofChange s with cond := some uptoSmall }

/-- 'caissonlaw11.SetsShort', WHERE WHAT IT READS IS OF BULK AT MOST 1048576: true; the input reads as it did. -/
def setsShortUptoRow : OpenClaim := { program := "ytbcnmkdlaoaoeaa", sum := "0da2473de2ae236cc192f57add06e51877bac10b575d59898f2aaf94d5a38fd0", func := "caisson/caissonlaw11.SetsShort", spec := "setsShort", unfollowed := true, recurses := true, apart := false, narrowed := true }
def SetsShortUptoSaid : Prop := setsShortUptoRow.holds Try.pinned (OpenSpec.upto setsShortSpec)

/-- 'caissonlaw11.SetsCross', WHERE WHAT IT READS IS OF BULK AT MOST 1048576: true; the input reads as it did. -/
def setsCrossUptoRow : OpenClaim := { program := "ytbcnmkdlaoaoeaa", sum := "0da2473de2ae236cc192f57add06e51877bac10b575d59898f2aaf94d5a38fd0", func := "caisson/caissonlaw11.SetsCross", spec := "setsCross", unfollowed := true, recurses := true, apart := false, narrowed := true }
def SetsCrossUptoSaid : Prop := setsCrossUptoRow.holds Try.pinned (OpenSpec.upto setsCrossSpec)

/-- 'caissonlaw11.SetsLists', WHERE WHAT IT READS IS OF BULK AT MOST 1048576: true; the input reads as it did. -/
def setsListsUptoRow : OpenClaim := { program := "ytbcnmkdlaoaoeaa", sum := "0da2473de2ae236cc192f57add06e51877bac10b575d59898f2aaf94d5a38fd0", func := "caisson/caissonlaw11.SetsLists", spec := "setsLists", unfollowed := true, recurses := true, apart := false, narrowed := true }
def SetsListsUptoSaid : Prop := setsListsUptoRow.holds Try.pinned (OpenSpec.upto setsListsSpec)

end Rows
end Go.Proofs.Ytbcnmkdlaoaoeaa
