/-
  No cell of these rows narrows 'for every input' (looked for: loops, veiled, ifaces, maps, wideKeys, modest, calm, conditions, laid).
  DERIVED. THE GIVEN ROWS OF THIS SEAT. 5 by the template 'for every input the law returns true; each argument reads behind the call as it read before'; 0 by the template 'total and deterministic' (their statements: YtdpgpcffhhdpiaaTotals.lean).
  GIVEN WITH THE SEED: the statements are not yours to turn. If you find one false, say at which input.
  Laid BY PROGRAM, IN A SANDBOX (cutbox-rows.mjs): the forced cells as the released guide's own fill.sh prints them over the translation 098ca3fef19e4c83… (all of the seat's roots in one cut). By AI agents, Wed Nov 11 2026. No macro, syntax, notation, axiom, sorry.
-/
import Derived.Test.YtdpgpcffhhdpiaaChecked
import GoSem.Claim
import GoSem.ClaimJoined
import GoSem.ClaimMapViews
import Derived.JoinedTies
import Derived.KernelRfl
namespace Go.Proofs.Ytdpgpcffhhdpiaa
/- THE CELL 'sum', in the pinned program and in every row, IS THE sha256 OF THE DUMP (.gsa) THAT YtdpgpcffhhdpiaaProg.lean LOADS. Nothing in Lean hashes anything: it is a label: what it is worth is what the hold of that sum in a sandbox is worth. -/
noncomputable def Try.pinned : Pinned := { name := "ytdpgpcffhhdpiaa", sum := "098ca3fef19e4c83de3c1f45209c12a8a6ef5a9732b5f1883cddef8a8b571ac6", checked := Try.checked }
namespace Rows
def none {H : Type} : Left H := { results := [], args := [] }

/-- 'caissonlaw07.FactsSnapshots': WHATEVER THE INPUT: true; the input reads as it did. -/
def factsSnapshotsSpec : ChangeSpec := { name := "factsSnapshots", fn := fun _ => fun
  | [d1, d2, d3] => { results := [.lit (.bool true)], args := [d1, d2, d3] }
  | _ => none }
def factsSnapshotsRow : OpenClaim := { program := "ytdpgpcffhhdpiaa", sum := "098ca3fef19e4c83de3c1f45209c12a8a6ef5a9732b5f1883cddef8a8b571ac6", func := "caisson/caissonlaw07.FactsSnapshots", spec := "factsSnapshots", unfollowed := true, recurses := true, apart := false }
def FactsSnapshotsSaid : Prop := factsSnapshotsRow.holds Try.pinned (OpenSpec.ofChange factsSnapshotsSpec)

/-- ITS FALSE NEIGHBOUR: 'it returns false'. Refute it at one input. -/
def factsSnapshotsWrong : ChangeSpec := { name := "factsSnapshots", fn := fun _ => fun
  | [d1, d2, d3] => { results := [.lit (.bool false)], args := [d1, d2, d3] }
  | _ => none }
def FactsSnapshotsWrongFalsely : Prop := factsSnapshotsRow.holds Try.pinned (OpenSpec.ofChange factsSnapshotsWrong)

/-- 'caissonlaw07.FactsMany': WHATEVER THE INPUT: true; the input reads as it did. -/
def factsManySpec : ChangeSpec := { name := "factsMany", fn := fun _ => fun
  | [d1, d2] => { results := [.lit (.bool true)], args := [d1, d2] }
  | _ => none }
def factsManyRow : OpenClaim := { program := "ytdpgpcffhhdpiaa", sum := "098ca3fef19e4c83de3c1f45209c12a8a6ef5a9732b5f1883cddef8a8b571ac6", func := "caisson/caissonlaw07.FactsMany", spec := "factsMany", unfollowed := true, recurses := true, apart := false }
def FactsManySaid : Prop := factsManyRow.holds Try.pinned (OpenSpec.ofChange factsManySpec)

/-- ITS FALSE NEIGHBOUR: 'it returns false'. Refute it at one input. -/
def factsManyWrong : ChangeSpec := { name := "factsMany", fn := fun _ => fun
  | [d1, d2] => { results := [.lit (.bool false)], args := [d1, d2] }
  | _ => none }
def FactsManyWrongFalsely : Prop := factsManyRow.holds Try.pinned (OpenSpec.ofChange factsManyWrong)

/-- 'caissonlaw07.FactsFull': WHATEVER THE INPUT: true; the input reads as it did. -/
def factsFullSpec : ChangeSpec := { name := "factsFull", fn := fun _ => fun
  | [d1, d2] => { results := [.lit (.bool true)], args := [d1, d2] }
  | _ => none }
def factsFullRow : OpenClaim := { program := "ytdpgpcffhhdpiaa", sum := "098ca3fef19e4c83de3c1f45209c12a8a6ef5a9732b5f1883cddef8a8b571ac6", func := "caisson/caissonlaw07.FactsFull", spec := "factsFull", unfollowed := true, recurses := true, apart := false }
def FactsFullSaid : Prop := factsFullRow.holds Try.pinned (OpenSpec.ofChange factsFullSpec)

/-- ITS FALSE NEIGHBOUR: 'it returns false'. Refute it at one input. -/
def factsFullWrong : ChangeSpec := { name := "factsFull", fn := fun _ => fun
  | [d1, d2] => { results := [.lit (.bool false)], args := [d1, d2] }
  | _ => none }
def FactsFullWrongFalsely : Prop := factsFullRow.holds Try.pinned (OpenSpec.ofChange factsFullWrong)

/-- 'caissonlaw07.FactsNil': WHATEVER THE INPUT: true; the input reads as it did. -/
def factsNilSpec : ChangeSpec := { name := "factsNil", fn := fun _ => fun
  | [d1, d2, d3] => { results := [.lit (.bool true)], args := [d1, d2, d3] }
  | _ => none }
def factsNilRow : OpenClaim := { program := "ytdpgpcffhhdpiaa", sum := "098ca3fef19e4c83de3c1f45209c12a8a6ef5a9732b5f1883cddef8a8b571ac6", func := "caisson/caissonlaw07.FactsNil", spec := "factsNil", unfollowed := true, recurses := true, apart := false }
def FactsNilSaid : Prop := factsNilRow.holds Try.pinned (OpenSpec.ofChange factsNilSpec)

/-- ITS FALSE NEIGHBOUR: 'it returns false'. Refute it at one input. -/
def factsNilWrong : ChangeSpec := { name := "factsNil", fn := fun _ => fun
  | [d1, d2, d3] => { results := [.lit (.bool false)], args := [d1, d2, d3] }
  | _ => none }
def FactsNilWrongFalsely : Prop := factsNilRow.holds Try.pinned (OpenSpec.ofChange factsNilWrong)

/-- 'caissonlaw07.FactsCounts': WHATEVER THE INPUT: true; the input reads as it did. -/
def factsCountsSpec : ChangeSpec := { name := "factsCounts", fn := fun _ => fun
  | [d] => { results := [.lit (.bool true)], args := [d] }
  | _ => none }
def factsCountsRow : OpenClaim := { program := "ytdpgpcffhhdpiaa", sum := "098ca3fef19e4c83de3c1f45209c12a8a6ef5a9732b5f1883cddef8a8b571ac6", func := "caisson/caissonlaw07.FactsCounts", spec := "factsCounts", unfollowed := true, recurses := true, apart := false }
def FactsCountsSaid : Prop := factsCountsRow.holds Try.pinned (OpenSpec.ofChange factsCountsSpec)

/-- ITS FALSE NEIGHBOUR: 'it returns false'. Refute it at one input. -/
def factsCountsWrong : ChangeSpec := { name := "factsCounts", fn := fun _ => fun
  | [d] => { results := [.lit (.bool false)], args := [d] }
  | _ => none }
def FactsCountsWrongFalsely : Prop := factsCountsRow.holds Try.pinned (OpenSpec.ofChange factsCountsWrong)

/- THE SECOND FORM. 'bulk': how many values and letters a reading holds, each counted each time it is reached (what is shared counts as often as it is met; a slice's spare places count too). A statement '..UptoSaid' is the law's where the arguments, and the package variables that the reading takes, are together of bulk at most 1048576: NARROWER than '..Said'. Prove '..Said' where nothing that the law and all that it calls make is longer than what came in: it says more and counts as full. Else prove '..UptoSaid'. A law counts once. -/
mutual
def uptoBulk {H : Type} : DataW H → Nat
  | .lit (.string bytes) => bytes.length + 1
  | .lit _ => 1
  | .nil => 1
  | .ptr d => uptoBulk d + 1
  | .slice elems spare => uptoBulkAll elems + uptoBulkAll spare + 1
  | .agg parts => uptoBulkAll parts + 1
  | .iface _ d => uptoBulk d + 1
  | .map entries => uptoBulkEntries entries + 1
  | .held _ => 1
def uptoBulkAll {H : Type} : List (DataW H) → Nat
  | [] => 0
  | d :: r => uptoBulk d + uptoBulkAll r
def uptoBulkEntries {H : Type} : List (Lit × DataW H) → Nat
  | [] => 0
  | x :: r => uptoBulkEntry x + uptoBulkEntries r
def uptoBulkEntry {H : Type} : Lit × DataW H → Nat
  | (.string bytes, d) => bytes.length + uptoBulk d + 1
  | (_, d) => uptoBulk d + 1
 end
def uptoSmall : (H : Type) → List (DataW H) → Bool := fun _ ds => decide (uptoBulkAll ds ≤ 1048576)
def OpenSpec.upto (s : _root_.Go.ChangeSpec) : _root_.Go.OpenSpec := { _root_.Go.OpenSpec.ofChange s with cond := some uptoSmall }

/-- 'caissonlaw07.FactsSnapshots', WHERE WHAT IT READS IS OF BULK AT MOST 1048576: true; the input reads as it did. -/
def factsSnapshotsUptoRow : OpenClaim := { program := "ytdpgpcffhhdpiaa", sum := "098ca3fef19e4c83de3c1f45209c12a8a6ef5a9732b5f1883cddef8a8b571ac6", func := "caisson/caissonlaw07.FactsSnapshots", spec := "factsSnapshots", unfollowed := true, recurses := true, apart := false, narrowed := true }
def FactsSnapshotsUptoSaid : Prop := factsSnapshotsUptoRow.holds Try.pinned (OpenSpec.upto factsSnapshotsSpec)

/-- 'caissonlaw07.FactsMany', WHERE WHAT IT READS IS OF BULK AT MOST 1048576: true; the input reads as it did. -/
def factsManyUptoRow : OpenClaim := { program := "ytdpgpcffhhdpiaa", sum := "098ca3fef19e4c83de3c1f45209c12a8a6ef5a9732b5f1883cddef8a8b571ac6", func := "caisson/caissonlaw07.FactsMany", spec := "factsMany", unfollowed := true, recurses := true, apart := false, narrowed := true }
def FactsManyUptoSaid : Prop := factsManyUptoRow.holds Try.pinned (OpenSpec.upto factsManySpec)

/-- 'caissonlaw07.FactsFull', WHERE WHAT IT READS IS OF BULK AT MOST 1048576: true; the input reads as it did. -/
def factsFullUptoRow : OpenClaim := { program := "ytdpgpcffhhdpiaa", sum := "098ca3fef19e4c83de3c1f45209c12a8a6ef5a9732b5f1883cddef8a8b571ac6", func := "caisson/caissonlaw07.FactsFull", spec := "factsFull", unfollowed := true, recurses := true, apart := false, narrowed := true }
def FactsFullUptoSaid : Prop := factsFullUptoRow.holds Try.pinned (OpenSpec.upto factsFullSpec)

/-- 'caissonlaw07.FactsNil', WHERE WHAT IT READS IS OF BULK AT MOST 1048576: true; the input reads as it did. -/
def factsNilUptoRow : OpenClaim := { program := "ytdpgpcffhhdpiaa", sum := "098ca3fef19e4c83de3c1f45209c12a8a6ef5a9732b5f1883cddef8a8b571ac6", func := "caisson/caissonlaw07.FactsNil", spec := "factsNil", unfollowed := true, recurses := true, apart := false, narrowed := true }
def FactsNilUptoSaid : Prop := factsNilUptoRow.holds Try.pinned (OpenSpec.upto factsNilSpec)

/-- 'caissonlaw07.FactsCounts', WHERE WHAT IT READS IS OF BULK AT MOST 1048576: true; the input reads as it did. -/
def factsCountsUptoRow : OpenClaim := { program := "ytdpgpcffhhdpiaa", sum := "098ca3fef19e4c83de3c1f45209c12a8a6ef5a9732b5f1883cddef8a8b571ac6", func := "caisson/caissonlaw07.FactsCounts", spec := "factsCounts", unfollowed := true, recurses := true, apart := false, narrowed := true }
def FactsCountsUptoSaid : Prop := factsCountsUptoRow.holds Try.pinned (OpenSpec.upto factsCountsSpec)

end Rows
end Go.Proofs.Ytdpgpcffhhdpiaa
