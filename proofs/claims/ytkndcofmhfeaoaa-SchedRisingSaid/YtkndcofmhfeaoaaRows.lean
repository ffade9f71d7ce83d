/-
  No cell of these rows narrows 'for every input' (looked for: loops, veiled, ifaces, maps, wideKeys, modest, calm, conditions, laid).
  DERIVED. THE GIVEN ROWS OF THIS SEAT. 6 by the template 'for every input the law returns true; each argument reads behind the call as it read before'; 0 by the template 'total and deterministic' (their statements: YtkndcofmhfeaoaaTotals.lean).
  GIVEN WITH THE SEED: the statements are not yours to turn. If you find one false, say at which input.
  Laid BY PROGRAM, IN A SANDBOX (cutbox-rows.mjs): the forced cells as the released guide's own fill.sh prints them over the translation a9caf94dee8d3aef… (all of the seat's roots in one cut). By AI agents, Wed Nov 11 2026. No macro, syntax, notation, axiom, sorry.
-/
import Derived.Test.YtkndcofmhfeaoaaChecked
import GoSem.Claim
import GoSem.ClaimJoined
import GoSem.ClaimMapViews
import Derived.JoinedTies
import Derived.KernelRfl
namespace Go.Proofs.Ytkndcofmhfeaoaa
/- THE CELL 'sum', in the pinned program and in every row, IS THE sha256 OF THE DUMP (.gsa) THAT YtkndcofmhfeaoaaProg.lean LOADS. Nothing in Lean hashes anything: it is a label: what it is worth is what the hold of that sum in a sandbox is worth. -/
noncomputable def Try.pinned : Pinned := { name := "ytkndcofmhfeaoaa", sum := "a9caf94dee8d3aefda9f9b150d5c466c729c8be262f657e9e75fb37cf53e431a", checked := Try.checked }
namespace Rows
def none {H : Type} : Left H := { results := [], args := [] }

/-- 'caissonlaw03.SchedFair': WHATEVER THE INPUT: true; the input reads as it did. -/
def schedFairSpec : ChangeSpec := { name := "schedFair", fn := fun _ => fun
  | [d1, d2] => { results := [.lit (.bool true)], args := [d1, d2] }
  | _ => none }
def schedFairRow : OpenClaim := { program := "ytkndcofmhfeaoaa", sum := "a9caf94dee8d3aefda9f9b150d5c466c729c8be262f657e9e75fb37cf53e431a", func := "caisson/caissonlaw03.SchedFair", spec := "schedFair", inPlace := ["sync/atomic.AddInt64", "sync/atomic.LoadInt64"], unfollowed := true, recurses := true, apart := false }
def SchedFairSaid : Prop := schedFairRow.holds Try.pinned (OpenSpec.ofChange schedFairSpec)

/-- ITS FALSE NEIGHBOUR: 'it returns false'. Refute it at one input. -/
def schedFairWrong : ChangeSpec := { name := "schedFair", fn := fun _ => fun
  | [d1, d2] => { results := [.lit (.bool false)], args := [d1, d2] }
  | _ => none }
def SchedFairWrongFalsely : Prop := schedFairRow.holds Try.pinned (OpenSpec.ofChange schedFairWrong)

/-- 'caissonlaw03.SchedRising': WHATEVER THE INPUT: true; the input reads as it did. -/
def schedRisingSpec : ChangeSpec := { name := "schedRising", fn := fun _ => fun
  | [d1, d2] => { results := [.lit (.bool true)], args := [d1, d2] }
  | _ => none }
def schedRisingRow : OpenClaim := { program := "ytkndcofmhfeaoaa", sum := "a9caf94dee8d3aefda9f9b150d5c466c729c8be262f657e9e75fb37cf53e431a", func := "caisson/caissonlaw03.SchedRising", spec := "schedRising", inPlace := ["sync/atomic.AddInt64", "sync/atomic.LoadInt64"], unfollowed := true, recurses := true, apart := false }
def SchedRisingSaid : Prop := schedRisingRow.holds Try.pinned (OpenSpec.ofChange schedRisingSpec)

/-- ITS FALSE NEIGHBOUR: 'it returns false'. Refute it at one input. -/
def schedRisingWrong : ChangeSpec := { name := "schedRising", fn := fun _ => fun
  | [d1, d2] => { results := [.lit (.bool false)], args := [d1, d2] }
  | _ => none }
def SchedRisingWrongFalsely : Prop := schedRisingRow.holds Try.pinned (OpenSpec.ofChange schedRisingWrong)

/-- 'caissonlaw03.SchedTurns': WHATEVER THE INPUT: true; the input reads as it did. -/
def schedTurnsSpec : ChangeSpec := { name := "schedTurns", fn := fun _ => fun
  | [d1, d2] => { results := [.lit (.bool true)], args := [d1, d2] }
  | _ => none }
def schedTurnsRow : OpenClaim := { program := "ytkndcofmhfeaoaa", sum := "a9caf94dee8d3aefda9f9b150d5c466c729c8be262f657e9e75fb37cf53e431a", func := "caisson/caissonlaw03.SchedTurns", spec := "schedTurns", inPlace := ["sync/atomic.AddInt64", "sync/atomic.LoadInt64"], unfollowed := true, recurses := true, apart := false }
def SchedTurnsSaid : Prop := schedTurnsRow.holds Try.pinned (OpenSpec.ofChange schedTurnsSpec)

/-- ITS FALSE NEIGHBOUR: 'it returns false'. Refute it at one input. -/
def schedTurnsWrong : ChangeSpec := { name := "schedTurns", fn := fun _ => fun
  | [d1, d2] => { results := [.lit (.bool false)], args := [d1, d2] }
  | _ => none }
def SchedTurnsWrongFalsely : Prop := schedTurnsRow.holds Try.pinned (OpenSpec.ofChange schedTurnsWrong)

/-- 'caissonlaw03.SchedPlays': WHATEVER THE INPUT: true; the input reads as it did. -/
def schedPlaysSpec : ChangeSpec := { name := "schedPlays", fn := fun _ => fun
  | [d] => { results := [.lit (.bool true)], args := [d] }
  | _ => none }
def schedPlaysRow : OpenClaim := { program := "ytkndcofmhfeaoaa", sum := "a9caf94dee8d3aefda9f9b150d5c466c729c8be262f657e9e75fb37cf53e431a", func := "caisson/caissonlaw03.SchedPlays", spec := "schedPlays", inPlace := ["sync/atomic.AddInt64", "sync/atomic.LoadInt64"], unfollowed := true, recurses := true, apart := false }
def SchedPlaysSaid : Prop := schedPlaysRow.holds Try.pinned (OpenSpec.ofChange schedPlaysSpec)

/-- ITS FALSE NEIGHBOUR: 'it returns false'. Refute it at one input. -/
def schedPlaysWrong : ChangeSpec := { name := "schedPlays", fn := fun _ => fun
  | [d] => { results := [.lit (.bool false)], args := [d] }
  | _ => none }
def SchedPlaysWrongFalsely : Prop := schedPlaysRow.holds Try.pinned (OpenSpec.ofChange schedPlaysWrong)

/-- 'caissonlaw03.SchedLatches': WHATEVER THE INPUT: true; the input reads as it did. -/
def schedLatchesSpec : ChangeSpec := { name := "schedLatches", fn := fun _ => fun
  | [d1, d2] => { results := [.lit (.bool true)], args := [d1, d2] }
  | _ => none }
def schedLatchesRow : OpenClaim := { program := "ytkndcofmhfeaoaa", sum := "a9caf94dee8d3aefda9f9b150d5c466c729c8be262f657e9e75fb37cf53e431a", func := "caisson/caissonlaw03.SchedLatches", spec := "schedLatches", inPlace := ["sync/atomic.AddInt64", "sync/atomic.LoadInt64"], unfollowed := true, recurses := true, apart := false }
def SchedLatchesSaid : Prop := schedLatchesRow.holds Try.pinned (OpenSpec.ofChange schedLatchesSpec)

/-- ITS FALSE NEIGHBOUR: 'it returns false'. Refute it at one input. -/
def schedLatchesWrong : ChangeSpec := { name := "schedLatches", fn := fun _ => fun
  | [d1, d2] => { results := [.lit (.bool false)], args := [d1, d2] }
  | _ => none }
def SchedLatchesWrongFalsely : Prop := schedLatchesRow.holds Try.pinned (OpenSpec.ofChange schedLatchesWrong)

/-- 'caissonlaw03.SchedNil': WHATEVER THE INPUT: true; the input reads as it did. -/
def schedNilSpec : ChangeSpec := { name := "schedNil", fn := fun _ => fun
  | [d1, d2] => { results := [.lit (.bool true)], args := [d1, d2] }
  | _ => none }
def schedNilRow : OpenClaim := { program := "ytkndcofmhfeaoaa", sum := "a9caf94dee8d3aefda9f9b150d5c466c729c8be262f657e9e75fb37cf53e431a", func := "caisson/caissonlaw03.SchedNil", spec := "schedNil", inPlace := ["sync/atomic.AddInt64", "sync/atomic.LoadInt64"], unfollowed := true, recurses := true, apart := false }
def SchedNilSaid : Prop := schedNilRow.holds Try.pinned (OpenSpec.ofChange schedNilSpec)

/-- ITS FALSE NEIGHBOUR: 'it returns false'. Refute it at one input. -/
def schedNilWrong : ChangeSpec := { name := "schedNil", fn := fun _ => fun
  | [d1, d2] => { results := [.lit (.bool false)], args := [d1, d2] }
  | _ => none }
def SchedNilWrongFalsely : Prop := schedNilRow.holds Try.pinned (OpenSpec.ofChange schedNilWrong)

/- THE SECOND FORM. 'bulk': how many values and letters a reading holds, each counted each time it is reached (what is shared counts as often as it is met; a slice's spare places count too). A statement '..UptoSaid' is the law's where the arguments, and the package variables that the reading takes, are together of bulk at most 1048576: NARROWER than '..Said'. Prove '..Said' where nothing that the law and all that it calls make is longer than what came in: it says more and counts as full. Else prove '..UptoSaid'. A law counts once. -/
mutual
def uptoBulk {H : Type} : DataW H → Nat
  | .lit (.string bytes) => bytes.length + 1
  | .lit _ => 1
  | .nil => 1
  | .ptr d => uptoBulk d + 1
  | .slice elems spare => uptoBulkAll elems + uptoBulkAll spare + 1
  | .agg parts => uptoBulkAll parts + 1
  | .iface _ d => uptoBulk d + 1
  | .map entries => uptoBulkEntries entries + 1
  | .held _ => 1
def uptoBulkAll {H : Type} : List (DataW H) → Nat
  | [] => 0
  | d :: r => uptoBulk d + uptoBulkAll r
def uptoBulkEntries {H : Type} : List (Lit × DataW H) → Nat
  | [] => 0
  | x :: r => uptoBulkEntry x + uptoBulkEntries r
def uptoBulkEntry {H : Type} : Lit × DataW H → Nat
  | (.string bytes, d) => bytes.length + uptoBulk d + 1
  | (_, d) => uptoBulk d + 1
 end
def uptoSmall : (H : Type) → List (DataW H) → Bool := fun _ ds => decide (uptoBulkAll ds ≤ 1048576)
def OpenSpec.upto (s : _root_.Go.ChangeSpec) : _root_.Go.OpenSpec := { _root_.Go.OpenSpec.ofChange s with cond := some uptoSmall }

/-- 'caissonlaw03.SchedFair', WHERE WHAT IT READS IS OF BULK AT MOST 1048576: true; the input reads as it did. -/
def schedFairUptoRow : OpenClaim := { program := "ytkndcofmhfeaoaa", sum := "a9caf94dee8d3aefda9f9b150d5c466c729c8be262f657e9e75fb37cf53e431a", func := "caisson/caissonlaw03.SchedFair", spec := "schedFair", inPlace := ["sync/atomic.AddInt64", "sync/atomic.LoadInt64"], unfollowed := true, recurses := true, apart := false, narrowed := true }
def SchedFairUptoSaid : Prop := schedFairUptoRow.holds Try.pinned (OpenSpec.upto schedFairSpec)

/-- 'caissonlaw03.SchedRising', WHERE WHAT IT READS IS OF BULK AT MOST 1048576: true; the input reads as it did. -/
def schedRisingUptoRow : OpenClaim := { program := "ytkndcofmhfeaoaa", sum := "a9caf94dee8d3aefda9f9b150d5c466c729c8be262f657e9e75fb37cf53e431a", func := "caisson/caissonlaw03.SchedRising", spec := "schedRising", inPlace := ["sync/atomic.AddInt64", "sync/atomic.LoadInt64"], unfollowed := true, recurses := true, apart := false, narrowed := true }
def SchedRisingUptoSaid : Prop := schedRisingUptoRow.holds Try.pinned (OpenSpec.upto schedRisingSpec)

/-- 'caissonlaw03.SchedTurns', WHERE WHAT IT READS IS OF BULK AT MOST 1048576: true; the input reads as it did. -/
def schedTurnsUptoRow : OpenClaim := { program := "ytkndcofmhfeaoaa", sum := "a9caf94dee8d3aefda9f9b150d5c466c729c8be262f657e9e75fb37cf53e431a", func := "caisson/caissonlaw03.SchedTurns", spec := "schedTurns", inPlace := ["sync/atomic.AddInt64", "sync/atomic.LoadInt64"], unfollowed := true, recurses := true, apart := false, narrowed := true }
def SchedTurnsUptoSaid : Prop := schedTurnsUptoRow.holds Try.pinned (OpenSpec.upto schedTurnsSpec)

/-- 'caissonlaw03.SchedPlays', WHERE WHAT IT READS IS OF BULK AT MOST 1048576: true; the input reads as it did. -/
def schedPlaysUptoRow : OpenClaim := { program := "ytkndcofmhfeaoaa", sum := "a9caf94dee8d3aefda9f9b150d5c466c729c8be262f657e9e75fb37cf53e431a", func := "caisson/caissonlaw03.SchedPlays", spec := "schedPlays", inPlace := ["sync/atomic.AddInt64", "sync/atomic.LoadInt64"], unfollowed := true, recurses := true, apart := false, narrowed := true }
def SchedPlaysUptoSaid : Prop := schedPlaysUptoRow.holds Try.pinned (OpenSpec.upto schedPlaysSpec)

/-- 'caissonlaw03.SchedLatches', WHERE WHAT IT READS IS OF BULK AT MOST 1048576: true; the input reads as it did. -/
def schedLatchesUptoRow : OpenClaim := { program := "ytkndcofmhfeaoaa", sum := "a9caf94dee8d3aefda9f9b150d5c466c729c8be262f657e9e75fb37cf53e431a", func := "caisson/caissonlaw03.SchedLatches", spec := "schedLatches", inPlace := ["sync/atomic.AddInt64", "sync/atomic.LoadInt64"], unfollowed := true, recurses := true, apart := false, narrowed := true }
def SchedLatchesUptoSaid : Prop := schedLatchesUptoRow.holds Try.pinned (OpenSpec.upto schedLatchesSpec)

/-- 'caissonlaw03.SchedNil', WHERE WHAT IT READS IS OF BULK AT MOST 1048576: true; the input reads as it did. -/
def schedNilUptoRow : OpenClaim := { program := "ytkndcofmhfeaoaa", sum := "a9caf94dee8d3aefda9f9b150d5c466c729c8be262f657e9e75fb37cf53e431a", func := "caisson/caissonlaw03.SchedNil", spec := "schedNil", inPlace := ["sync/atomic.AddInt64", "sync/atomic.LoadInt64"], unfollowed := true, recurses := true, apart := false, narrowed := true }
def SchedNilUptoSaid : Prop := schedNilUptoRow.holds Try.pinned (OpenSpec.upto schedNilSpec)

end Rows
end Go.Proofs.Ytkndcofmhfeaoaa
