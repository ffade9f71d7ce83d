/-
  No cell of these rows narrows 'for every input' (looked for: loops, veiled, ifaces, maps, wideKeys, modest, calm, conditions, laid).
  DERIVED. THE GIVEN ROWS OF THIS SEAT. 6 by the template 'for every input the law returns true; each argument reads behind the call as it read before'; 0 by the template 'total and deterministic' (their statements: YtfgnmcmkjfnogaaTotals.lean).
  GIVEN WITH THE SEED: the statements are not yours to turn. If you find one false, say at which input.
  Laid BY PROGRAM, IN A SANDBOX (cutbox-rows.mjs): the forced cells as the released guide's own fill.sh prints them over the translation 707f30b9d30cd2ed… (all of the seat's roots in one cut). By AI agents, Wed Nov 11 2026. No macro, syntax, notation, axiom, sorry.
-/
import Derived.Test.YtfgnmcmkjfnogaaChecked
import GoSem.Claim
import GoSem.ClaimJoined
import GoSem.ClaimMapViews
import Derived.JoinedTies
import Derived.KernelRfl
namespace Go.Proofs.Ytfgnmcmkjfnogaa
/- THE CELL 'sum', in the pinned program and in every row, IS THE sha256 OF THE DUMP (.gsa) THAT YtfgnmcmkjfnogaaProg.lean LOADS. Nothing in Lean hashes anything: it is a label: what it is worth is what the hold of that sum in a sandbox is worth. -/
noncomputable def Try.pinned : Pinned := { name := "ytfgnmcmkjfnogaa", sum := "707f30b9d30cd2ed6d90327742cc8e70c3a7635766ec2457f5485578f3d34006", checked := Try.checked }
namespace Rows
def none {H : Type} : Left H := { results := [], args := [] }

/-- 'caissonlaw20.AdviseChooses': WHATEVER THE INPUT: true; the input reads as it did. -/
def adviseChoosesSpec : ChangeSpec := { name := "adviseChooses", fn := fun _ => fun
  | [d1, d2, d3] => { results := [.lit (.bool true)], args := [d1, d2, d3] }
  | _ => none }
def adviseChoosesRow : OpenClaim := { program := "ytfgnmcmkjfnogaa", sum := "707f30b9d30cd2ed6d90327742cc8e70c3a7635766ec2457f5485578f3d34006", func := "caisson/caissonlaw20.AdviseChooses", spec := "adviseChooses", unfollowed := true, recurses := true, apart := false }
def AdviseChoosesSaid : Prop := adviseChoosesRow.holds Try.pinned (OpenSpec.ofChange adviseChoosesSpec)

/-- ITS FALSE NEIGHBOUR: 'it returns false'. Refute it at one input. -/
def adviseChoosesWrong : ChangeSpec := { name := "adviseChooses", fn := fun _ => fun
  | [d1, d2, d3] => { results := [.lit (.bool false)], args := [d1, d2, d3] }
  | _ => none }
def AdviseChoosesWrongFalsely : Prop := adviseChoosesRow.holds Try.pinned (OpenSpec.ofChange adviseChoosesWrong)

/-- 'caissonlaw20.AdviseFits': WHATEVER THE INPUT: true; the input reads as it did. -/
def adviseFitsSpec : ChangeSpec := { name := "adviseFits", fn := fun _ => fun
  | [d] => { results := [.lit (.bool true)], args := [d] }
  | _ => none }
def adviseFitsRow : OpenClaim := { program := "ytfgnmcmkjfnogaa", sum := "707f30b9d30cd2ed6d90327742cc8e70c3a7635766ec2457f5485578f3d34006", func := "caisson/caissonlaw20.AdviseFits", spec := "adviseFits", unfollowed := true, recurses := true, apart := false }
def AdviseFitsSaid : Prop := adviseFitsRow.holds Try.pinned (OpenSpec.ofChange adviseFitsSpec)

/-- ITS FALSE NEIGHBOUR: 'it returns false'. Refute it at one input. -/
def adviseFitsWrong : ChangeSpec := { name := "adviseFits", fn := fun _ => fun
  | [d] => { results := [.lit (.bool false)], args := [d] }
  | _ => none }
def AdviseFitsWrongFalsely : Prop := adviseFitsRow.holds Try.pinned (OpenSpec.ofChange adviseFitsWrong)

/-- 'caissonlaw20.AdviseOrders': WHATEVER THE INPUT: true; the input reads as it did. -/
def adviseOrdersSpec : ChangeSpec := { name := "adviseOrders", fn := fun _ => fun
  | [d1, d2] => { results := [.lit (.bool true)], args := [d1, d2] }
  | _ => none }
def adviseOrdersRow : OpenClaim := { program := "ytfgnmcmkjfnogaa", sum := "707f30b9d30cd2ed6d90327742cc8e70c3a7635766ec2457f5485578f3d34006", func := "caisson/caissonlaw20.AdviseOrders", spec := "adviseOrders", unfollowed := true, recurses := true, apart := false }
def AdviseOrdersSaid : Prop := adviseOrdersRow.holds Try.pinned (OpenSpec.ofChange adviseOrdersSpec)

/-- ITS FALSE NEIGHBOUR: 'it returns false'. Refute it at one input. -/
def adviseOrdersWrong : ChangeSpec := { name := "adviseOrders", fn := fun _ => fun
  | [d1, d2] => { results := [.lit (.bool false)], args := [d1, d2] }
  | _ => none }
def AdviseOrdersWrongFalsely : Prop := adviseOrdersRow.holds Try.pinned (OpenSpec.ofChange adviseOrdersWrong)

/-- 'caissonlaw20.AdviseNothing': WHATEVER THE INPUT: true; the input reads as it did. -/
def adviseNothingSpec : ChangeSpec := { name := "adviseNothing", fn := fun _ => fun
  | [d] => { results := [.lit (.bool true)], args := [d] }
  | _ => none }
def adviseNothingRow : OpenClaim := { program := "ytfgnmcmkjfnogaa", sum := "707f30b9d30cd2ed6d90327742cc8e70c3a7635766ec2457f5485578f3d34006", func := "caisson/caissonlaw20.AdviseNothing", spec := "adviseNothing", unfollowed := true, recurses := true, apart := false }
def AdviseNothingSaid : Prop := adviseNothingRow.holds Try.pinned (OpenSpec.ofChange adviseNothingSpec)

/-- ITS FALSE NEIGHBOUR: 'it returns false'. Refute it at one input. -/
def adviseNothingWrong : ChangeSpec := { name := "adviseNothing", fn := fun _ => fun
  | [d] => { results := [.lit (.bool false)], args := [d] }
  | _ => none }
def AdviseNothingWrongFalsely : Prop := adviseNothingRow.holds Try.pinned (OpenSpec.ofChange adviseNothingWrong)

/-- 'caissonlaw20.AdviseNil': WHATEVER THE INPUT: true; the input reads as it did. -/
def adviseNilSpec : ChangeSpec := { name := "adviseNil", fn := fun _ => fun
  | [d1, d2] => { results := [.lit (.bool true)], args := [d1, d2] }
  | _ => none }
def adviseNilRow : OpenClaim := { program := "ytfgnmcmkjfnogaa", sum := "707f30b9d30cd2ed6d90327742cc8e70c3a7635766ec2457f5485578f3d34006", func := "caisson/caissonlaw20.AdviseNil", spec := "adviseNil", unfollowed := true, recurses := true, apart := false }
def AdviseNilSaid : Prop := adviseNilRow.holds Try.pinned (OpenSpec.ofChange adviseNilSpec)

/-- ITS FALSE NEIGHBOUR: 'it returns false'. Refute it at one input. -/
def adviseNilWrong : ChangeSpec := { name := "adviseNil", fn := fun _ => fun
  | [d1, d2] => { results := [.lit (.bool false)], args := [d1, d2] }
  | _ => none }
def AdviseNilWrongFalsely : Prop := adviseNilRow.holds Try.pinned (OpenSpec.ofChange adviseNilWrong)

/-- 'caissonlaw20.AdvisePlays': WHATEVER THE INPUT: true; the input reads as it did. -/
def advisePlaysSpec : ChangeSpec := { name := "advisePlays", fn := fun _ => fun
  | [d1, d2, d3] => { results := [.lit (.bool true)], args := [d1, d2, d3] }
  | _ => none }
def advisePlaysRow : OpenClaim := { program := "ytfgnmcmkjfnogaa", sum := "707f30b9d30cd2ed6d90327742cc8e70c3a7635766ec2457f5485578f3d34006", func := "caisson/caissonlaw20.AdvisePlays", spec := "advisePlays", unfollowed := true, recurses := true, apart := false }
def AdvisePlaysSaid : Prop := advisePlaysRow.holds Try.pinned (OpenSpec.ofChange advisePlaysSpec)

/-- ITS FALSE NEIGHBOUR: 'it returns false'. Refute it at one input. -/
def advisePlaysWrong : ChangeSpec := { name := "advisePlays", fn := fun _ => fun
  | [d1, d2, d3] => { results := [.lit (.bool false)], args := [d1, d2, d3] }
  | _ => none }
def AdvisePlaysWrongFalsely : Prop := advisePlaysRow.holds Try.pinned (OpenSpec.ofChange advisePlaysWrong)

/- THE SECOND FORM. 'bulk': how many values and letters a reading holds, each counted each time it is reached (what is shared counts as often as it is met; a slice's spare places count too). A statement '..UptoSaid' is the law's where the arguments, and the package variables that the reading takes, are together of bulk at most 1048576: NARROWER than '..Said'. Prove '..Said' where nothing that the law and all that it calls make is longer than what came in: it says more and counts as full. Else prove '..UptoSaid'. A law counts once. -/
mutual
def uptoBulk {H : Type} : DataW H → Nat
  | .lit (.string bytes) => bytes.length + 1
  | .lit _ => 1
  | .nil => 1
  | .ptr d => uptoBulk d + 1
  | .slice elems spare => uptoBulkAll elems + uptoBulkAll spare + 1
  | .agg parts => uptoBulkAll parts + 1
  | .iface _ d => uptoBulk d + 1
  | .map entries => uptoBulkEntries entries + 1
  | .held _ => 1
def uptoBulkAll {H : Type} : List (DataW H) → Nat
  | [] => 0
  | d :: r => uptoBulk d + uptoBulkAll r
def uptoBulkEntries {H : Type} : List (Lit × DataW H) → Nat
  | [] => 0
  | x :: r => uptoBulkEntry x + uptoBulkEntries r
def uptoBulkEntry {H : Type} : Lit × DataW H → Nat
  | (.string bytes, d) => bytes.length + uptoBulk d + 1
  | (_, d) => uptoBulk d + 1
 end
def uptoSmall : (H : Type) → List (DataW H) → Bool := fun _ ds => decide (uptoBulkAll ds ≤ 1048576)
def OpenSpec.upto (s : _root_.Go.ChangeSpec) : _root_.Go.OpenSpec := { _root_.Go.OpenSpec.ofChange s with cond := some uptoSmall }

/-- 'caissonlaw20.AdviseChooses', WHERE WHAT IT READS IS OF BULK AT MOST 1048576: true; the input reads as it did. -/
def adviseChoosesUptoRow : OpenClaim := { program := "ytfgnmcmkjfnogaa", sum := "707f30b9d30cd2ed6d90327742cc8e70c3a7635766ec2457f5485578f3d34006", func := "caisson/caissonlaw20.AdviseChooses", spec := "adviseChooses", unfollowed := true, recurses := true, apart := false, narrowed := true }
def AdviseChoosesUptoSaid : Prop := adviseChoosesUptoRow.holds Try.pinned (OpenSpec.upto adviseChoosesSpec)

/-- 'caissonlaw20.AdviseFits', WHERE WHAT IT READS IS OF BULK AT MOST 1048576: true; the input reads as it did. -/
def adviseFitsUptoRow : OpenClaim := { program := "ytfgnmcmkjfnogaa", sum := "707f30b9d30cd2ed6d90327742cc8e70c3a7635766ec2457f5485578f3d34006", func := "caisson/caissonlaw20.AdviseFits", spec := "adviseFits", unfollowed := true, recurses := true, apart := false, narrowed := true }
def AdviseFitsUptoSaid : Prop := adviseFitsUptoRow.holds Try.pinned (OpenSpec.upto adviseFitsSpec)

/-- 'caissonlaw20.AdviseOrders', WHERE WHAT IT READS IS OF BULK AT MOST 1048576: true; the input reads as it did. -/
def adviseOrdersUptoRow : OpenClaim := { program := "ytfgnmcmkjfnogaa", sum := "707f30b9d30cd2ed6d90327742cc8e70c3a7635766ec2457f5485578f3d34006", func := "caisson/caissonlaw20.AdviseOrders", spec := "adviseOrders", unfollowed := true, recurses := true, apart := false, narrowed := true }
def AdviseOrdersUptoSaid : Prop := adviseOrdersUptoRow.holds Try.pinned (OpenSpec.upto adviseOrdersSpec)

/-- 'caissonlaw20.AdviseNothing', WHERE WHAT IT READS IS OF BULK AT MOST 1048576: true; the input reads as it did. -/
def adviseNothingUptoRow : OpenClaim := { program := "ytfgnmcmkjfnogaa", sum := "707f30b9d30cd2ed6d90327742cc8e70c3a7635766ec2457f5485578f3d34006", func := "caisson/caissonlaw20.AdviseNothing", spec := "adviseNothing", unfollowed := true, recurses := true, apart := false, narrowed := true }
def AdviseNothingUptoSaid : Prop := adviseNothingUptoRow.holds Try.pinned (OpenSpec.upto adviseNothingSpec)

/-- 'caissonlaw20.AdviseNil', WHERE WHAT IT READS IS OF BULK AT MOST 1048576: true; the input reads as it did. -/
def adviseNilUptoRow : OpenClaim := { program := "ytfgnmcmkjfnogaa", sum := "707f30b9d30cd2ed6d90327742cc8e70c3a7635766ec2457f5485578f3d34006", func := "caisson/caissonlaw20.AdviseNil", spec := "adviseNil", unfollowed := true, recurses := true, apart := false, narrowed := true }
def AdviseNilUptoSaid : Prop := adviseNilUptoRow.holds Try.pinned (OpenSpec.upto adviseNilSpec)

/-- 'caissonlaw20.AdvisePlays', WHERE WHAT IT READS IS OF BULK AT MOST 1048576: true; the input reads as it did. -/
def advisePlaysUptoRow : OpenClaim := { program := "ytfgnmcmkjfnogaa", sum := "707f30b9d30cd2ed6d90327742cc8e70c3a7635766ec2457f5485578f3d34006", func := "caisson/caissonlaw20.AdvisePlays", spec := "advisePlays", unfollowed := true, recurses := true, apart := false, narrowed := true }
def AdvisePlaysUptoSaid : Prop := advisePlaysUptoRow.holds Try.pinned (OpenSpec.upto advisePlaysSpec)

end Rows
end Go.Proofs.Ytfgnmcmkjfnogaa
