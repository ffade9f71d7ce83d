/-
  No cell of these rows narrows 'for every input' (looked for: loops, veiled, ifaces, maps, wideKeys, modest, calm, conditions, laid).
  DERIVED. THE GIVEN ROWS OF THIS SEAT. 5 by the template 'for every input the law returns true; each argument reads behind the call as it read before'; 0 by the template 'total and deterministic' (their statements: YtiihnepfcgmghaaTotals.lean).
  GIVEN WITH THE SEED: the statements are not yours to turn. If you find one false, say at which input.
  Laid BY PROGRAM, IN A SANDBOX (cutbox-rows.mjs): the forced cells as the released guide's own fill.sh prints them over the translation 856a221a8a520620… (all of the seat's roots in one cut). By AI agents, Wed Nov 11 2026. No macro, syntax, notation, axiom, sorry.
-/
import Derived.Test.YtiihnepfcgmghaaChecked
import GoSem.Claim
import GoSem.ClaimJoined
import GoSem.ClaimMapViews
import Derived.JoinedTies
import Derived.KernelRfl
namespace Go.Proofs.Ytiihnepfcgmghaa
/- THE CELL 'sum', in the pinned program and in every row, IS THE sha256 OF THE DUMP (.gsa) THAT YtiihnepfcgmghaaProg.lean LOADS. Nothing in Lean hashes anything: it is a label: what it is worth is what the hold of that sum in a sandbox is worth. -/
noncomputable def Try.pinned : Pinned := { name := "ytiihnepfcgmghaa", sum := "856a221a8a520620f7bc75fa041c6638f2c30ed594666a8eb8bb2b6f1e594e7a", checked := Try.checked }
namespace Rows
def none {H : Type} : Left H := { results := [], args := [] }

/-- 'caissonlaw06.DictFull': WHATEVER THE INPUT: true; the input reads as it did. -/
def dictFullSpec : ChangeSpec := { name := "dictFull", fn := fun _ => fun
  | [d] => { results := [.lit (.bool true)], args := [d] }
  | _ => none }
def dictFullRow : OpenClaim := { program := "ytiihnepfcgmghaa", sum := "856a221a8a520620f7bc75fa041c6638f2c30ed594666a8eb8bb2b6f1e594e7a", func := "caisson/caissonlaw06.DictFull", spec := "dictFull", inPlace := ["sync/atomic.LoadUint32", "(*internal/sync.Mutex).Lock", "internal/race.Disable", "sync/atomic.CompareAndSwapInt32", "internal/race.Enable", "internal/race.Acquire", "(*internal/sync.Mutex).lockSlow", "internal/sync.runtime_canSpin", "internal/sync.runtime_doSpin", "internal/sync.throw", "internal/sync.runtime_nanotime", "internal/sync.runtime_SemacquireMutex", "sync/atomic.AddInt32", "(*internal/sync.Mutex).Unlock", "internal/race.ReleaseMerge", "(*internal/sync.Mutex).unlockSlow", "internal/sync.fatal", "internal/sync.runtime_Semrelease", "sync/atomic.StoreUint32"], unfollowed := true, recurses := true, apart := false }
def DictFullSaid : Prop := dictFullRow.holds Try.pinned (OpenSpec.ofChange dictFullSpec)

/-- ITS FALSE NEIGHBOUR: 'it returns false'. Refute it at one input. -/
def dictFullWrong : ChangeSpec := { name := "dictFull", fn := fun _ => fun
  | [d] => { results := [.lit (.bool false)], args := [d] }
  | _ => none }
def DictFullWrongFalsely : Prop := dictFullRow.holds Try.pinned (OpenSpec.ofChange dictFullWrong)

/-- 'caissonlaw06.DictStretches': WHATEVER THE INPUT: true; the input reads as it did. -/
def dictStretchesSpec : ChangeSpec := { name := "dictStretches", fn := fun _ => fun
  | [d1, d2] => { results := [.lit (.bool true)], args := [d1, d2] }
  | _ => none }
def dictStretchesRow : OpenClaim := { program := "ytiihnepfcgmghaa", sum := "856a221a8a520620f7bc75fa041c6638f2c30ed594666a8eb8bb2b6f1e594e7a", func := "caisson/caissonlaw06.DictStretches", spec := "dictStretches", inPlace := ["sync/atomic.LoadUint32", "(*internal/sync.Mutex).Lock", "internal/race.Disable", "sync/atomic.CompareAndSwapInt32", "internal/race.Enable", "internal/race.Acquire", "(*internal/sync.Mutex).lockSlow", "internal/sync.runtime_canSpin", "internal/sync.runtime_doSpin", "internal/sync.throw", "internal/sync.runtime_nanotime", "internal/sync.runtime_SemacquireMutex", "sync/atomic.AddInt32", "(*internal/sync.Mutex).Unlock", "internal/race.ReleaseMerge", "(*internal/sync.Mutex).unlockSlow", "internal/sync.fatal", "internal/sync.runtime_Semrelease", "sync/atomic.StoreUint32"], unfollowed := true, recurses := true, apart := false }
def DictStretchesSaid : Prop := dictStretchesRow.holds Try.pinned (OpenSpec.ofChange dictStretchesSpec)

/-- ITS FALSE NEIGHBOUR: 'it returns false'. Refute it at one input. -/
def dictStretchesWrong : ChangeSpec := { name := "dictStretches", fn := fun _ => fun
  | [d1, d2] => { results := [.lit (.bool false)], args := [d1, d2] }
  | _ => none }
def DictStretchesWrongFalsely : Prop := dictStretchesRow.holds Try.pinned (OpenSpec.ofChange dictStretchesWrong)

/-- 'caissonlaw06.DictOrder': WHATEVER THE INPUT: true; the input reads as it did. -/
def dictOrderSpec : ChangeSpec := { name := "dictOrder", fn := fun _ => fun
  | [d] => { results := [.lit (.bool true)], args := [d] }
  | _ => none }
def dictOrderRow : OpenClaim := { program := "ytiihnepfcgmghaa", sum := "856a221a8a520620f7bc75fa041c6638f2c30ed594666a8eb8bb2b6f1e594e7a", func := "caisson/caissonlaw06.DictOrder", spec := "dictOrder", inPlace := ["sync/atomic.LoadUint32", "(*internal/sync.Mutex).Lock", "internal/race.Disable", "sync/atomic.CompareAndSwapInt32", "internal/race.Enable", "internal/race.Acquire", "(*internal/sync.Mutex).lockSlow", "internal/sync.runtime_canSpin", "internal/sync.runtime_doSpin", "internal/sync.throw", "internal/sync.runtime_nanotime", "internal/sync.runtime_SemacquireMutex", "sync/atomic.AddInt32", "(*internal/sync.Mutex).Unlock", "internal/race.ReleaseMerge", "(*internal/sync.Mutex).unlockSlow", "internal/sync.fatal", "internal/sync.runtime_Semrelease", "sync/atomic.StoreUint32"], unfollowed := true, recurses := true, apart := false }
def DictOrderSaid : Prop := dictOrderRow.holds Try.pinned (OpenSpec.ofChange dictOrderSpec)

/-- ITS FALSE NEIGHBOUR: 'it returns false'. Refute it at one input. -/
def dictOrderWrong : ChangeSpec := { name := "dictOrder", fn := fun _ => fun
  | [d] => { results := [.lit (.bool false)], args := [d] }
  | _ => none }
def DictOrderWrongFalsely : Prop := dictOrderRow.holds Try.pinned (OpenSpec.ofChange dictOrderWrong)

/-- 'caissonlaw06.DictPlays': WHATEVER THE INPUT: true; the input reads as it did. -/
def dictPlaysSpec : ChangeSpec := { name := "dictPlays", fn := fun _ => fun
  | [d] => { results := [.lit (.bool true)], args := [d] }
  | _ => none }
def dictPlaysRow : OpenClaim := { program := "ytiihnepfcgmghaa", sum := "856a221a8a520620f7bc75fa041c6638f2c30ed594666a8eb8bb2b6f1e594e7a", func := "caisson/caissonlaw06.DictPlays", spec := "dictPlays", inPlace := ["sync/atomic.LoadUint32", "(*internal/sync.Mutex).Lock", "internal/race.Disable", "sync/atomic.CompareAndSwapInt32", "internal/race.Enable", "internal/race.Acquire", "(*internal/sync.Mutex).lockSlow", "internal/sync.runtime_canSpin", "internal/sync.runtime_doSpin", "internal/sync.throw", "internal/sync.runtime_nanotime", "internal/sync.runtime_SemacquireMutex", "sync/atomic.AddInt32", "(*internal/sync.Mutex).Unlock", "internal/race.ReleaseMerge", "(*internal/sync.Mutex).unlockSlow", "internal/sync.fatal", "internal/sync.runtime_Semrelease", "sync/atomic.StoreUint32", "maps.clone"], unfollowed := true, recurses := true, apart := false }
def DictPlaysSaid : Prop := dictPlaysRow.holds Try.pinned (OpenSpec.ofChange dictPlaysSpec)

/-- ITS FALSE NEIGHBOUR: 'it returns false'. Refute it at one input. -/
def dictPlaysWrong : ChangeSpec := { name := "dictPlays", fn := fun _ => fun
  | [d] => { results := [.lit (.bool false)], args := [d] }
  | _ => none }
def DictPlaysWrongFalsely : Prop := dictPlaysRow.holds Try.pinned (OpenSpec.ofChange dictPlaysWrong)

/-- 'caissonlaw06.DictNil': WHATEVER THE INPUT: true; the input reads as it did. -/
def dictNilSpec : ChangeSpec := { name := "dictNil", fn := fun _ => fun
  | [d1, d2] => { results := [.lit (.bool true)], args := [d1, d2] }
  | _ => none }
def dictNilRow : OpenClaim := { program := "ytiihnepfcgmghaa", sum := "856a221a8a520620f7bc75fa041c6638f2c30ed594666a8eb8bb2b6f1e594e7a", func := "caisson/caissonlaw06.DictNil", spec := "dictNil", inPlace := ["sync/atomic.LoadUint32", "(*internal/sync.Mutex).Lock", "internal/race.Disable", "sync/atomic.CompareAndSwapInt32", "internal/race.Enable", "internal/race.Acquire", "(*internal/sync.Mutex).lockSlow", "internal/sync.runtime_canSpin", "internal/sync.runtime_doSpin", "internal/sync.throw", "internal/sync.runtime_nanotime", "internal/sync.runtime_SemacquireMutex", "sync/atomic.AddInt32", "(*internal/sync.Mutex).Unlock", "internal/race.ReleaseMerge", "(*internal/sync.Mutex).unlockSlow", "internal/sync.fatal", "internal/sync.runtime_Semrelease", "sync/atomic.StoreUint32", "maps.clone"], unfollowed := true, recurses := true, apart := false }
def DictNilSaid : Prop := dictNilRow.holds Try.pinned (OpenSpec.ofChange dictNilSpec)

/-- ITS FALSE NEIGHBOUR: 'it returns false'. Refute it at one input. -/
def dictNilWrong : ChangeSpec := { name := "dictNil", fn := fun _ => fun
  | [d1, d2] => { results := [.lit (.bool false)], args := [d1, d2] }
  | _ => none }
def DictNilWrongFalsely : Prop := dictNilRow.holds Try.pinned (OpenSpec.ofChange dictNilWrong)

/- THE SECOND FORM. 'bulk': how many values and letters a reading holds, each counted each time it is reached (what is shared counts as often as it is met; a slice's spare places count too). A statement '..UptoSaid' is the law's where the arguments, and the package variables that the reading takes, are together of bulk at most 1048576: NARROWER than '..Said'. Prove '..Said' where nothing that the law and all that it calls make is longer than what came in: it says more and counts as full. Else prove '..UptoSaid'. A law counts once. -/
mutual
def uptoBulk {H : Type} : DataW H → Nat
  | .lit (.string bytes) => bytes.length + 1
  | .lit _ => 1
  | .nil => 1
  | .ptr d => uptoBulk d + 1
  | .slice elems spare => uptoBulkAll elems + uptoBulkAll spare + 1
  | .agg parts => uptoBulkAll parts + 1
  | .iface _ d => uptoBulk d + 1
  | .map entries => uptoBulkEntries entries + 1
  | .held _ => 1
def uptoBulkAll {H : Type} : List (DataW H) → Nat
  | [] => 0
  | d :: r => uptoBulk d + uptoBulkAll r
def uptoBulkEntries {H : Type} : List (Lit × DataW H) → Nat
  | [] => 0
  | x :: r => uptoBulkEntry x + uptoBulkEntries r
def uptoBulkEntry {H : Type} : Lit × DataW H → Nat
  | (.string bytes, d) => bytes.length + uptoBulk d + 1
  | (_, d) => uptoBulk d + 1
 end
def uptoSmall : (H : Type) → List (DataW H) → Bool := fun _ ds => decide (uptoBulkAll ds ≤ 1048576)
def OpenSpec.upto (s : _root_.Go.ChangeSpec) : _root_.Go.OpenSpec := { _root_.Go.OpenSpec.ofChange s with cond := some uptoSmall }

/-- 'caissonlaw06.DictFull', WHERE WHAT IT READS IS OF BULK AT MOST 1048576: true; the input reads as it did. -/
def dictFullUptoRow : OpenClaim := { program := "ytiihnepfcgmghaa", sum := "856a221a8a520620f7bc75fa041c6638f2c30ed594666a8eb8bb2b6f1e594e7a", func := "caisson/caissonlaw06.DictFull", spec := "dictFull", inPlace := ["sync/atomic.LoadUint32", "(*internal/sync.Mutex).Lock", "internal/race.Disable", "sync/atomic.CompareAndSwapInt32", "internal/race.Enable", "internal/race.Acquire", "(*internal/sync.Mutex).lockSlow", "internal/sync.runtime_canSpin", "internal/sync.runtime_doSpin", "internal/sync.throw", "internal/sync.runtime_nanotime", "internal/sync.runtime_SemacquireMutex", "sync/atomic.AddInt32", "(*internal/sync.Mutex).Unlock", "internal/race.ReleaseMerge", "(*internal/sync.Mutex).unlockSlow", "internal/sync.fatal", "internal/sync.runtime_Semrelease", "sync/atomic.StoreUint32"], unfollowed := true, recurses := true, apart := false, narrowed := true }
def DictFullUptoSaid : Prop := dictFullUptoRow.holds Try.pinned (OpenSpec.upto dictFullSpec)

/-- 'caissonlaw06.DictStretches', WHERE WHAT IT READS IS OF BULK AT MOST 1048576: true; the input reads as it did. -/
def dictStretchesUptoRow : OpenClaim := { program := "ytiihnepfcgmghaa", sum := "856a221a8a520620f7bc75fa041c6638f2c30ed594666a8eb8bb2b6f1e594e7a", func := "caisson/caissonlaw06.DictStretches", spec := "dictStretches", inPlace := ["sync/atomic.LoadUint32", "(*internal/sync.Mutex).Lock", "internal/race.Disable", "sync/atomic.CompareAndSwapInt32", "internal/race.Enable", "internal/race.Acquire", "(*internal/sync.Mutex).lockSlow", "internal/sync.runtime_canSpin", "internal/sync.runtime_doSpin", "internal/sync.throw", "internal/sync.runtime_nanotime", "internal/sync.runtime_SemacquireMutex", "sync/atomic.AddInt32", "(*internal/sync.Mutex).Unlock", "internal/race.ReleaseMerge", "(*internal/sync.Mutex).unlockSlow", "internal/sync.fatal", "internal/sync.runtime_Semrelease", "sync/atomic.StoreUint32"], unfollowed := true, recurses := true, apart := false, narrowed := true }
def DictStretchesUptoSaid : Prop := dictStretchesUptoRow.holds Try.pinned (OpenSpec.upto dictStretchesSpec)

/-- 'caissonlaw06.DictOrder', WHERE WHAT IT READS IS OF BULK AT MOST 1048576: true; the input reads as it did. -/
def dictOrderUptoRow : OpenClaim := { program := "ytiihnepfcgmghaa", sum := "856a221a8a520620f7bc75fa041c6638f2c30ed594666a8eb8bb2b6f1e594e7a", func := "caisson/caissonlaw06.DictOrder", spec := "dictOrder", inPlace := ["sync/atomic.LoadUint32", "(*internal/sync.Mutex).Lock", "internal/race.Disable", "sync/atomic.CompareAndSwapInt32", "internal/race.Enable", "internal/race.Acquire", "(*internal/sync.Mutex).lockSlow", "internal/sync.runtime_canSpin", "internal/sync.runtime_doSpin", "internal/sync.throw", "internal/sync.runtime_nanotime", "internal/sync.runtime_SemacquireMutex", "sync/atomic.AddInt32", "(*internal/sync.Mutex).Unlock", "internal/race.ReleaseMerge", "(*internal/sync.Mutex).unlockSlow", "internal/sync.fatal", "internal/sync.runtime_Semrelease", "sync/atomic.StoreUint32"], unfollowed := true, recurses := true, apart := false, narrowed := true }
def DictOrderUptoSaid : Prop := dictOrderUptoRow.holds Try.pinned (OpenSpec.upto dictOrderSpec)

/-- 'caissonlaw06.DictPlays', WHERE WHAT IT READS IS OF BULK AT MOST 1048576: true; the input reads as it did. -/
def dictPlaysUptoRow : OpenClaim := { program := "ytiihnepfcgmghaa", sum := "856a221a8a520620f7bc75fa041c6638f2c30ed594666a8eb8bb2b6f1e594e7a", func := "caisson/caissonlaw06.DictPlays", spec := "dictPlays", inPlace := ["sync/atomic.LoadUint32", "(*internal/sync.Mutex).Lock", "internal/race.Disable", "sync/atomic.CompareAndSwapInt32", "internal/race.Enable", "internal/race.Acquire", "(*internal/sync.Mutex).lockSlow", "internal/sync.runtime_canSpin", "internal/sync.runtime_doSpin", "internal/sync.throw", "internal/sync.runtime_nanotime", "internal/sync.runtime_SemacquireMutex", "sync/atomic.AddInt32", "(*internal/sync.Mutex).Unlock", "internal/race.ReleaseMerge", "(*internal/sync.Mutex).unlockSlow", "internal/sync.fatal", "internal/sync.runtime_Semrelease", "sync/atomic.StoreUint32", "maps.clone"], unfollowed := true, recurses := true, apart := false, narrowed := true }
def DictPlaysUptoSaid : Prop := dictPlaysUptoRow.holds Try.pinned (OpenSpec.upto dictPlaysSpec)

/-- 'caissonlaw06.DictNil', WHERE WHAT IT READS IS OF BULK AT MOST 1048576: true; the input reads as it did. -/
def dictNilUptoRow : OpenClaim := { program := "ytiihnepfcgmghaa", sum := "856a221a8a520620f7bc75fa041c6638f2c30ed594666a8eb8bb2b6f1e594e7a", func := "caisson/caissonlaw06.DictNil", spec := "dictNil", inPlace := ["sync/atomic.LoadUint32", "(*internal/sync.Mutex).Lock", "internal/race.Disable", "sync/atomic.CompareAndSwapInt32", "internal/race.Enable", "internal/race.Acquire", "(*internal/sync.Mutex).lockSlow", "internal/sync.runtime_canSpin", "internal/sync.runtime_doSpin", "internal/sync.throw", "internal/sync.runtime_nanotime", "internal/sync.runtime_SemacquireMutex", "sync/atomic.AddInt32", "(*internal/sync.Mutex).Unlock", "internal/race.ReleaseMerge", "(*internal/sync.Mutex).unlockSlow", "internal/sync.fatal", "internal/sync.runtime_Semrelease", "sync/atomic.StoreUint32", "maps.clone"], unfollowed := true, recurses := true, apart := false, narrowed := true }
def DictNilUptoSaid : Prop := dictNilUptoRow.holds Try.pinned (OpenSpec.upto dictNilSpec)

end Rows
end Go.Proofs.Ytiihnepfcgmghaa
