/-
  No cell of these rows narrows 'for every input' (looked for: loops, veiled, ifaces, maps, wideKeys, modest, calm, conditions, laid).
  DERIVED. THE GIVEN ROWS OF THIS SEAT. 5 by the template 'for every input the law returns true; each argument reads behind the call as it read before'; 0 by the template 'total and deterministic' (their statements: YtaoepimoakcdaaaGreatTotals.lean).
  GIVEN WITH THE SEED: the statements are not yours to turn. If you find one false, say at which input.
  Laid BY PROGRAM, IN A SANDBOX (cutbox-rows.mjs): the forced cells as the released guide's own fill.sh prints them over the translation 83c5507b51f0c3a9… (all of the seat's roots in one cut). By AI agents, Wed Nov 11 2026. No macro, syntax, notation, axiom, sorry.
-/
import Derived.Test.YtaoepimoakcdaaaGreatChecked
import GoSem.Claim
import GoSem.ClaimJoined
import GoSem.ClaimMapViews
import Derived.JoinedTies
import Derived.KernelRfl
namespace Go.Proofs.YtaoepimoakcdaaaGreat
/- THE CELL 'sum', in the pinned program and in every row, IS THE sha256 OF THE DUMP (.gsa) THAT YtaoepimoakcdaaaGreatProg.lean LOADS. Nothing in Lean hashes anything: it is a label: what it is worth is what the hold of that sum in a sandbox is worth. -/
noncomputable def Tryz.pinned : Pinned := { name := "ytaoepimoakcdaaagreat", sum := "83c5507b51f0c3a98a2099b0b8255e55ea649753884ab5dce0b820725c1593a0", checked := Tryz.checked }
namespace Rows
def none {H : Type} : Left H := { results := [], args := [] }

/-- 'almshouselaw21.HouseErrors': WHATEVER THE INPUT: true; the input reads as it did. -/
def houseErrorsSpec : ChangeSpec := { name := "houseErrors", fn := fun _ => fun
  | [d1, d2, d3] => { results := [.lit (.bool true)], args := [d1, d2, d3] }
  | _ => none }
def houseErrorsRow : OpenClaim := { program := "ytaoepimoakcdaaagreat", sum := "83c5507b51f0c3a98a2099b0b8255e55ea649753884ab5dce0b820725c1593a0", func := "almshouse/almshouselaw21.HouseErrors", spec := "houseErrors", inPlace := ["sync/atomic.StoreInt64", "sync/atomic.LoadUint32", "sync/atomic.AddInt64", "sync/atomic.LoadInt64", "sync/atomic.StoreUint32", "(*internal/sync.Mutex).Lock", "internal/race.Disable", "sync/atomic.CompareAndSwapInt32", "internal/race.Enable", "internal/race.Acquire", "(*internal/sync.Mutex).lockSlow", "internal/sync.runtime_canSpin", "internal/sync.runtime_doSpin", "internal/sync.throw", "internal/sync.runtime_nanotime", "internal/sync.runtime_SemacquireMutex", "sync/atomic.AddInt32", "(*internal/sync.Mutex).Unlock", "internal/race.ReleaseMerge", "(*internal/sync.Mutex).unlockSlow", "internal/sync.fatal", "internal/sync.runtime_Semrelease"], unfollowed := true, recurses := true, apart := false }
def HouseErrorsSaid : Prop := houseErrorsRow.holds Tryz.pinned (OpenSpec.ofChange houseErrorsSpec)

/-- ITS FALSE NEIGHBOUR: 'it returns false'. Refute it at one input. -/
def houseErrorsWrong : ChangeSpec := { name := "houseErrors", fn := fun _ => fun
  | [d1, d2, d3] => { results := [.lit (.bool false)], args := [d1, d2, d3] }
  | _ => none }
def HouseErrorsWrongFalsely : Prop := houseErrorsRow.holds Tryz.pinned (OpenSpec.ofChange houseErrorsWrong)

/-- 'almshouselaw21.HouseBlank': WHATEVER THE INPUT: true; the input reads as it did. -/
def houseBlankSpec : ChangeSpec := { name := "houseBlank", fn := fun _ => fun
  | [d1, d2] => { results := [.lit (.bool true)], args := [d1, d2] }
  | _ => none }
def houseBlankRow : OpenClaim := { program := "ytaoepimoakcdaaagreat", sum := "83c5507b51f0c3a98a2099b0b8255e55ea649753884ab5dce0b820725c1593a0", func := "almshouse/almshouselaw21.HouseBlank", spec := "houseBlank", inPlace := ["sync/atomic.StoreInt64", "sync/atomic.LoadUint32", "sync/atomic.AddInt64", "sync/atomic.LoadInt64", "sync/atomic.StoreUint32", "(*internal/sync.Mutex).Lock", "internal/race.Disable", "sync/atomic.CompareAndSwapInt32", "internal/race.Enable", "internal/race.Acquire", "(*internal/sync.Mutex).lockSlow", "internal/sync.runtime_canSpin", "internal/sync.runtime_doSpin", "internal/sync.throw", "internal/sync.runtime_nanotime", "internal/sync.runtime_SemacquireMutex", "sync/atomic.AddInt32", "(*internal/sync.Mutex).Unlock", "internal/race.ReleaseMerge", "(*internal/sync.Mutex).unlockSlow", "internal/sync.fatal", "internal/sync.runtime_Semrelease"], unfollowed := true, recurses := true, apart := false }
def HouseBlankSaid : Prop := houseBlankRow.holds Tryz.pinned (OpenSpec.ofChange houseBlankSpec)

/-- ITS FALSE NEIGHBOUR: 'it returns false'. Refute it at one input. -/
def houseBlankWrong : ChangeSpec := { name := "houseBlank", fn := fun _ => fun
  | [d1, d2] => { results := [.lit (.bool false)], args := [d1, d2] }
  | _ => none }
def HouseBlankWrongFalsely : Prop := houseBlankRow.holds Tryz.pinned (OpenSpec.ofChange houseBlankWrong)

/-- 'almshouselaw21.HouseNone': WHATEVER THE INPUT: true; the input reads as it did. -/
def houseNoneSpec : ChangeSpec := { name := "houseNone", fn := fun _ => fun
  | [d] => { results := [.lit (.bool true)], args := [d] }
  | _ => none }
def houseNoneRow : OpenClaim := { program := "ytaoepimoakcdaaagreat", sum := "83c5507b51f0c3a98a2099b0b8255e55ea649753884ab5dce0b820725c1593a0", func := "almshouse/almshouselaw21.HouseNone", spec := "houseNone", inPlace := ["sync/atomic.StoreInt64", "sync/atomic.LoadUint32", "sync/atomic.AddInt64", "sync/atomic.LoadInt64", "sync/atomic.StoreUint32", "(*internal/sync.Mutex).Lock", "internal/race.Disable", "sync/atomic.CompareAndSwapInt32", "internal/race.Enable", "internal/race.Acquire", "(*internal/sync.Mutex).lockSlow", "internal/sync.runtime_canSpin", "internal/sync.runtime_doSpin", "internal/sync.throw", "internal/sync.runtime_nanotime", "internal/sync.runtime_SemacquireMutex", "sync/atomic.AddInt32", "(*internal/sync.Mutex).Unlock", "internal/race.ReleaseMerge", "(*internal/sync.Mutex).unlockSlow", "internal/sync.fatal", "internal/sync.runtime_Semrelease"], unfollowed := true, recurses := true, apart := false }
def HouseNoneSaid : Prop := houseNoneRow.holds Tryz.pinned (OpenSpec.ofChange houseNoneSpec)

/-- ITS FALSE NEIGHBOUR: 'it returns false'. Refute it at one input. -/
def houseNoneWrong : ChangeSpec := { name := "houseNone", fn := fun _ => fun
  | [d] => { results := [.lit (.bool false)], args := [d] }
  | _ => none }
def HouseNoneWrongFalsely : Prop := houseNoneRow.holds Tryz.pinned (OpenSpec.ofChange houseNoneWrong)

/-- 'almshouselaw22.WardenTorn': WHATEVER THE INPUT: true; the input reads as it did. -/
def wardenTornSpec : ChangeSpec := { name := "wardenTorn", fn := fun _ => fun
  | [d1, d2, d3, d4] => { results := [.lit (.bool true)], args := [d1, d2, d3, d4] }
  | _ => none }
def wardenTornRow : OpenClaim := { program := "ytaoepimoakcdaaagreat", sum := "83c5507b51f0c3a98a2099b0b8255e55ea649753884ab5dce0b820725c1593a0", func := "almshouse/almshouselaw22.WardenTorn", spec := "wardenTorn", inPlace := ["sync/atomic.StoreInt64", "sync/atomic.LoadUint32", "(*internal/sync.Mutex).Lock", "internal/race.Disable", "sync/atomic.CompareAndSwapInt32", "internal/race.Enable", "internal/race.Acquire", "(*internal/sync.Mutex).lockSlow", "internal/sync.runtime_canSpin", "internal/sync.runtime_doSpin", "internal/sync.throw", "internal/sync.runtime_nanotime", "internal/sync.runtime_SemacquireMutex", "sync/atomic.AddInt32", "(*internal/sync.Mutex).Unlock", "internal/race.ReleaseMerge", "(*internal/sync.Mutex).unlockSlow", "internal/sync.fatal", "internal/sync.runtime_Semrelease", "sync/atomic.StoreUint32", "sync/atomic.AddInt64", "sync/atomic.LoadInt64"], unfollowed := true, recurses := true, apart := false }
def WardenTornSaid : Prop := wardenTornRow.holds Tryz.pinned (OpenSpec.ofChange wardenTornSpec)

/-- ITS FALSE NEIGHBOUR: 'it returns false'. Refute it at one input. -/
def wardenTornWrong : ChangeSpec := { name := "wardenTorn", fn := fun _ => fun
  | [d1, d2, d3, d4] => { results := [.lit (.bool false)], args := [d1, d2, d3, d4] }
  | _ => none }
def WardenTornWrongFalsely : Prop := wardenTornRow.holds Tryz.pinned (OpenSpec.ofChange wardenTornWrong)

/-- 'almshouselaw22.WardenDoes': WHATEVER THE INPUT: true; the input reads as it did. -/
def wardenDoesSpec : ChangeSpec := { name := "wardenDoes", fn := fun _ => fun
  | [d1, d2] => { results := [.lit (.bool true)], args := [d1, d2] }
  | _ => none }
def wardenDoesRow : OpenClaim := { program := "ytaoepimoakcdaaagreat", sum := "83c5507b51f0c3a98a2099b0b8255e55ea649753884ab5dce0b820725c1593a0", func := "almshouse/almshouselaw22.WardenDoes", spec := "wardenDoes", inPlace := ["sync/atomic.StoreInt64", "sync/atomic.LoadUint32", "(*internal/sync.Mutex).Lock", "internal/race.Disable", "sync/atomic.CompareAndSwapInt32", "internal/race.Enable", "internal/race.Acquire", "(*internal/sync.Mutex).lockSlow", "internal/sync.runtime_canSpin", "internal/sync.runtime_doSpin", "internal/sync.throw", "internal/sync.runtime_nanotime", "internal/sync.runtime_SemacquireMutex", "sync/atomic.AddInt32", "(*internal/sync.Mutex).Unlock", "internal/race.ReleaseMerge", "(*internal/sync.Mutex).unlockSlow", "internal/sync.fatal", "internal/sync.runtime_Semrelease", "sync/atomic.StoreUint32", "sync/atomic.AddInt64", "sync/atomic.LoadInt64"], unfollowed := true, recurses := true, apart := false }
def WardenDoesSaid : Prop := wardenDoesRow.holds Tryz.pinned (OpenSpec.ofChange wardenDoesSpec)

/-- ITS FALSE NEIGHBOUR: 'it returns false'. Refute it at one input. -/
def wardenDoesWrong : ChangeSpec := { name := "wardenDoes", fn := fun _ => fun
  | [d1, d2] => { results := [.lit (.bool false)], args := [d1, d2] }
  | _ => none }
def WardenDoesWrongFalsely : Prop := wardenDoesRow.holds Tryz.pinned (OpenSpec.ofChange wardenDoesWrong)

/- THE SECOND FORM. 'bulk': how many values and letters a reading holds, each counted each time it is reached (what is shared counts as often as it is met; a slice's spare places count too). A statement '..UptoSaid' is the law's where the arguments, and the package variables that the reading takes, are together of bulk at most 1048576: NARROWER than '..Said'. Prove '..Said' where nothing that the law and all that it calls make is longer than what came in: it says more and counts as full. Else prove '..UptoSaid'. A law counts once. -/
mutual
def uptoBulk {H : Type} : DataW H → Nat
  | .lit (.string bytes) => bytes.length + 1
  | .lit _ => 1
  | .nil => 1
  | .ptr d => uptoBulk d + 1
  | .slice elems spare => uptoBulkAll elems + uptoBulkAll spare + 1
  | .agg parts => uptoBulkAll parts + 1
  | .iface _ d => uptoBulk d + 1
  | .map entries => uptoBulkEntries entries + 1
  | .held _ => 1
def uptoBulkAll {H : Type} : List (DataW H) → Nat
  | [] => 0
  | d :: r => uptoBulk d + uptoBulkAll r
def uptoBulkEntries {H : Type} : List (Lit × DataW H) → Nat
  | [] => 0
  | x :: r => uptoBulkEntry x + uptoBulkEntries r
def uptoBulkEntry {H : Type} : Lit × DataW H → Nat
  | (.string bytes, d) => bytes.length + uptoBulk d + 1
  | (_, d) => uptoBulk d + 1
 end
def uptoSmall : (H : Type) → List (DataW H) → Bool := fun _ ds => decide (uptoBulkAll ds ≤ 1048576)
def OpenSpec.upto (s : _root_.Go.ChangeSpec) : _root_.Go.OpenSpec := { _root_.Go.OpenSpec.ofChange s with cond := some uptoSmall }

/-- 'almshouselaw21.HouseErrors', WHERE WHAT IT READS IS OF BULK AT MOST 1048576: true; the input reads as it did. -/
def houseErrorsUptoRow : OpenClaim := { program := "ytaoepimoakcdaaagreat", sum := "83c5507b51f0c3a98a2099b0b8255e55ea649753884ab5dce0b820725c1593a0", func := "almshouse/almshouselaw21.HouseErrors", spec := "houseErrors", inPlace := ["sync/atomic.StoreInt64", "sync/atomic.LoadUint32", "sync/atomic.AddInt64", "sync/atomic.LoadInt64", "sync/atomic.StoreUint32", "(*internal/sync.Mutex).Lock", "internal/race.Disable", "sync/atomic.CompareAndSwapInt32", "internal/race.Enable", "internal/race.Acquire", "(*internal/sync.Mutex).lockSlow", "internal/sync.runtime_canSpin", "internal/sync.runtime_doSpin", "internal/sync.throw", "internal/sync.runtime_nanotime", "internal/sync.runtime_SemacquireMutex", "sync/atomic.AddInt32", "(*internal/sync.Mutex).Unlock", "internal/race.ReleaseMerge", "(*internal/sync.Mutex).unlockSlow", "internal/sync.fatal", "internal/sync.runtime_Semrelease"], unfollowed := true, recurses := true, apart := false, narrowed := true }
def HouseErrorsUptoSaid : Prop := houseErrorsUptoRow.holds Tryz.pinned (OpenSpec.upto houseErrorsSpec)

/-- 'almshouselaw21.HouseBlank', WHERE WHAT IT READS IS OF BULK AT MOST 1048576: true; the input reads as it did. -/
def houseBlankUptoRow : OpenClaim := { program := "ytaoepimoakcdaaagreat", sum := "83c5507b51f0c3a98a2099b0b8255e55ea649753884ab5dce0b820725c1593a0", func := "almshouse/almshouselaw21.HouseBlank", spec := "houseBlank", inPlace := ["sync/atomic.StoreInt64", "sync/atomic.LoadUint32", "sync/atomic.AddInt64", "sync/atomic.LoadInt64", "sync/atomic.StoreUint32", "(*internal/sync.Mutex).Lock", "internal/race.Disable", "sync/atomic.CompareAndSwapInt32", "internal/race.Enable", "internal/race.Acquire", "(*internal/sync.Mutex).lockSlow", "internal/sync.runtime_canSpin", "internal/sync.runtime_doSpin", "internal/sync.throw", "internal/sync.runtime_nanotime", "internal/sync.runtime_SemacquireMutex", "sync/atomic.AddInt32", "(*internal/sync.Mutex).Unlock", "internal/race.ReleaseMerge", "(*internal/sync.Mutex).unlockSlow", "internal/sync.fatal", "internal/sync.runtime_Semrelease"], unfollowed := true, recurses := true, apart := false, narrowed := true }
def HouseBlankUptoSaid : Prop := houseBlankUptoRow.holds Tryz.pinned (OpenSpec.upto houseBlankSpec)

/-- 'almshouselaw21.HouseNone', WHERE WHAT IT READS IS OF BULK AT MOST 1048576: true; the input reads as it did. -/
def houseNoneUptoRow : OpenClaim := { program := "ytaoepimoakcdaaagreat", sum := "83c5507b51f0c3a98a2099b0b8255e55ea649753884ab5dce0b820725c1593a0", func := "almshouse/almshouselaw21.HouseNone", spec := "houseNone", inPlace := ["sync/atomic.StoreInt64", "sync/atomic.LoadUint32", "sync/atomic.AddInt64", "sync/atomic.LoadInt64", "sync/atomic.StoreUint32", "(*internal/sync.Mutex).Lock", "internal/race.Disable", "sync/atomic.CompareAndSwapInt32", "internal/race.Enable", "internal/race.Acquire", "(*internal/sync.Mutex).lockSlow", "internal/sync.runtime_canSpin", "internal/sync.runtime_doSpin", "internal/sync.throw", "internal/sync.runtime_nanotime", "internal/sync.runtime_SemacquireMutex", "sync/atomic.AddInt32", "(*internal/sync.Mutex).Unlock", "internal/race.ReleaseMerge", "(*internal/sync.Mutex).unlockSlow", "internal/sync.fatal", "internal/sync.runtime_Semrelease"], unfollowed := true, recurses := true, apart := false, narrowed := true }
def HouseNoneUptoSaid : Prop := houseNoneUptoRow.holds Tryz.pinned (OpenSpec.upto houseNoneSpec)

/-- 'almshouselaw22.WardenTorn', WHERE WHAT IT READS IS OF BULK AT MOST 1048576: true; the input reads as it did. -/
def wardenTornUptoRow : OpenClaim := { program := "ytaoepimoakcdaaagreat", sum := "83c5507b51f0c3a98a2099b0b8255e55ea649753884ab5dce0b820725c1593a0", func := "almshouse/almshouselaw22.WardenTorn", spec := "wardenTorn", inPlace := ["sync/atomic.StoreInt64", "sync/atomic.LoadUint32", "(*internal/sync.Mutex).Lock", "internal/race.Disable", "sync/atomic.CompareAndSwapInt32", "internal/race.Enable", "internal/race.Acquire", "(*internal/sync.Mutex).lockSlow", "internal/sync.runtime_canSpin", "internal/sync.runtime_doSpin", "internal/sync.throw", "internal/sync.runtime_nanotime", "internal/sync.runtime_SemacquireMutex", "sync/atomic.AddInt32", "(*internal/sync.Mutex).Unlock", "internal/race.ReleaseMerge", "(*internal/sync.Mutex).unlockSlow", "internal/sync.fatal", "internal/sync.runtime_Semrelease", "sync/atomic.StoreUint32", "sync/atomic.AddInt64", "sync/atomic.LoadInt64"], unfollowed := true, recurses := true, apart := false, narrowed := true }
def WardenTornUptoSaid : Prop := wardenTornUptoRow.holds Tryz.pinned (OpenSpec.upto wardenTornSpec)

/-- 'almshouselaw22.WardenDoes', WHERE WHAT IT READS IS OF BULK AT MOST 1048576: true; the input reads as it did. -/
def wardenDoesUptoRow : OpenClaim := { program := "ytaoepimoakcdaaagreat", sum := "83c5507b51f0c3a98a2099b0b8255e55ea649753884ab5dce0b820725c1593a0", func := "almshouse/almshouselaw22.WardenDoes", spec := "wardenDoes", inPlace := ["sync/atomic.StoreInt64", "sync/atomic.LoadUint32", "(*internal/sync.Mutex).Lock", "internal/race.Disable", "sync/atomic.CompareAndSwapInt32", "internal/race.Enable", "internal/race.Acquire", "(*internal/sync.Mutex).lockSlow", "internal/sync.runtime_canSpin", "internal/sync.runtime_doSpin", "internal/sync.throw", "internal/sync.runtime_nanotime", "internal/sync.runtime_SemacquireMutex", "sync/atomic.AddInt32", "(*internal/sync.Mutex).Unlock", "internal/race.ReleaseMerge", "(*internal/sync.Mutex).unlockSlow", "internal/sync.fatal", "internal/sync.runtime_Semrelease", "sync/atomic.StoreUint32", "sync/atomic.AddInt64", "sync/atomic.LoadInt64"], unfollowed := true, recurses := true, apart := false, narrowed := true }
def WardenDoesUptoSaid : Prop := wardenDoesUptoRow.holds Tryz.pinned (OpenSpec.upto wardenDoesSpec)

end Rows
end Go.Proofs.YtaoepimoakcdaaaGreat
