/-
  No cell of these rows narrows 'for every input' (looked for: loops, veiled, ifaces, maps, wideKeys, modest, calm, conditions, laid).
  DERIVED. THE GIVEN ROWS OF THIS SEAT. 13 by the template 'for every input the law returns true; each argument reads behind the call as it read before'; 0 by the template 'total and deterministic' (their statements: YtpeppnbalmmjmaaTotals.lean).
  GIVEN WITH THE SEED: the statements are not yours to turn. If you find one false, say at which input.
  Laid BY PROGRAM, IN A SANDBOX (cutbox-rows.mjs): the forced cells as the released guide's own fill.sh prints them over the translation 86271253113dd632… (all of the seat's roots in one cut). By AI agents, Wed Nov 11 2026. No macro, syntax, notation, axiom, sorry.
-/
import Derived.Test.YtpeppnbalmmjmaaChecked
import GoSem.Claim
import GoSem.ClaimJoined
import GoSem.ClaimMapViews
import Derived.JoinedTies
import Derived.KernelRfl
namespace Go.Proofs.Ytpeppnbalmmjmaa
/- THE CELL 'sum', in the pinned program and in every row, IS THE sha256 OF THE DUMP (.gsa) THAT YtpeppnbalmmjmaaProg.lean LOADS. Nothing in Lean hashes anything: it is a label: what it is worth is what the hold of that sum in a sandbox is worth. -/
noncomputable def Try.pinned : Pinned := { name := "ytpeppnbalmmjmaa", sum := "86271253113dd63203b802dc96bc6af63ba6c352b1139c55d4a5f5db715a7fe4", checked := Try.checked }
namespace Rows
def none {H : Type} : Left H := { results := [], args := [] }

/-- 'towncrierlaw03.LatchPlays': WHATEVER THE INPUT: true; the input reads as it did. -/
def latchPlaysSpec : ChangeSpec := { name := "latchPlays", fn := fun _ => fun
  | [d] => { results := [.lit (.bool true)], args := [d] }
  | _ => none }
def latchPlaysRow : OpenClaim := { program := "ytpeppnbalmmjmaa", sum := "86271253113dd63203b802dc96bc6af63ba6c352b1139c55d4a5f5db715a7fe4", func := "towncrier/towncrierlaw03.LatchPlays", spec := "latchPlays", inPlace := ["sync/atomic.LoadUint32", "sync/atomic.StoreUint32", "(*internal/sync.Mutex).Lock", "internal/race.Disable", "sync/atomic.CompareAndSwapInt32", "internal/race.Enable", "internal/race.Acquire", "(*internal/sync.Mutex).lockSlow", "internal/sync.runtime_canSpin", "internal/sync.runtime_doSpin", "internal/sync.throw", "internal/sync.runtime_nanotime", "internal/sync.runtime_SemacquireMutex", "sync/atomic.AddInt32", "(*internal/sync.Mutex).Unlock", "internal/race.ReleaseMerge", "(*internal/sync.Mutex).unlockSlow", "internal/sync.fatal", "internal/sync.runtime_Semrelease"], unfollowed := true, recurses := true, apart := false }
def LatchPlaysSaid : Prop := latchPlaysRow.holds Try.pinned (OpenSpec.ofChange latchPlaysSpec)

/-- ITS FALSE NEIGHBOUR: 'it returns false'. Refute it at one input. -/
def latchPlaysWrong : ChangeSpec := { name := "latchPlays", fn := fun _ => fun
  | [d] => { results := [.lit (.bool false)], args := [d] }
  | _ => none }
def LatchPlaysWrongFalsely : Prop := latchPlaysRow.holds Try.pinned (OpenSpec.ofChange latchPlaysWrong)

/-- 'towncrierlaw03.LatchNone': WHATEVER THE INPUT: true; the input reads as it did. -/
def latchNoneSpec : ChangeSpec := { name := "latchNone", fn := fun _ => fun
  | [d] => { results := [.lit (.bool true)], args := [d] }
  | _ => none }
def latchNoneRow : OpenClaim := { program := "ytpeppnbalmmjmaa", sum := "86271253113dd63203b802dc96bc6af63ba6c352b1139c55d4a5f5db715a7fe4", func := "towncrier/towncrierlaw03.LatchNone", spec := "latchNone", inPlace := ["sync/atomic.LoadUint32", "sync/atomic.StoreUint32", "(*internal/sync.Mutex).Lock", "internal/race.Disable", "sync/atomic.CompareAndSwapInt32", "internal/race.Enable", "internal/race.Acquire", "(*internal/sync.Mutex).lockSlow", "internal/sync.runtime_canSpin", "internal/sync.runtime_doSpin", "internal/sync.throw", "internal/sync.runtime_nanotime", "internal/sync.runtime_SemacquireMutex", "sync/atomic.AddInt32", "(*internal/sync.Mutex).Unlock", "internal/race.ReleaseMerge", "(*internal/sync.Mutex).unlockSlow", "internal/sync.fatal", "internal/sync.runtime_Semrelease"], unfollowed := true, recurses := true, apart := false }
def LatchNoneSaid : Prop := latchNoneRow.holds Try.pinned (OpenSpec.ofChange latchNoneSpec)

/-- ITS FALSE NEIGHBOUR: 'it returns false'. Refute it at one input. -/
def latchNoneWrong : ChangeSpec := { name := "latchNone", fn := fun _ => fun
  | [d] => { results := [.lit (.bool false)], args := [d] }
  | _ => none }
def LatchNoneWrongFalsely : Prop := latchNoneRow.holds Try.pinned (OpenSpec.ofChange latchNoneWrong)

/-- 'towncrierlaw12.ListenOrder': WHATEVER THE INPUT: true; the input reads as it did. -/
def listenOrderSpec : ChangeSpec := { name := "listenOrder", fn := fun _ => fun
  | [d] => { results := [.lit (.bool true)], args := [d] }
  | _ => none }
def listenOrderRow : OpenClaim := { program := "ytpeppnbalmmjmaa", sum := "86271253113dd63203b802dc96bc6af63ba6c352b1139c55d4a5f5db715a7fe4", func := "towncrier/towncrierlaw12.ListenOrder", spec := "listenOrder", inPlace := ["sync/atomic.LoadInt64", "sync/atomic.CompareAndSwapInt64"], unfollowed := true, recurses := true, apart := false }
def ListenOrderSaid : Prop := listenOrderRow.holds Try.pinned (OpenSpec.ofChange listenOrderSpec)

/-- ITS FALSE NEIGHBOUR: 'it returns false'. Refute it at one input. -/
def listenOrderWrong : ChangeSpec := { name := "listenOrder", fn := fun _ => fun
  | [d] => { results := [.lit (.bool false)], args := [d] }
  | _ => none }
def ListenOrderWrongFalsely : Prop := listenOrderRow.holds Try.pinned (OpenSpec.ofChange listenOrderWrong)

/-- 'towncrierlaw12.ListenPlays': WHATEVER THE INPUT: true; the input reads as it did. -/
def listenPlaysSpec : ChangeSpec := { name := "listenPlays", fn := fun _ => fun
  | [d] => { results := [.lit (.bool true)], args := [d] }
  | _ => none }
def listenPlaysRow : OpenClaim := { program := "ytpeppnbalmmjmaa", sum := "86271253113dd63203b802dc96bc6af63ba6c352b1139c55d4a5f5db715a7fe4", func := "towncrier/towncrierlaw12.ListenPlays", spec := "listenPlays", inPlace := ["sync/atomic.LoadInt64", "sync/atomic.CompareAndSwapInt64"], unfollowed := true, recurses := true, apart := false }
def ListenPlaysSaid : Prop := listenPlaysRow.holds Try.pinned (OpenSpec.ofChange listenPlaysSpec)

/-- ITS FALSE NEIGHBOUR: 'it returns false'. Refute it at one input. -/
def listenPlaysWrong : ChangeSpec := { name := "listenPlays", fn := fun _ => fun
  | [d] => { results := [.lit (.bool false)], args := [d] }
  | _ => none }
def ListenPlaysWrongFalsely : Prop := listenPlaysRow.holds Try.pinned (OpenSpec.ofChange listenPlaysWrong)

/-- 'towncrierlaw12.ListenNone': WHATEVER THE INPUT: true; the input reads as it did. -/
def listenNoneSpec : ChangeSpec := { name := "listenNone", fn := fun _ => fun
  | [d1, d2, d3] => { results := [.lit (.bool true)], args := [d1, d2, d3] }
  | _ => none }
def listenNoneRow : OpenClaim := { program := "ytpeppnbalmmjmaa", sum := "86271253113dd63203b802dc96bc6af63ba6c352b1139c55d4a5f5db715a7fe4", func := "towncrier/towncrierlaw12.ListenNone", spec := "listenNone", inPlace := ["sync/atomic.LoadInt64", "sync/atomic.CompareAndSwapInt64"], unfollowed := true, recurses := true, apart := false }
def ListenNoneSaid : Prop := listenNoneRow.holds Try.pinned (OpenSpec.ofChange listenNoneSpec)

/-- ITS FALSE NEIGHBOUR: 'it returns false'. Refute it at one input. -/
def listenNoneWrong : ChangeSpec := { name := "listenNone", fn := fun _ => fun
  | [d1, d2, d3] => { results := [.lit (.bool false)], args := [d1, d2, d3] }
  | _ => none }
def ListenNoneWrongFalsely : Prop := listenNoneRow.holds Try.pinned (OpenSpec.ofChange listenNoneWrong)

/-- 'towncrierlaw11.SignalOnce': WHATEVER THE INPUT: true; the input reads as it did. -/
def signalOnceSpec : ChangeSpec := { name := "signalOnce", fn := fun _ => fun
  | [d] => { results := [.lit (.bool true)], args := [d] }
  | _ => none }
def signalOnceRow : OpenClaim := { program := "ytpeppnbalmmjmaa", sum := "86271253113dd63203b802dc96bc6af63ba6c352b1139c55d4a5f5db715a7fe4", func := "towncrier/towncrierlaw11.SignalOnce", spec := "signalOnce", inPlace := ["sync/atomic.LoadUint32", "sync/atomic.StoreUint32", "(*internal/sync.Mutex).Lock", "internal/race.Disable", "sync/atomic.CompareAndSwapInt32", "internal/race.Enable", "internal/race.Acquire", "(*internal/sync.Mutex).lockSlow", "internal/sync.runtime_canSpin", "internal/sync.runtime_doSpin", "internal/sync.throw", "internal/sync.runtime_nanotime", "internal/sync.runtime_SemacquireMutex", "sync/atomic.AddInt32", "(*internal/sync.Mutex).Unlock", "internal/race.ReleaseMerge", "(*internal/sync.Mutex).unlockSlow", "internal/sync.fatal", "internal/sync.runtime_Semrelease"], unfollowed := true, recurses := true, apart := false }
def SignalOnceSaid : Prop := signalOnceRow.holds Try.pinned (OpenSpec.ofChange signalOnceSpec)

/-- ITS FALSE NEIGHBOUR: 'it returns false'. Refute it at one input. -/
def signalOnceWrong : ChangeSpec := { name := "signalOnce", fn := fun _ => fun
  | [d] => { results := [.lit (.bool false)], args := [d] }
  | _ => none }
def SignalOnceWrongFalsely : Prop := signalOnceRow.holds Try.pinned (OpenSpec.ofChange signalOnceWrong)

/-- 'towncrierlaw11.SignalPlays': WHATEVER THE INPUT: true; the input reads as it did. -/
def signalPlaysSpec : ChangeSpec := { name := "signalPlays", fn := fun _ => fun
  | [d] => { results := [.lit (.bool true)], args := [d] }
  | _ => none }
def signalPlaysRow : OpenClaim := { program := "ytpeppnbalmmjmaa", sum := "86271253113dd63203b802dc96bc6af63ba6c352b1139c55d4a5f5db715a7fe4", func := "towncrier/towncrierlaw11.SignalPlays", spec := "signalPlays", inPlace := ["sync/atomic.LoadUint32", "sync/atomic.StoreUint32", "(*internal/sync.Mutex).Lock", "internal/race.Disable", "sync/atomic.CompareAndSwapInt32", "internal/race.Enable", "internal/race.Acquire", "(*internal/sync.Mutex).lockSlow", "internal/sync.runtime_canSpin", "internal/sync.runtime_doSpin", "internal/sync.throw", "internal/sync.runtime_nanotime", "internal/sync.runtime_SemacquireMutex", "sync/atomic.AddInt32", "(*internal/sync.Mutex).Unlock", "internal/race.ReleaseMerge", "(*internal/sync.Mutex).unlockSlow", "internal/sync.fatal", "internal/sync.runtime_Semrelease"], unfollowed := true, recurses := true, apart := false }
def SignalPlaysSaid : Prop := signalPlaysRow.holds Try.pinned (OpenSpec.ofChange signalPlaysSpec)

/-- ITS FALSE NEIGHBOUR: 'it returns false'. Refute it at one input. -/
def signalPlaysWrong : ChangeSpec := { name := "signalPlays", fn := fun _ => fun
  | [d] => { results := [.lit (.bool false)], args := [d] }
  | _ => none }
def SignalPlaysWrongFalsely : Prop := signalPlaysRow.holds Try.pinned (OpenSpec.ofChange signalPlaysWrong)

/-- 'towncrierlaw11.SignalNone': WHATEVER THE INPUT: true; the input reads as it did. -/
def signalNoneSpec : ChangeSpec := { name := "signalNone", fn := fun _ => fun
  | [d1, d2] => { results := [.lit (.bool true)], args := [d1, d2] }
  | _ => none }
def signalNoneRow : OpenClaim := { program := "ytpeppnbalmmjmaa", sum := "86271253113dd63203b802dc96bc6af63ba6c352b1139c55d4a5f5db715a7fe4", func := "towncrier/towncrierlaw11.SignalNone", spec := "signalNone", inPlace := ["sync/atomic.LoadUint32", "sync/atomic.StoreUint32", "(*internal/sync.Mutex).Lock", "internal/race.Disable", "sync/atomic.CompareAndSwapInt32", "internal/race.Enable", "internal/race.Acquire", "(*internal/sync.Mutex).lockSlow", "internal/sync.runtime_canSpin", "internal/sync.runtime_doSpin", "internal/sync.throw", "internal/sync.runtime_nanotime", "internal/sync.runtime_SemacquireMutex", "sync/atomic.AddInt32", "(*internal/sync.Mutex).Unlock", "internal/race.ReleaseMerge", "(*internal/sync.Mutex).unlockSlow", "internal/sync.fatal", "internal/sync.runtime_Semrelease"], unfollowed := true, recurses := true, apart := false }
def SignalNoneSaid : Prop := signalNoneRow.holds Try.pinned (OpenSpec.ofChange signalNoneSpec)

/-- ITS FALSE NEIGHBOUR: 'it returns false'. Refute it at one input. -/
def signalNoneWrong : ChangeSpec := { name := "signalNone", fn := fun _ => fun
  | [d1, d2] => { results := [.lit (.bool false)], args := [d1, d2] }
  | _ => none }
def SignalNoneWrongFalsely : Prop := signalNoneRow.holds Try.pinned (OpenSpec.ofChange signalNoneWrong)

/-- 'towncrierlaw11.SignalFollows': WHATEVER THE INPUT: true; the input reads as it did. -/
def signalFollowsSpec : ChangeSpec := { name := "signalFollows", fn := fun _ => fun
  | [d] => { results := [.lit (.bool true)], args := [d] }
  | _ => none }
def signalFollowsRow : OpenClaim := { program := "ytpeppnbalmmjmaa", sum := "86271253113dd63203b802dc96bc6af63ba6c352b1139c55d4a5f5db715a7fe4", func := "towncrier/towncrierlaw11.SignalFollows", spec := "signalFollows", inPlace := ["sync/atomic.LoadUint32", "sync/atomic.StoreUint32", "(*internal/sync.Mutex).Lock", "internal/race.Disable", "sync/atomic.CompareAndSwapInt32", "internal/race.Enable", "internal/race.Acquire", "(*internal/sync.Mutex).lockSlow", "internal/sync.runtime_canSpin", "internal/sync.runtime_doSpin", "internal/sync.throw", "internal/sync.runtime_nanotime", "internal/sync.runtime_SemacquireMutex", "sync/atomic.AddInt32", "(*internal/sync.Mutex).Unlock", "internal/race.ReleaseMerge", "(*internal/sync.Mutex).unlockSlow", "internal/sync.fatal", "internal/sync.runtime_Semrelease"], unfollowed := true, recurses := true, apart := false }
def SignalFollowsSaid : Prop := signalFollowsRow.holds Try.pinned (OpenSpec.ofChange signalFollowsSpec)

/-- ITS FALSE NEIGHBOUR: 'it returns false'. Refute it at one input. -/
def signalFollowsWrong : ChangeSpec := { name := "signalFollows", fn := fun _ => fun
  | [d] => { results := [.lit (.bool false)], args := [d] }
  | _ => none }
def SignalFollowsWrongFalsely : Prop := signalFollowsRow.holds Try.pinned (OpenSpec.ofChange signalFollowsWrong)

/-- 'towncrierlaw17.InnerAfter': WHATEVER THE INPUT: true; the input reads as it did. -/
def innerAfterSpec : ChangeSpec := { name := "innerAfter", fn := fun _ => fun
  | [d1, d2] => { results := [.lit (.bool true)], args := [d1, d2] }
  | _ => none }
def innerAfterRow : OpenClaim := { program := "ytpeppnbalmmjmaa", sum := "86271253113dd63203b802dc96bc6af63ba6c352b1139c55d4a5f5db715a7fe4", func := "towncrier/towncrierlaw17.InnerAfter", spec := "innerAfter", inPlace := ["sync/atomic.LoadInt64", "sync/atomic.CompareAndSwapInt64"], unfollowed := true, recurses := true, apart := false }
def InnerAfterSaid : Prop := innerAfterRow.holds Try.pinned (OpenSpec.ofChange innerAfterSpec)

/-- ITS FALSE NEIGHBOUR: 'it returns false'. Refute it at one input. -/
def innerAfterWrong : ChangeSpec := { name := "innerAfter", fn := fun _ => fun
  | [d1, d2] => { results := [.lit (.bool false)], args := [d1, d2] }
  | _ => none }
def InnerAfterWrongFalsely : Prop := innerAfterRow.holds Try.pinned (OpenSpec.ofChange innerAfterWrong)

/-- 'towncrierlaw17.InnerLate': WHATEVER THE INPUT: true; the input reads as it did. -/
def innerLateSpec : ChangeSpec := { name := "innerLate", fn := fun _ => fun
  | [d1, d2, d3] => { results := [.lit (.bool true)], args := [d1, d2, d3] }
  | _ => none }
def innerLateRow : OpenClaim := { program := "ytpeppnbalmmjmaa", sum := "86271253113dd63203b802dc96bc6af63ba6c352b1139c55d4a5f5db715a7fe4", func := "towncrier/towncrierlaw17.InnerLate", spec := "innerLate", inPlace := ["sync/atomic.LoadInt64", "sync/atomic.CompareAndSwapInt64"], unfollowed := true, recurses := true, apart := false }
def InnerLateSaid : Prop := innerLateRow.holds Try.pinned (OpenSpec.ofChange innerLateSpec)

/-- ITS FALSE NEIGHBOUR: 'it returns false'. Refute it at one input. -/
def innerLateWrong : ChangeSpec := { name := "innerLate", fn := fun _ => fun
  | [d1, d2, d3] => { results := [.lit (.bool false)], args := [d1, d2, d3] }
  | _ => none }
def InnerLateWrongFalsely : Prop := innerLateRow.holds Try.pinned (OpenSpec.ofChange innerLateWrong)

/-- 'towncrierlaw17.InnerWould': WHATEVER THE INPUT: true; the input reads as it did. -/
def innerWouldSpec : ChangeSpec := { name := "innerWould", fn := fun _ => fun
  | [d1, d2] => { results := [.lit (.bool true)], args := [d1, d2] }
  | _ => none }
def innerWouldRow : OpenClaim := { program := "ytpeppnbalmmjmaa", sum := "86271253113dd63203b802dc96bc6af63ba6c352b1139c55d4a5f5db715a7fe4", func := "towncrier/towncrierlaw17.InnerWould", spec := "innerWould", inPlace := ["sync/atomic.LoadInt64", "sync/atomic.CompareAndSwapInt64"], unfollowed := true, recurses := true, apart := false }
def InnerWouldSaid : Prop := innerWouldRow.holds Try.pinned (OpenSpec.ofChange innerWouldSpec)

/-- ITS FALSE NEIGHBOUR: 'it returns false'. Refute it at one input. -/
def innerWouldWrong : ChangeSpec := { name := "innerWould", fn := fun _ => fun
  | [d1, d2] => { results := [.lit (.bool false)], args := [d1, d2] }
  | _ => none }
def InnerWouldWrongFalsely : Prop := innerWouldRow.holds Try.pinned (OpenSpec.ofChange innerWouldWrong)

/-- 'towncrierlaw17.InnerRuns': WHATEVER THE INPUT: true; the input reads as it did. -/
def innerRunsSpec : ChangeSpec := { name := "innerRuns", fn := fun _ => fun
  | [d1, d2, d3] => { results := [.lit (.bool true)], args := [d1, d2, d3] }
  | _ => none }
def innerRunsRow : OpenClaim := { program := "ytpeppnbalmmjmaa", sum := "86271253113dd63203b802dc96bc6af63ba6c352b1139c55d4a5f5db715a7fe4", func := "towncrier/towncrierlaw17.InnerRuns", spec := "innerRuns", inPlace := ["sync/atomic.LoadInt64", "sync/atomic.CompareAndSwapInt64"], unfollowed := true, recurses := true, apart := false }
def InnerRunsSaid : Prop := innerRunsRow.holds Try.pinned (OpenSpec.ofChange innerRunsSpec)

/-- ITS FALSE NEIGHBOUR: 'it returns false'. Refute it at one input. -/
def innerRunsWrong : ChangeSpec := { name := "innerRuns", fn := fun _ => fun
  | [d1, d2, d3] => { results := [.lit (.bool false)], args := [d1, d2, d3] }
  | _ => none }
def InnerRunsWrongFalsely : Prop := innerRunsRow.holds Try.pinned (OpenSpec.ofChange innerRunsWrong)

/- THE SECOND FORM. 'bulk': how many values and letters a reading holds, each counted each time it is reached (what is shared counts as often as it is met; a slice's spare places count too). A statement '..UptoSaid' is the law's where the arguments, and the package variables that the reading takes, are together of bulk at most 1048576: NARROWER than '..Said'. Prove '..Said' where nothing that the law and all that it calls make is longer than what came in: it says more and counts as full. Else prove '..UptoSaid'. A law counts once. -/
mutual
def uptoBulk {H : Type} : DataW H → Nat
  | .lit (.string bytes) => bytes.length + 1
  | .lit _ => 1
  | .nil => 1
  | .ptr d => uptoBulk d + 1
  | .slice elems spare => uptoBulkAll elems + uptoBulkAll spare + 1
  | .agg parts => uptoBulkAll parts + 1
  | .iface _ d => uptoBulk d + 1
  | .map entries => uptoBulkEntries entries + 1
  | .held _ => 1
def uptoBulkAll {H : Type} : List (DataW H) → Nat
  | [] => 0
  | d :: r => uptoBulk d + uptoBulkAll r
def uptoBulkEntries {H : Type} : List (Lit × DataW H) → Nat
  | [] => 0
  | x :: r => uptoBulkEntry x + uptoBulkEntries r
def uptoBulkEntry {H : Type} : Lit × DataW H → Nat
  | (.string bytes, d) => bytes.length + uptoBulk d + 1
  | (_, d) => uptoBulk d + 1
 end
def uptoSmall : (H : Type) → List (DataW H) → Bool := fun _ ds => decide (uptoBulkAll ds ≤ 1048576)
def OpenSpec.upto (s : _root_.Go.ChangeSpec) : _root_.Go.OpenSpec := { _root_.Go.OpenSpec.ofChange s with cond := some uptoSmall }

/-- 'towncrierlaw03.LatchPlays', WHERE WHAT IT READS IS OF BULK AT MOST 1048576: true; the input reads as it did. -/
def latchPlaysUptoRow : OpenClaim := { program := "ytpeppnbalmmjmaa", sum := "86271253113dd63203b802dc96bc6af63ba6c352b1139c55d4a5f5db715a7fe4", func := "towncrier/towncrierlaw03.LatchPlays", spec := "latchPlays", inPlace := ["sync/atomic.LoadUint32", "sync/atomic.StoreUint32", "(*internal/sync.Mutex).Lock", "internal/race.Disable", "sync/atomic.CompareAndSwapInt32", "internal/race.Enable", "internal/race.Acquire", "(*internal/sync.Mutex).lockSlow", "internal/sync.runtime_canSpin", "internal/sync.runtime_doSpin", "internal/sync.throw", "internal/sync.runtime_nanotime", "internal/sync.runtime_SemacquireMutex", "sync/atomic.AddInt32", "(*internal/sync.Mutex).Unlock", "internal/race.ReleaseMerge", "(*internal/sync.Mutex).unlockSlow", "internal/sync.fatal", "internal/sync.runtime_Semrelease"], unfollowed := true, recurses := true, apart := false, narrowed := true }
def LatchPlaysUptoSaid : Prop := latchPlaysUptoRow.holds Try.pinned (OpenSpec.upto latchPlaysSpec)

/-- 'towncrierlaw03.LatchNone', WHERE WHAT IT READS IS OF BULK AT MOST 1048576: true; the input reads as it did. -/
def latchNoneUptoRow : OpenClaim := { program := "ytpeppnbalmmjmaa", sum := "86271253113dd63203b802dc96bc6af63ba6c352b1139c55d4a5f5db715a7fe4", func := "towncrier/towncrierlaw03.LatchNone", spec := "latchNone", inPlace := ["sync/atomic.LoadUint32", "sync/atomic.StoreUint32", "(*internal/sync.Mutex).Lock", "internal/race.Disable", "sync/atomic.CompareAndSwapInt32", "internal/race.Enable", "internal/race.Acquire", "(*internal/sync.Mutex).lockSlow", "internal/sync.runtime_canSpin", "internal/sync.runtime_doSpin", "internal/sync.throw", "internal/sync.runtime_nanotime", "internal/sync.runtime_SemacquireMutex", "sync/atomic.AddInt32", "(*internal/sync.Mutex).Unlock", "internal/race.ReleaseMerge", "(*internal/sync.Mutex).unlockSlow", "internal/sync.fatal", "internal/sync.runtime_Semrelease"], unfollowed := true, recurses := true, apart := false, narrowed := true }
def LatchNoneUptoSaid : Prop := latchNoneUptoRow.holds Try.pinned (OpenSpec.upto latchNoneSpec)

/-- 'towncrierlaw12.ListenOrder', WHERE WHAT IT READS IS OF BULK AT MOST 1048576: true; the input reads as it did. -/
def listenOrderUptoRow : OpenClaim := { program := "ytpeppnbalmmjmaa", sum := "86271253113dd63203b802dc96bc6af63ba6c352b1139c55d4a5f5db715a7fe4", func := "towncrier/towncrierlaw12.ListenOrder", spec := "listenOrder", inPlace := ["sync/atomic.LoadInt64", "sync/atomic.CompareAndSwapInt64"], unfollowed := true, recurses := true, apart := false, narrowed := true }
def ListenOrderUptoSaid : Prop := listenOrderUptoRow.holds Try.pinned (OpenSpec.upto listenOrderSpec)

/-- 'towncrierlaw12.ListenPlays', WHERE WHAT IT READS IS OF BULK AT MOST 1048576: true; the input reads as it did. -/
def listenPlaysUptoRow : OpenClaim := { program := "ytpeppnbalmmjmaa", sum := "86271253113dd63203b802dc96bc6af63ba6c352b1139c55d4a5f5db715a7fe4", func := "towncrier/towncrierlaw12.ListenPlays", spec := "listenPlays", inPlace := ["sync/atomic.LoadInt64", "sync/atomic.CompareAndSwapInt64"], unfollowed := true, recurses := true, apart := false, narrowed := true }
def ListenPlaysUptoSaid : Prop := listenPlaysUptoRow.holds Try.pinned (OpenSpec.upto listenPlaysSpec)

/-- 'towncrierlaw12.ListenNone', WHERE WHAT IT READS IS OF BULK AT MOST 1048576: true; the input reads as it did. -/
def listenNoneUptoRow : OpenClaim := { program := "ytpeppnbalmmjmaa", sum := "86271253113dd63203b802dc96bc6af63ba6c352b1139c55d4a5f5db715a7fe4", func := "towncrier/towncrierlaw12.ListenNone", spec := "listenNone", inPlace := ["sync/atomic.LoadInt64", "sync/atomic.CompareAndSwapInt64"], unfollowed := true, recurses := true, apart := false, narrowed := true }
def ListenNoneUptoSaid : Prop := listenNoneUptoRow.holds Try.pinned (OpenSpec.upto listenNoneSpec)

/-- 'towncrierlaw11.SignalOnce', WHERE WHAT IT READS IS OF BULK AT MOST 1048576: true; the input reads as it did. -/
def signalOnceUptoRow : OpenClaim := { program := "ytpeppnbalmmjmaa", sum := "86271253113dd63203b802dc96bc6af63ba6c352b1139c55d4a5f5db715a7fe4", func := "towncrier/towncrierlaw11.SignalOnce", spec := "signalOnce", inPlace := ["sync/atomic.LoadUint32", "sync/atomic.StoreUint32", "(*internal/sync.Mutex).Lock", "internal/race.Disable", "sync/atomic.CompareAndSwapInt32", "internal/race.Enable", "internal/race.Acquire", "(*internal/sync.Mutex).lockSlow", "internal/sync.runtime_canSpin", "internal/sync.runtime_doSpin", "internal/sync.throw", "internal/sync.runtime_nanotime", "internal/sync.runtime_SemacquireMutex", "sync/atomic.AddInt32", "(*internal/sync.Mutex).Unlock", "internal/race.ReleaseMerge", "(*internal/sync.Mutex).unlockSlow", "internal/sync.fatal", "internal/sync.runtime_Semrelease"], unfollowed := true, recurses := true, apart := false, narrowed := true }
def SignalOnceUptoSaid : Prop := signalOnceUptoRow.holds Try.pinned (OpenSpec.upto signalOnceSpec)

/-- 'towncrierlaw11.SignalPlays', WHERE WHAT IT READS IS OF BULK AT MOST 1048576: true; the input reads as it did. -/
def signalPlaysUptoRow : OpenClaim := { program := "ytpeppnbalmmjmaa", sum := "86271253113dd63203b802dc96bc6af63ba6c352b1139c55d4a5f5db715a7fe4", func := "towncrier/towncrierlaw11.SignalPlays", spec := "signalPlays", inPlace := ["sync/atomic.LoadUint32", "sync/atomic.StoreUint32", "(*internal/sync.Mutex).Lock", "internal/race.Disable", "sync/atomic.CompareAndSwapInt32", "internal/race.Enable", "internal/race.Acquire", "(*internal/sync.Mutex).lockSlow", "internal/sync.runtime_canSpin", "internal/sync.runtime_doSpin", "internal/sync.throw", "internal/sync.runtime_nanotime", "internal/sync.runtime_SemacquireMutex", "sync/atomic.AddInt32", "(*internal/sync.Mutex).Unlock", "internal/race.ReleaseMerge", "(*internal/sync.Mutex).unlockSlow", "internal/sync.fatal", "internal/sync.runtime_Semrelease"], unfollowed := true, recurses := true, apart := false, narrowed := true }
def SignalPlaysUptoSaid : Prop := signalPlaysUptoRow.holds Try.pinned (OpenSpec.upto signalPlaysSpec)

/-- 'towncrierlaw11.SignalNone', WHERE WHAT IT READS IS OF BULK AT MOST 1048576: true; the input reads as it did. -/
def signalNoneUptoRow : OpenClaim := { program := "ytpeppnbalmmjmaa", sum := "86271253113dd63203b802dc96bc6af63ba6c352b1139c55d4a5f5db715a7fe4", func := "towncrier/towncrierlaw11.SignalNone", spec := "signalNone", inPlace := ["sync/atomic.LoadUint32", "sync/atomic.StoreUint32", "(*internal/sync.Mutex).Lock", "internal/race.Disable", "sync/atomic.CompareAndSwapInt32", "internal/race.Enable", "internal/race.Acquire", "(*internal/sync.Mutex).lockSlow", "internal/sync.runtime_canSpin", "internal/sync.runtime_doSpin", "internal/sync.throw", "internal/sync.runtime_nanotime", "internal/sync.runtime_SemacquireMutex", "sync/atomic.AddInt32", "(*internal/sync.Mutex).Unlock", "internal/race.ReleaseMerge", "(*internal/sync.Mutex).unlockSlow", "internal/sync.fatal", "internal/sync.runtime_Semrelease"], unfollowed := true, recurses := true, apart := false, narrowed := true }
def SignalNoneUptoSaid : Prop := signalNoneUptoRow.holds Try.pinned (OpenSpec.upto signalNoneSpec)

/-- 'towncrierlaw11.SignalFollows', WHERE WHAT IT READS IS OF BULK AT MOST 1048576: true; the input reads as it did. -/
def signalFollowsUptoRow : OpenClaim := { program := "ytpeppnbalmmjmaa", sum := "86271253113dd63203b802dc96bc6af63ba6c352b1139c55d4a5f5db715a7fe4", func := "towncrier/towncrierlaw11.SignalFollows", spec := "signalFollows", inPlace := ["sync/atomic.LoadUint32", "sync/atomic.StoreUint32", "(*internal/sync.Mutex).Lock", "internal/race.Disable", "sync/atomic.CompareAndSwapInt32", "internal/race.Enable", "internal/race.Acquire", "(*internal/sync.Mutex).lockSlow", "internal/sync.runtime_canSpin", "internal/sync.runtime_doSpin", "internal/sync.throw", "internal/sync.runtime_nanotime", "internal/sync.runtime_SemacquireMutex", "sync/atomic.AddInt32", "(*internal/sync.Mutex).Unlock", "internal/race.ReleaseMerge", "(*internal/sync.Mutex).unlockSlow", "internal/sync.fatal", "internal/sync.runtime_Semrelease"], unfollowed := true, recurses := true, apart := false, narrowed := true }
def SignalFollowsUptoSaid : Prop := signalFollowsUptoRow.holds Try.pinned (OpenSpec.upto signalFollowsSpec)

/-- 'towncrierlaw17.InnerAfter', WHERE WHAT IT READS IS OF BULK AT MOST 1048576: true; the input reads as it did. -/
def innerAfterUptoRow : OpenClaim := { program := "ytpeppnbalmmjmaa", sum := "86271253113dd63203b802dc96bc6af63ba6c352b1139c55d4a5f5db715a7fe4", func := "towncrier/towncrierlaw17.InnerAfter", spec := "innerAfter", inPlace := ["sync/atomic.LoadInt64", "sync/atomic.CompareAndSwapInt64"], unfollowed := true, recurses := true, apart := false, narrowed := true }
def InnerAfterUptoSaid : Prop := innerAfterUptoRow.holds Try.pinned (OpenSpec.upto innerAfterSpec)

/-- 'towncrierlaw17.InnerLate', WHERE WHAT IT READS IS OF BULK AT MOST 1048576: true; the input reads as it did. -/
def innerLateUptoRow : OpenClaim := { program := "ytpeppnbalmmjmaa", sum := "86271253113dd63203b802dc96bc6af63ba6c352b1139c55d4a5f5db715a7fe4", func := "towncrier/towncrierlaw17.InnerLate", spec := "innerLate", inPlace := ["sync/atomic.LoadInt64", "sync/atomic.CompareAndSwapInt64"], unfollowed := true, recurses := true, apart := false, narrowed := true }
def InnerLateUptoSaid : Prop := innerLateUptoRow.holds Try.pinned (OpenSpec.upto innerLateSpec)

/-- 'towncrierlaw17.InnerWould', WHERE WHAT IT READS IS OF BULK AT MOST 1048576: true; the input reads as it did. -/
def innerWouldUptoRow : OpenClaim := { program := "ytpeppnbalmmjmaa", sum := "86271253113dd63203b802dc96bc6af63ba6c352b1139c55d4a5f5db715a7fe4", func := "towncrier/towncrierlaw17.InnerWould", spec := "innerWould", inPlace := ["sync/atomic.LoadInt64", "sync/atomic.CompareAndSwapInt64"], unfollowed := true, recurses := true, apart := false, narrowed := true }
def InnerWouldUptoSaid : Prop := innerWouldUptoRow.holds Try.pinned (OpenSpec.upto innerWouldSpec)

/-- 'towncrierlaw17.InnerRuns', WHERE WHAT IT READS IS OF BULK AT MOST 1048576: true; the input reads as it did. -/
def innerRunsUptoRow : OpenClaim := { program := "ytpeppnbalmmjmaa", sum := "86271253113dd63203b802dc96bc6af63ba6c352b1139c55d4a5f5db715a7fe4", func := "towncrier/towncrierlaw17.InnerRuns", spec := "innerRuns", inPlace := ["sync/atomic.LoadInt64", "sync/atomic.CompareAndSwapInt64"], unfollowed := true, recurses := true, apart := false, narrowed := true }
def InnerRunsUptoSaid : Prop := innerRunsUptoRow.holds Try.pinned (OpenSpec.upto innerRunsSpec)

end Rows
end Go.Proofs.Ytpeppnbalmmjmaa
