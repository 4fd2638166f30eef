/-
  No cell of these rows narrows 'for every input' (looked for: loops, veiled, ifaces, maps, wideKeys, modest, calm, conditions, laid).
  DERIVED. THE GIVEN ROWS OF THIS SEAT. 10 by the template 'for every input the law returns true; each argument reads behind the call as it read before'; 0 by the template 'total and deterministic' (their statements: YtpmeffdcbjakoaaTotals.lean).
  GIVEN WITH THE SEED: the statements are not yours to turn. If you find one false, say at which input.
  Laid BY PROGRAM, IN A SANDBOX (cutbox-rows.mjs): the forced cells as the released guide's own fill.sh prints them over the translation a52d3ec8db2067aa… (all of the seat's roots in one cut). By AI agents, Wed Nov 11 2026. No macro, syntax, notation, axiom, sorry.
-/
import Derived.Test.YtpmeffdcbjakoaaChecked
import GoSem.Claim
import GoSem.ClaimJoined
import GoSem.ClaimMapViews
import Derived.JoinedTies
import Derived.KernelRfl
namespace Go.Proofs.Ytpmeffdcbjakoaa
/- THE CELL 'sum', in the pinned program and in every row, IS THE sha256 OF THE DUMP (.gsa) THAT YtpmeffdcbjakoaaProg.lean LOADS. Nothing in Lean hashes anything: it is a label: what it is worth is what the hold of that sum in a sandbox is worth. -/
noncomputable def Try.pinned : Pinned := { name := "ytpmeffdcbjakoaa", sum := "a52d3ec8db2067aafe968288f8ab65f5415e47f739ad01f6a8a6f3eca64a99d4", checked := Try.checked }
namespace Rows
def none {H : Type} : Left H := { results := [], args := [] }

/-- 'towncrierlaw02.IdsOnce': WHATEVER THE INPUT: true; the input reads as it did. -/
def idsOnceSpec : ChangeSpec := { name := "idsOnce", fn := fun _ => fun
  | [d1, d2] => { results := [.lit (.bool true)], args := [d1, d2] }
  | _ => none }
def idsOnceRow : OpenClaim := { program := "ytpmeffdcbjakoaa", sum := "a52d3ec8db2067aafe968288f8ab65f5415e47f739ad01f6a8a6f3eca64a99d4", func := "towncrier/towncrierlaw02.IdsOnce", spec := "idsOnce", inPlace := ["sync/atomic.LoadInt64", "sync/atomic.CompareAndSwapInt64"], apart := false }
def IdsOnceSaid : Prop := idsOnceRow.holds Try.pinned (OpenSpec.ofChange idsOnceSpec)

/-- ITS FALSE NEIGHBOUR: 'it returns false'. Refute it at one input. -/
def idsOnceWrong : ChangeSpec := { name := "idsOnce", fn := fun _ => fun
  | [d1, d2] => { results := [.lit (.bool false)], args := [d1, d2] }
  | _ => none }
def IdsOnceWrongFalsely : Prop := idsOnceRow.holds Try.pinned (OpenSpec.ofChange idsOnceWrong)

/-- 'towncrierlaw02.IdsGive': WHATEVER THE INPUT: true; the input reads as it did. -/
def idsGiveSpec : ChangeSpec := { name := "idsGive", fn := fun _ => fun
  | [d1, d2, d3] => { results := [.lit (.bool true)], args := [d1, d2, d3] }
  | _ => none }
def idsGiveRow : OpenClaim := { program := "ytpmeffdcbjakoaa", sum := "a52d3ec8db2067aafe968288f8ab65f5415e47f739ad01f6a8a6f3eca64a99d4", func := "towncrier/towncrierlaw02.IdsGive", spec := "idsGive", inPlace := ["sync/atomic.LoadInt64", "sync/atomic.CompareAndSwapInt64"], apart := false }
def IdsGiveSaid : Prop := idsGiveRow.holds Try.pinned (OpenSpec.ofChange idsGiveSpec)

/-- ITS FALSE NEIGHBOUR: 'it returns false'. Refute it at one input. -/
def idsGiveWrong : ChangeSpec := { name := "idsGive", fn := fun _ => fun
  | [d1, d2, d3] => { results := [.lit (.bool false)], args := [d1, d2, d3] }
  | _ => none }
def IdsGiveWrongFalsely : Prop := idsGiveRow.holds Try.pinned (OpenSpec.ofChange idsGiveWrong)

/-- 'towncrierlaw16.WalkOrder': WHATEVER THE INPUT: true; the input reads as it did. -/
def walkOrderSpec : ChangeSpec := { name := "walkOrder", fn := fun _ => fun
  | [d1, d2] => { results := [.lit (.bool true)], args := [d1, d2] }
  | _ => none }
def walkOrderRow : OpenClaim := { program := "ytpmeffdcbjakoaa", sum := "a52d3ec8db2067aafe968288f8ab65f5415e47f739ad01f6a8a6f3eca64a99d4", func := "towncrier/towncrierlaw16.WalkOrder", spec := "walkOrder", unfollowed := true, recurses := true, apart := false }
def WalkOrderSaid : Prop := walkOrderRow.holds Try.pinned (OpenSpec.ofChange walkOrderSpec)

/-- ITS FALSE NEIGHBOUR: 'it returns false'. Refute it at one input. -/
def walkOrderWrong : ChangeSpec := { name := "walkOrder", fn := fun _ => fun
  | [d1, d2] => { results := [.lit (.bool false)], args := [d1, d2] }
  | _ => none }
def WalkOrderWrongFalsely : Prop := walkOrderRow.holds Try.pinned (OpenSpec.ofChange walkOrderWrong)

/-- 'towncrierlaw16.WalkEach': WHATEVER THE INPUT: true; the input reads as it did. -/
def walkEachSpec : ChangeSpec := { name := "walkEach", fn := fun _ => fun
  | [d1, d2, d3] => { results := [.lit (.bool true)], args := [d1, d2, d3] }
  | _ => none }
def walkEachRow : OpenClaim := { program := "ytpmeffdcbjakoaa", sum := "a52d3ec8db2067aafe968288f8ab65f5415e47f739ad01f6a8a6f3eca64a99d4", func := "towncrier/towncrierlaw16.WalkEach", spec := "walkEach", unfollowed := true, recurses := true, apart := false }
def WalkEachSaid : Prop := walkEachRow.holds Try.pinned (OpenSpec.ofChange walkEachSpec)

/-- ITS FALSE NEIGHBOUR: 'it returns false'. Refute it at one input. -/
def walkEachWrong : ChangeSpec := { name := "walkEach", fn := fun _ => fun
  | [d1, d2, d3] => { results := [.lit (.bool false)], args := [d1, d2, d3] }
  | _ => none }
def WalkEachWrongFalsely : Prop := walkEachRow.holds Try.pinned (OpenSpec.ofChange walkEachWrong)

/-- 'towncrierlaw16.WalkTurns': WHATEVER THE INPUT: true; the input reads as it did. -/
def walkTurnsSpec : ChangeSpec := { name := "walkTurns", fn := fun _ => fun
  | [d1, d2, d3, d4] => { results := [.lit (.bool true)], args := [d1, d2, d3, d4] }
  | _ => none }
def walkTurnsRow : OpenClaim := { program := "ytpmeffdcbjakoaa", sum := "a52d3ec8db2067aafe968288f8ab65f5415e47f739ad01f6a8a6f3eca64a99d4", func := "towncrier/towncrierlaw16.WalkTurns", spec := "walkTurns", unfollowed := true, recurses := true, apart := false }
def WalkTurnsSaid : Prop := walkTurnsRow.holds Try.pinned (OpenSpec.ofChange walkTurnsSpec)

/-- ITS FALSE NEIGHBOUR: 'it returns false'. Refute it at one input. -/
def walkTurnsWrong : ChangeSpec := { name := "walkTurns", fn := fun _ => fun
  | [d1, d2, d3, d4] => { results := [.lit (.bool false)], args := [d1, d2, d3, d4] }
  | _ => none }
def WalkTurnsWrongFalsely : Prop := walkTurnsRow.holds Try.pinned (OpenSpec.ofChange walkTurnsWrong)

/-- 'towncrierlaw13.EventPlays': WHATEVER THE INPUT: true; the input reads as it did. -/
def eventPlaysSpec : ChangeSpec := { name := "eventPlays", fn := fun _ => fun
  | [d1, d2, d3, d4] => { results := [.lit (.bool true)], args := [d1, d2, d3, d4] }
  | _ => none }
def eventPlaysRow : OpenClaim := { program := "ytpmeffdcbjakoaa", sum := "a52d3ec8db2067aafe968288f8ab65f5415e47f739ad01f6a8a6f3eca64a99d4", func := "towncrier/towncrierlaw13.EventPlays", spec := "eventPlays", unfollowed := true, recurses := true, apart := false }
def EventPlaysSaid : Prop := eventPlaysRow.holds Try.pinned (OpenSpec.ofChange eventPlaysSpec)

/-- ITS FALSE NEIGHBOUR: 'it returns false'. Refute it at one input. -/
def eventPlaysWrong : ChangeSpec := { name := "eventPlays", fn := fun _ => fun
  | [d1, d2, d3, d4] => { results := [.lit (.bool false)], args := [d1, d2, d3, d4] }
  | _ => none }
def EventPlaysWrongFalsely : Prop := eventPlaysRow.holds Try.pinned (OpenSpec.ofChange eventPlaysWrong)

/-- 'towncrierlaw13.EventNone': WHATEVER THE INPUT: true; the input reads as it did. -/
def eventNoneSpec : ChangeSpec := { name := "eventNone", fn := fun _ => fun
  | [d] => { results := [.lit (.bool true)], args := [d] }
  | _ => none }
def eventNoneRow : OpenClaim := { program := "ytpmeffdcbjakoaa", sum := "a52d3ec8db2067aafe968288f8ab65f5415e47f739ad01f6a8a6f3eca64a99d4", func := "towncrier/towncrierlaw13.EventNone", spec := "eventNone", unfollowed := true, recurses := true, apart := false }
def EventNoneSaid : Prop := eventNoneRow.holds Try.pinned (OpenSpec.ofChange eventNoneSpec)

/-- ITS FALSE NEIGHBOUR: 'it returns false'. Refute it at one input. -/
def eventNoneWrong : ChangeSpec := { name := "eventNone", fn := fun _ => fun
  | [d] => { results := [.lit (.bool false)], args := [d] }
  | _ => none }
def EventNoneWrongFalsely : Prop := eventNoneRow.holds Try.pinned (OpenSpec.ofChange eventNoneWrong)

/-- 'towncrierlaw15.SeePart': WHATEVER THE INPUT: true; the input reads as it did. -/
def seePartSpec : ChangeSpec := { name := "seePart", fn := fun _ => fun
  | [d1, d2] => { results := [.lit (.bool true)], args := [d1, d2] }
  | _ => none }
def seePartRow : OpenClaim := { program := "ytpmeffdcbjakoaa", sum := "a52d3ec8db2067aafe968288f8ab65f5415e47f739ad01f6a8a6f3eca64a99d4", func := "towncrier/towncrierlaw15.SeePart", spec := "seePart", unfollowed := true, recurses := true, apart := false }
def SeePartSaid : Prop := seePartRow.holds Try.pinned (OpenSpec.ofChange seePartSpec)

/-- ITS FALSE NEIGHBOUR: 'it returns false'. Refute it at one input. -/
def seePartWrong : ChangeSpec := { name := "seePart", fn := fun _ => fun
  | [d1, d2] => { results := [.lit (.bool false)], args := [d1, d2] }
  | _ => none }
def SeePartWrongFalsely : Prop := seePartRow.holds Try.pinned (OpenSpec.ofChange seePartWrong)

/-- 'towncrierlaw15.SeeTells': WHATEVER THE INPUT: true; the input reads as it did. -/
def seeTellsSpec : ChangeSpec := { name := "seeTells", fn := fun _ => fun
  | [d1, d2] => { results := [.lit (.bool true)], args := [d1, d2] }
  | _ => none }
def seeTellsRow : OpenClaim := { program := "ytpmeffdcbjakoaa", sum := "a52d3ec8db2067aafe968288f8ab65f5415e47f739ad01f6a8a6f3eca64a99d4", func := "towncrier/towncrierlaw15.SeeTells", spec := "seeTells", unfollowed := true, recurses := true, apart := false }
def SeeTellsSaid : Prop := seeTellsRow.holds Try.pinned (OpenSpec.ofChange seeTellsSpec)

/-- ITS FALSE NEIGHBOUR: 'it returns false'. Refute it at one input. -/
def seeTellsWrong : ChangeSpec := { name := "seeTells", fn := fun _ => fun
  | [d1, d2] => { results := [.lit (.bool false)], args := [d1, d2] }
  | _ => none }
def SeeTellsWrongFalsely : Prop := seeTellsRow.holds Try.pinned (OpenSpec.ofChange seeTellsWrong)

/-- 'towncrierlaw15.SeeOpen': WHATEVER THE INPUT: true; the input reads as it did. -/
def seeOpenSpec : ChangeSpec := { name := "seeOpen", fn := fun _ => fun
  | [d1, d2] => { results := [.lit (.bool true)], args := [d1, d2] }
  | _ => none }
def seeOpenRow : OpenClaim := { program := "ytpmeffdcbjakoaa", sum := "a52d3ec8db2067aafe968288f8ab65f5415e47f739ad01f6a8a6f3eca64a99d4", func := "towncrier/towncrierlaw15.SeeOpen", spec := "seeOpen", unfollowed := true, recurses := true, apart := false }
def SeeOpenSaid : Prop := seeOpenRow.holds Try.pinned (OpenSpec.ofChange seeOpenSpec)

/-- ITS FALSE NEIGHBOUR: 'it returns false'. Refute it at one input. -/
def seeOpenWrong : ChangeSpec := { name := "seeOpen", fn := fun _ => fun
  | [d1, d2] => { results := [.lit (.bool false)], args := [d1, d2] }
  | _ => none }
def SeeOpenWrongFalsely : Prop := seeOpenRow.holds Try.pinned (OpenSpec.ofChange seeOpenWrong)

/- THE SECOND FORM. 'bulk': how many values and letters a reading holds, each counted each time it is reached (what is shared counts as often as it is met; a slice's spare places count too). A statement '..UptoSaid' is the law's where the arguments, and the package variables that the reading takes, are together of bulk at most 1048576: NARROWER than '..Said'. Prove '..Said' where nothing that the law and all that it calls make is longer than what came in: it says more and counts as full. Else prove '..UptoSaid'. A law counts once. -/
mutual
def uptoBulk {H : Type} : DataW H → Nat
  | .lit (.string bytes) => bytes.length + 1
  | .lit _ => 1
  | .nil => 1
  | .ptr d => uptoBulk d + 1
  | .slice elems spare => uptoBulkAll elems + uptoBulkAll spare + 1
  | .agg parts => uptoBulkAll parts + 1
  | .iface _ d => uptoBulk d + 1
  | .map entries => uptoBulkEntries entries + 1
  | .held _ => 1
def uptoBulkAll {H : Type} : List (DataW H) → Nat
  | [] => 0
  | d :: r => uptoBulk d + uptoBulkAll r
def uptoBulkEntries {H : Type} : List (Lit × DataW H) → Nat
  | [] => 0
  | x :: r => uptoBulkEntry x + uptoBulkEntries r
def uptoBulkEntry {H : Type} : Lit × DataW H → Nat
  | (.string bytes, d) => bytes.length + uptoBulk d + 1
  | (_, d) => uptoBulk d + 1
 end
def uptoSmall : (H : Type) → List (DataW H) → Bool := fun _ ds => decide (uptoBulkAll ds ≤ 1048576)
def OpenSpec.upto (s : _root_.Go.ChangeSpec) : _root_.Go.OpenSpec := { _root_.Go.OpenSpec.ofChange s with cond := some uptoSmall }

/-- 'towncrierlaw02.IdsOnce', WHERE WHAT IT READS IS OF BULK AT MOST 1048576: true; the input reads as it did. -/
def idsOnceUptoRow : OpenClaim := { program := "ytpmeffdcbjakoaa", sum := "a52d3ec8db2067aafe968288f8ab65f5415e47f739ad01f6a8a6f3eca64a99d4", func := "towncrier/towncrierlaw02.IdsOnce", spec := "idsOnce", inPlace := ["sync/atomic.LoadInt64", "sync/atomic.CompareAndSwapInt64"], apart := false, narrowed := true }
def IdsOnceUptoSaid : Prop := idsOnceUptoRow.holds Try.pinned (OpenSpec.upto idsOnceSpec)

/-- 'towncrierlaw02.IdsGive', WHERE WHAT IT READS IS OF BULK AT MOST 1048576: true; the input reads as it did. -/
def idsGiveUptoRow : OpenClaim := { program := "ytpmeffdcbjakoaa", sum := "a52d3ec8db2067aafe968288f8ab65f5415e47f739ad01f6a8a6f3eca64a99d4", func := "towncrier/towncrierlaw02.IdsGive", spec := "idsGive", inPlace := ["sync/atomic.LoadInt64", "sync/atomic.CompareAndSwapInt64"], apart := false, narrowed := true }
def IdsGiveUptoSaid : Prop := idsGiveUptoRow.holds Try.pinned (OpenSpec.upto idsGiveSpec)

/-- 'towncrierlaw16.WalkOrder', WHERE WHAT IT READS IS OF BULK AT MOST 1048576: true; the input reads as it did. -/
def walkOrderUptoRow : OpenClaim := { program := "ytpmeffdcbjakoaa", sum := "a52d3ec8db2067aafe968288f8ab65f5415e47f739ad01f6a8a6f3eca64a99d4", func := "towncrier/towncrierlaw16.WalkOrder", spec := "walkOrder", unfollowed := true, recurses := true, apart := false, narrowed := true }
def WalkOrderUptoSaid : Prop := walkOrderUptoRow.holds Try.pinned (OpenSpec.upto walkOrderSpec)

/-- 'towncrierlaw16.WalkEach', WHERE WHAT IT READS IS OF BULK AT MOST 1048576: true; the input reads as it did. -/
def walkEachUptoRow : OpenClaim := { program := "ytpmeffdcbjakoaa", sum := "a52d3ec8db2067aafe968288f8ab65f5415e47f739ad01f6a8a6f3eca64a99d4", func := "towncrier/towncrierlaw16.WalkEach", spec := "walkEach", unfollowed := true, recurses := true, apart := false, narrowed := true }
def WalkEachUptoSaid : Prop := walkEachUptoRow.holds Try.pinned (OpenSpec.upto walkEachSpec)

/-- 'towncrierlaw16.WalkTurns', WHERE WHAT IT READS IS OF BULK AT MOST 1048576: true; the input reads as it did. -/
def walkTurnsUptoRow : OpenClaim := { program := "ytpmeffdcbjakoaa", sum := "a52d3ec8db2067aafe968288f8ab65f5415e47f739ad01f6a8a6f3eca64a99d4", func := "towncrier/towncrierlaw16.WalkTurns", spec := "walkTurns", unfollowed := true, recurses := true, apart := false, narrowed := true }
def WalkTurnsUptoSaid : Prop := walkTurnsUptoRow.holds Try.pinned (OpenSpec.upto walkTurnsSpec)

/-- 'towncrierlaw13.EventPlays', WHERE WHAT IT READS IS OF BULK AT MOST 1048576: true; the input reads as it did. -/
def eventPlaysUptoRow : OpenClaim := { program := "ytpmeffdcbjakoaa", sum := "a52d3ec8db2067aafe968288f8ab65f5415e47f739ad01f6a8a6f3eca64a99d4", func := "towncrier/towncrierlaw13.EventPlays", spec := "eventPlays", unfollowed := true, recurses := true, apart := false, narrowed := true }
def EventPlaysUptoSaid : Prop := eventPlaysUptoRow.holds Try.pinned (OpenSpec.upto eventPlaysSpec)

/-- 'towncrierlaw13.EventNone', WHERE WHAT IT READS IS OF BULK AT MOST 1048576: true; the input reads as it did. -/
def eventNoneUptoRow : OpenClaim := { program := "ytpmeffdcbjakoaa", sum := "a52d3ec8db2067aafe968288f8ab65f5415e47f739ad01f6a8a6f3eca64a99d4", func := "towncrier/towncrierlaw13.EventNone", spec := "eventNone", unfollowed := true, recurses := true, apart := false, narrowed := true }
def EventNoneUptoSaid : Prop := eventNoneUptoRow.holds Try.pinned (OpenSpec.upto eventNoneSpec)

/-- 'towncrierlaw15.SeePart', WHERE WHAT IT READS IS OF BULK AT MOST 1048576: true; the input reads as it did. -/
def seePartUptoRow : OpenClaim := { program := "ytpmeffdcbjakoaa", sum := "a52d3ec8db2067aafe968288f8ab65f5415e47f739ad01f6a8a6f3eca64a99d4", func := "towncrier/towncrierlaw15.SeePart", spec := "seePart", unfollowed := true, recurses := true, apart := false, narrowed := true }
def SeePartUptoSaid : Prop := seePartUptoRow.holds Try.pinned (OpenSpec.upto seePartSpec)

/-- 'towncrierlaw15.SeeTells', WHERE WHAT IT READS IS OF BULK AT MOST 1048576: true; the input reads as it did. -/
def seeTellsUptoRow : OpenClaim := { program := "ytpmeffdcbjakoaa", sum := "a52d3ec8db2067aafe968288f8ab65f5415e47f739ad01f6a8a6f3eca64a99d4", func := "towncrier/towncrierlaw15.SeeTells", spec := "seeTells", unfollowed := true, recurses := true, apart := false, narrowed := true }
def SeeTellsUptoSaid : Prop := seeTellsUptoRow.holds Try.pinned (OpenSpec.upto seeTellsSpec)

/-- 'towncrierlaw15.SeeOpen', WHERE WHAT IT READS IS OF BULK AT MOST 1048576: true; the input reads as it did. -/
def seeOpenUptoRow : OpenClaim := { program := "ytpmeffdcbjakoaa", sum := "a52d3ec8db2067aafe968288f8ab65f5415e47f739ad01f6a8a6f3eca64a99d4", func := "towncrier/towncrierlaw15.SeeOpen", spec := "seeOpen", unfollowed := true, recurses := true, apart := false, narrowed := true }
def SeeOpenUptoSaid : Prop := seeOpenUptoRow.holds Try.pinned (OpenSpec.upto seeOpenSpec)

end Rows
end Go.Proofs.Ytpmeffdcbjakoaa
