/-
  No cell of these rows narrows 'for every input' (looked for: loops, veiled, ifaces, maps, wideKeys, modest, calm, conditions, laid).
  DERIVED. THE GIVEN ROWS OF THIS SEAT. 29 by the template 'for every input the law returns true; each argument reads behind the call as it read before'; 0 by the template 'total and deterministic' (their statements: YtjkidecaciomgaaTotals.lean).
  GIVEN WITH THE SEED: the statements are not yours to turn. If you find one false, say at which input.
  Laid BY PROGRAM, IN A SANDBOX (cutbox-rows.mjs): the forced cells as the released guide's own fill.sh prints them over the translation 41b54d08cc94f60b… (all of the seat's roots in one cut). By AI agents, Wed Nov 11 2026. No macro, syntax, notation, axiom, sorry.
-/
import Derived.Test.YtjkidecaciomgaaChecked
import GoSem.Claim
import GoSem.ClaimJoined
import GoSem.ClaimMapViews
import Derived.JoinedTies
import Derived.KernelRfl
namespace Go.Proofs.Ytjkidecaciomgaa
/- THE CELL 'sum', in the pinned program and in every row, IS THE sha256 OF THE DUMP (.gsa) THAT YtjkidecaciomgaaProg.lean LOADS. Nothing in Lean hashes anything: it is a label: what it is worth is what the hold of that sum in a sandbox is worth. -/
noncomputable def Try.pinned : Pinned := { name := "ytjkidecaciomgaa", sum := "41b54d08cc94f60b62adb2d15871b236f87cbe529deab68583272c7a762f6e1e", checked := Try.checked }
namespace Rows
def none {H : Type} : Left H := { results := [], args := [] }

/-- 'towncrierlaw04.ArenaPlays': WHATEVER THE INPUT: true; the input reads as it did. -/
def arenaPlaysSpec : ChangeSpec := { name := "arenaPlays", fn := fun _ => fun
  | [d1, d2] => { results := [.lit (.bool true)], args := [d1, d2] }
  | _ => none }
def arenaPlaysRow : OpenClaim := { program := "ytjkidecaciomgaa", sum := "41b54d08cc94f60b62adb2d15871b236f87cbe529deab68583272c7a762f6e1e", func := "towncrier/towncrierlaw04.ArenaPlays", spec := "arenaPlays", apart := false }
def ArenaPlaysSaid : Prop := arenaPlaysRow.holds Try.pinned (OpenSpec.ofChange arenaPlaysSpec)

/-- ITS FALSE NEIGHBOUR: 'it returns false'. Refute it at one input. -/
def arenaPlaysWrong : ChangeSpec := { name := "arenaPlays", fn := fun _ => fun
  | [d1, d2] => { results := [.lit (.bool false)], args := [d1, d2] }
  | _ => none }
def ArenaPlaysWrongFalsely : Prop := arenaPlaysRow.holds Try.pinned (OpenSpec.ofChange arenaPlaysWrong)

/-- 'towncrierlaw04.ArenaTree': WHATEVER THE INPUT: true; the input reads as it did. -/
def arenaTreeSpec : ChangeSpec := { name := "arenaTree", fn := fun _ => fun
  | [d] => { results := [.lit (.bool true)], args := [d] }
  | _ => none }
def arenaTreeRow : OpenClaim := { program := "ytjkidecaciomgaa", sum := "41b54d08cc94f60b62adb2d15871b236f87cbe529deab68583272c7a762f6e1e", func := "towncrier/towncrierlaw04.ArenaTree", spec := "arenaTree", apart := false }
def ArenaTreeSaid : Prop := arenaTreeRow.holds Try.pinned (OpenSpec.ofChange arenaTreeSpec)

/-- ITS FALSE NEIGHBOUR: 'it returns false'. Refute it at one input. -/
def arenaTreeWrong : ChangeSpec := { name := "arenaTree", fn := fun _ => fun
  | [d] => { results := [.lit (.bool false)], args := [d] }
  | _ => none }
def ArenaTreeWrongFalsely : Prop := arenaTreeRow.holds Try.pinned (OpenSpec.ofChange arenaTreeWrong)

/-- 'towncrierlaw04.ArenaNone': WHATEVER THE INPUT: true; the input reads as it did. -/
def arenaNoneSpec : ChangeSpec := { name := "arenaNone", fn := fun _ => fun
  | [d1, d2] => { results := [.lit (.bool true)], args := [d1, d2] }
  | _ => none }
def arenaNoneRow : OpenClaim := { program := "ytjkidecaciomgaa", sum := "41b54d08cc94f60b62adb2d15871b236f87cbe529deab68583272c7a762f6e1e", func := "towncrier/towncrierlaw04.ArenaNone", spec := "arenaNone", apart := false }
def ArenaNoneSaid : Prop := arenaNoneRow.holds Try.pinned (OpenSpec.ofChange arenaNoneSpec)

/-- ITS FALSE NEIGHBOUR: 'it returns false'. Refute it at one input. -/
def arenaNoneWrong : ChangeSpec := { name := "arenaNone", fn := fun _ => fun
  | [d1, d2] => { results := [.lit (.bool false)], args := [d1, d2] }
  | _ => none }
def ArenaNoneWrongFalsely : Prop := arenaNoneRow.holds Try.pinned (OpenSpec.ofChange arenaNoneWrong)

/-- 'towncrierlaw05.KinOrder': WHATEVER THE INPUT: true; the input reads as it did. -/
def kinOrderSpec : ChangeSpec := { name := "kinOrder", fn := fun _ => fun
  | [d1, d2] => { results := [.lit (.bool true)], args := [d1, d2] }
  | _ => none }
def kinOrderRow : OpenClaim := { program := "ytjkidecaciomgaa", sum := "41b54d08cc94f60b62adb2d15871b236f87cbe529deab68583272c7a762f6e1e", func := "towncrier/towncrierlaw05.KinOrder", spec := "kinOrder", unfollowed := true, recurses := true, apart := false }
def KinOrderSaid : Prop := kinOrderRow.holds Try.pinned (OpenSpec.ofChange kinOrderSpec)

/-- ITS FALSE NEIGHBOUR: 'it returns false'. Refute it at one input. -/
def kinOrderWrong : ChangeSpec := { name := "kinOrder", fn := fun _ => fun
  | [d1, d2] => { results := [.lit (.bool false)], args := [d1, d2] }
  | _ => none }
def KinOrderWrongFalsely : Prop := kinOrderRow.holds Try.pinned (OpenSpec.ofChange kinOrderWrong)

/-- 'towncrierlaw05.KinPlaces': WHATEVER THE INPUT: true; the input reads as it did. -/
def kinPlacesSpec : ChangeSpec := { name := "kinPlaces", fn := fun _ => fun
  | [d1, d2] => { results := [.lit (.bool true)], args := [d1, d2] }
  | _ => none }
def kinPlacesRow : OpenClaim := { program := "ytjkidecaciomgaa", sum := "41b54d08cc94f60b62adb2d15871b236f87cbe529deab68583272c7a762f6e1e", func := "towncrier/towncrierlaw05.KinPlaces", spec := "kinPlaces", unfollowed := true, recurses := true, apart := false }
def KinPlacesSaid : Prop := kinPlacesRow.holds Try.pinned (OpenSpec.ofChange kinPlacesSpec)

/-- ITS FALSE NEIGHBOUR: 'it returns false'. Refute it at one input. -/
def kinPlacesWrong : ChangeSpec := { name := "kinPlaces", fn := fun _ => fun
  | [d1, d2] => { results := [.lit (.bool false)], args := [d1, d2] }
  | _ => none }
def KinPlacesWrongFalsely : Prop := kinPlacesRow.holds Try.pinned (OpenSpec.ofChange kinPlacesWrong)

/-- 'towncrierlaw05.KinTells': WHATEVER THE INPUT: true; the input reads as it did. -/
def kinTellsSpec : ChangeSpec := { name := "kinTells", fn := fun _ => fun
  | [d1, d2, d3, d4] => { results := [.lit (.bool true)], args := [d1, d2, d3, d4] }
  | _ => none }
def kinTellsRow : OpenClaim := { program := "ytjkidecaciomgaa", sum := "41b54d08cc94f60b62adb2d15871b236f87cbe529deab68583272c7a762f6e1e", func := "towncrier/towncrierlaw05.KinTells", spec := "kinTells", unfollowed := true, recurses := true, apart := false }
def KinTellsSaid : Prop := kinTellsRow.holds Try.pinned (OpenSpec.ofChange kinTellsSpec)

/-- ITS FALSE NEIGHBOUR: 'it returns false'. Refute it at one input. -/
def kinTellsWrong : ChangeSpec := { name := "kinTells", fn := fun _ => fun
  | [d1, d2, d3, d4] => { results := [.lit (.bool false)], args := [d1, d2, d3, d4] }
  | _ => none }
def KinTellsWrongFalsely : Prop := kinTellsRow.holds Try.pinned (OpenSpec.ofChange kinTellsWrong)

/-- 'towncrierlaw10.AimHolds': WHATEVER THE INPUT: true; the input reads as it did. -/
def aimHoldsSpec : ChangeSpec := { name := "aimHolds", fn := fun _ => fun
  | [d1, d2, d3] => { results := [.lit (.bool true)], args := [d1, d2, d3] }
  | _ => none }
def aimHoldsRow : OpenClaim := { program := "ytjkidecaciomgaa", sum := "41b54d08cc94f60b62adb2d15871b236f87cbe529deab68583272c7a762f6e1e", func := "towncrier/towncrierlaw10.AimHolds", spec := "aimHolds", apart := false }
def AimHoldsSaid : Prop := aimHoldsRow.holds Try.pinned (OpenSpec.ofChange aimHoldsSpec)

/-- ITS FALSE NEIGHBOUR: 'it returns false'. Refute it at one input. -/
def aimHoldsWrong : ChangeSpec := { name := "aimHolds", fn := fun _ => fun
  | [d1, d2, d3] => { results := [.lit (.bool false)], args := [d1, d2, d3] }
  | _ => none }
def AimHoldsWrongFalsely : Prop := aimHoldsRow.holds Try.pinned (OpenSpec.ofChange aimHoldsWrong)

/-- 'towncrierlaw10.AimTells': WHATEVER THE INPUT: true; the input reads as it did. -/
def aimTellsSpec : ChangeSpec := { name := "aimTells", fn := fun _ => fun
  | [d1, d2, d3] => { results := [.lit (.bool true)], args := [d1, d2, d3] }
  | _ => none }
def aimTellsRow : OpenClaim := { program := "ytjkidecaciomgaa", sum := "41b54d08cc94f60b62adb2d15871b236f87cbe529deab68583272c7a762f6e1e", func := "towncrier/towncrierlaw10.AimTells", spec := "aimTells", apart := false }
def AimTellsSaid : Prop := aimTellsRow.holds Try.pinned (OpenSpec.ofChange aimTellsSpec)

/-- ITS FALSE NEIGHBOUR: 'it returns false'. Refute it at one input. -/
def aimTellsWrong : ChangeSpec := { name := "aimTells", fn := fun _ => fun
  | [d1, d2, d3] => { results := [.lit (.bool false)], args := [d1, d2, d3] }
  | _ => none }
def AimTellsWrongFalsely : Prop := aimTellsRow.holds Try.pinned (OpenSpec.ofChange aimTellsWrong)

/-- 'towncrierlaw10.AimHides': WHATEVER THE INPUT: true; the input reads as it did. -/
def aimHidesSpec : ChangeSpec := { name := "aimHides", fn := fun _ => fun
  | [d1, d2, d3] => { results := [.lit (.bool true)], args := [d1, d2, d3] }
  | _ => none }
def aimHidesRow : OpenClaim := { program := "ytjkidecaciomgaa", sum := "41b54d08cc94f60b62adb2d15871b236f87cbe529deab68583272c7a762f6e1e", func := "towncrier/towncrierlaw10.AimHides", spec := "aimHides", apart := false }
def AimHidesSaid : Prop := aimHidesRow.holds Try.pinned (OpenSpec.ofChange aimHidesSpec)

/-- ITS FALSE NEIGHBOUR: 'it returns false'. Refute it at one input. -/
def aimHidesWrong : ChangeSpec := { name := "aimHides", fn := fun _ => fun
  | [d1, d2, d3] => { results := [.lit (.bool false)], args := [d1, d2, d3] }
  | _ => none }
def AimHidesWrongFalsely : Prop := aimHidesRow.holds Try.pinned (OpenSpec.ofChange aimHidesWrong)

/-- 'towncrierlaw16.WalkClears': WHATEVER THE INPUT: true; the input reads as it did. -/
def walkClearsSpec : ChangeSpec := { name := "walkClears", fn := fun _ => fun
  | [d1, d2] => { results := [.lit (.bool true)], args := [d1, d2] }
  | _ => none }
def walkClearsRow : OpenClaim := { program := "ytjkidecaciomgaa", sum := "41b54d08cc94f60b62adb2d15871b236f87cbe529deab68583272c7a762f6e1e", func := "towncrier/towncrierlaw16.WalkClears", spec := "walkClears", unfollowed := true, recurses := true, apart := false }
def WalkClearsSaid : Prop := walkClearsRow.holds Try.pinned (OpenSpec.ofChange walkClearsSpec)

/-- ITS FALSE NEIGHBOUR: 'it returns false'. Refute it at one input. -/
def walkClearsWrong : ChangeSpec := { name := "walkClears", fn := fun _ => fun
  | [d1, d2] => { results := [.lit (.bool false)], args := [d1, d2] }
  | _ => none }
def WalkClearsWrongFalsely : Prop := walkClearsRow.holds Try.pinned (OpenSpec.ofChange walkClearsWrong)

/-- 'towncrierlaw06.ValidUp': WHATEVER THE INPUT: true; the input reads as it did. -/
def validUpSpec : ChangeSpec := { name := "validUp", fn := fun _ => fun
  | [d1, d2, d3] => { results := [.lit (.bool true)], args := [d1, d2, d3] }
  | _ => none }
def validUpRow : OpenClaim := { program := "ytjkidecaciomgaa", sum := "41b54d08cc94f60b62adb2d15871b236f87cbe529deab68583272c7a762f6e1e", func := "towncrier/towncrierlaw06.ValidUp", spec := "validUp", apart := false }
def ValidUpSaid : Prop := validUpRow.holds Try.pinned (OpenSpec.ofChange validUpSpec)

/-- ITS FALSE NEIGHBOUR: 'it returns false'. Refute it at one input. -/
def validUpWrong : ChangeSpec := { name := "validUp", fn := fun _ => fun
  | [d1, d2, d3] => { results := [.lit (.bool false)], args := [d1, d2, d3] }
  | _ => none }
def ValidUpWrongFalsely : Prop := validUpRow.holds Try.pinned (OpenSpec.ofChange validUpWrong)

/-- 'towncrierlaw06.ValidTells': WHATEVER THE INPUT: true; the input reads as it did. -/
def validTellsSpec : ChangeSpec := { name := "validTells", fn := fun _ => fun
  | [d1, d2, d3, d4] => { results := [.lit (.bool true)], args := [d1, d2, d3, d4] }
  | _ => none }
def validTellsRow : OpenClaim := { program := "ytjkidecaciomgaa", sum := "41b54d08cc94f60b62adb2d15871b236f87cbe529deab68583272c7a762f6e1e", func := "towncrier/towncrierlaw06.ValidTells", spec := "validTells", apart := false }
def ValidTellsSaid : Prop := validTellsRow.holds Try.pinned (OpenSpec.ofChange validTellsSpec)

/-- ITS FALSE NEIGHBOUR: 'it returns false'. Refute it at one input. -/
def validTellsWrong : ChangeSpec := { name := "validTells", fn := fun _ => fun
  | [d1, d2, d3, d4] => { results := [.lit (.bool false)], args := [d1, d2, d3, d4] }
  | _ => none }
def ValidTellsWrongFalsely : Prop := validTellsRow.holds Try.pinned (OpenSpec.ofChange validTellsWrong)

/-- 'towncrierlaw08.ShadeAttaches': WHATEVER THE INPUT: true; the input reads as it did. -/
def shadeAttachesSpec : ChangeSpec := { name := "shadeAttaches", fn := fun _ => fun
  | [d1, d2, d3] => { results := [.lit (.bool true)], args := [d1, d2, d3] }
  | _ => none }
def shadeAttachesRow : OpenClaim := { program := "ytjkidecaciomgaa", sum := "41b54d08cc94f60b62adb2d15871b236f87cbe529deab68583272c7a762f6e1e", func := "towncrier/towncrierlaw08.ShadeAttaches", spec := "shadeAttaches", apart := false }
def ShadeAttachesSaid : Prop := shadeAttachesRow.holds Try.pinned (OpenSpec.ofChange shadeAttachesSpec)

/-- ITS FALSE NEIGHBOUR: 'it returns false'. Refute it at one input. -/
def shadeAttachesWrong : ChangeSpec := { name := "shadeAttaches", fn := fun _ => fun
  | [d1, d2, d3] => { results := [.lit (.bool false)], args := [d1, d2, d3] }
  | _ => none }
def ShadeAttachesWrongFalsely : Prop := shadeAttachesRow.holds Try.pinned (OpenSpec.ofChange shadeAttachesWrong)

/-- 'towncrierlaw08.ShadeWhole': WHATEVER THE INPUT: true; the input reads as it did. -/
def shadeWholeSpec : ChangeSpec := { name := "shadeWhole", fn := fun _ => fun
  | [d1, d2, d3, d4] => { results := [.lit (.bool true)], args := [d1, d2, d3, d4] }
  | _ => none }
def shadeWholeRow : OpenClaim := { program := "ytjkidecaciomgaa", sum := "41b54d08cc94f60b62adb2d15871b236f87cbe529deab68583272c7a762f6e1e", func := "towncrier/towncrierlaw08.ShadeWhole", spec := "shadeWhole", apart := false }
def ShadeWholeSaid : Prop := shadeWholeRow.holds Try.pinned (OpenSpec.ofChange shadeWholeSpec)

/-- ITS FALSE NEIGHBOUR: 'it returns false'. Refute it at one input. -/
def shadeWholeWrong : ChangeSpec := { name := "shadeWhole", fn := fun _ => fun
  | [d1, d2, d3, d4] => { results := [.lit (.bool false)], args := [d1, d2, d3, d4] }
  | _ => none }
def ShadeWholeWrongFalsely : Prop := shadeWholeRow.holds Try.pinned (OpenSpec.ofChange shadeWholeWrong)

/-- 'towncrierlaw08.ShadeHidden': WHATEVER THE INPUT: true; the input reads as it did. -/
def shadeHiddenSpec : ChangeSpec := { name := "shadeHidden", fn := fun _ => fun
  | [d1, d2, d3] => { results := [.lit (.bool true)], args := [d1, d2, d3] }
  | _ => none }
def shadeHiddenRow : OpenClaim := { program := "ytjkidecaciomgaa", sum := "41b54d08cc94f60b62adb2d15871b236f87cbe529deab68583272c7a762f6e1e", func := "towncrier/towncrierlaw08.ShadeHidden", spec := "shadeHidden", apart := false }
def ShadeHiddenSaid : Prop := shadeHiddenRow.holds Try.pinned (OpenSpec.ofChange shadeHiddenSpec)

/-- ITS FALSE NEIGHBOUR: 'it returns false'. Refute it at one input. -/
def shadeHiddenWrong : ChangeSpec := { name := "shadeHidden", fn := fun _ => fun
  | [d1, d2, d3] => { results := [.lit (.bool false)], args := [d1, d2, d3] }
  | _ => none }
def ShadeHiddenWrongFalsely : Prop := shadeHiddenRow.holds Try.pinned (OpenSpec.ofChange shadeHiddenWrong)

/-- 'towncrierlaw08.ShadeTells': WHATEVER THE INPUT: true; the input reads as it did. -/
def shadeTellsSpec : ChangeSpec := { name := "shadeTells", fn := fun _ => fun
  | [d1, d2, d3] => { results := [.lit (.bool true)], args := [d1, d2, d3] }
  | _ => none }
def shadeTellsRow : OpenClaim := { program := "ytjkidecaciomgaa", sum := "41b54d08cc94f60b62adb2d15871b236f87cbe529deab68583272c7a762f6e1e", func := "towncrier/towncrierlaw08.ShadeTells", spec := "shadeTells", apart := false }
def ShadeTellsSaid : Prop := shadeTellsRow.holds Try.pinned (OpenSpec.ofChange shadeTellsSpec)

/-- ITS FALSE NEIGHBOUR: 'it returns false'. Refute it at one input. -/
def shadeTellsWrong : ChangeSpec := { name := "shadeTells", fn := fun _ => fun
  | [d1, d2, d3] => { results := [.lit (.bool false)], args := [d1, d2, d3] }
  | _ => none }
def ShadeTellsWrongFalsely : Prop := shadeTellsRow.holds Try.pinned (OpenSpec.ofChange shadeTellsWrong)

/-- 'towncrierlaw09.SlotOnce': WHATEVER THE INPUT: true; the input reads as it did. -/
def slotOnceSpec : ChangeSpec := { name := "slotOnce", fn := fun _ => fun
  | [d1, d2] => { results := [.lit (.bool true)], args := [d1, d2] }
  | _ => none }
def slotOnceRow : OpenClaim := { program := "ytjkidecaciomgaa", sum := "41b54d08cc94f60b62adb2d15871b236f87cbe529deab68583272c7a762f6e1e", func := "towncrier/towncrierlaw09.SlotOnce", spec := "slotOnce", unfollowed := true, recurses := true, apart := false }
def SlotOnceSaid : Prop := slotOnceRow.holds Try.pinned (OpenSpec.ofChange slotOnceSpec)

/-- ITS FALSE NEIGHBOUR: 'it returns false'. Refute it at one input. -/
def slotOnceWrong : ChangeSpec := { name := "slotOnce", fn := fun _ => fun
  | [d1, d2] => { results := [.lit (.bool false)], args := [d1, d2] }
  | _ => none }
def SlotOnceWrongFalsely : Prop := slotOnceRow.holds Try.pinned (OpenSpec.ofChange slotOnceWrong)

/-- 'towncrierlaw09.SlotTells': WHATEVER THE INPUT: true; the input reads as it did. -/
def slotTellsSpec : ChangeSpec := { name := "slotTells", fn := fun _ => fun
  | [d1, d2] => { results := [.lit (.bool true)], args := [d1, d2] }
  | _ => none }
def slotTellsRow : OpenClaim := { program := "ytjkidecaciomgaa", sum := "41b54d08cc94f60b62adb2d15871b236f87cbe529deab68583272c7a762f6e1e", func := "towncrier/towncrierlaw09.SlotTells", spec := "slotTells", unfollowed := true, recurses := true, apart := false }
def SlotTellsSaid : Prop := slotTellsRow.holds Try.pinned (OpenSpec.ofChange slotTellsSpec)

/-- ITS FALSE NEIGHBOUR: 'it returns false'. Refute it at one input. -/
def slotTellsWrong : ChangeSpec := { name := "slotTells", fn := fun _ => fun
  | [d1, d2] => { results := [.lit (.bool false)], args := [d1, d2] }
  | _ => none }
def SlotTellsWrongFalsely : Prop := slotTellsRow.holds Try.pinned (OpenSpec.ofChange slotTellsWrong)

/-- 'towncrierlaw09.SlotFlat': WHATEVER THE INPUT: true; the input reads as it did. -/
def slotFlatSpec : ChangeSpec := { name := "slotFlat", fn := fun _ => fun
  | [d1, d2] => { results := [.lit (.bool true)], args := [d1, d2] }
  | _ => none }
def slotFlatRow : OpenClaim := { program := "ytjkidecaciomgaa", sum := "41b54d08cc94f60b62adb2d15871b236f87cbe529deab68583272c7a762f6e1e", func := "towncrier/towncrierlaw09.SlotFlat", spec := "slotFlat", unfollowed := true, recurses := true, apart := false }
def SlotFlatSaid : Prop := slotFlatRow.holds Try.pinned (OpenSpec.ofChange slotFlatSpec)

/-- ITS FALSE NEIGHBOUR: 'it returns false'. Refute it at one input. -/
def slotFlatWrong : ChangeSpec := { name := "slotFlat", fn := fun _ => fun
  | [d1, d2] => { results := [.lit (.bool false)], args := [d1, d2] }
  | _ => none }
def SlotFlatWrongFalsely : Prop := slotFlatRow.holds Try.pinned (OpenSpec.ofChange slotFlatWrong)

/-- 'towncrierlaw07.EditOrder': WHATEVER THE INPUT: true; the input reads as it did. -/
def editOrderSpec : ChangeSpec := { name := "editOrder", fn := fun _ => fun
  | [d1, d2, d3, d4] => { results := [.lit (.bool true)], args := [d1, d2, d3, d4] }
  | _ => none }
def editOrderRow : OpenClaim := { program := "ytjkidecaciomgaa", sum := "41b54d08cc94f60b62adb2d15871b236f87cbe529deab68583272c7a762f6e1e", func := "towncrier/towncrierlaw07.EditOrder", spec := "editOrder", apart := false }
def EditOrderSaid : Prop := editOrderRow.holds Try.pinned (OpenSpec.ofChange editOrderSpec)

/-- ITS FALSE NEIGHBOUR: 'it returns false'. Refute it at one input. -/
def editOrderWrong : ChangeSpec := { name := "editOrder", fn := fun _ => fun
  | [d1, d2, d3, d4] => { results := [.lit (.bool false)], args := [d1, d2, d3, d4] }
  | _ => none }
def EditOrderWrongFalsely : Prop := editOrderRow.holds Try.pinned (OpenSpec.ofChange editOrderWrong)

/-- 'towncrierlaw07.EditBack': WHATEVER THE INPUT: true; the input reads as it did. -/
def editBackSpec : ChangeSpec := { name := "editBack", fn := fun _ => fun
  | [d1, d2, d3, d4] => { results := [.lit (.bool true)], args := [d1, d2, d3, d4] }
  | _ => none }
def editBackRow : OpenClaim := { program := "ytjkidecaciomgaa", sum := "41b54d08cc94f60b62adb2d15871b236f87cbe529deab68583272c7a762f6e1e", func := "towncrier/towncrierlaw07.EditBack", spec := "editBack", apart := false }
def EditBackSaid : Prop := editBackRow.holds Try.pinned (OpenSpec.ofChange editBackSpec)

/-- ITS FALSE NEIGHBOUR: 'it returns false'. Refute it at one input. -/
def editBackWrong : ChangeSpec := { name := "editBack", fn := fun _ => fun
  | [d1, d2, d3, d4] => { results := [.lit (.bool false)], args := [d1, d2, d3, d4] }
  | _ => none }
def EditBackWrongFalsely : Prop := editBackRow.holds Try.pinned (OpenSpec.ofChange editBackWrong)

/-- 'towncrierlaw07.EditApart': WHATEVER THE INPUT: true; the input reads as it did. -/
def editApartSpec : ChangeSpec := { name := "editApart", fn := fun _ => fun
  | [d1, d2, d3, d4] => { results := [.lit (.bool true)], args := [d1, d2, d3, d4] }
  | _ => none }
def editApartRow : OpenClaim := { program := "ytjkidecaciomgaa", sum := "41b54d08cc94f60b62adb2d15871b236f87cbe529deab68583272c7a762f6e1e", func := "towncrier/towncrierlaw07.EditApart", spec := "editApart", apart := false }
def EditApartSaid : Prop := editApartRow.holds Try.pinned (OpenSpec.ofChange editApartSpec)

/-- ITS FALSE NEIGHBOUR: 'it returns false'. Refute it at one input. -/
def editApartWrong : ChangeSpec := { name := "editApart", fn := fun _ => fun
  | [d1, d2, d3, d4] => { results := [.lit (.bool false)], args := [d1, d2, d3, d4] }
  | _ => none }
def EditApartWrongFalsely : Prop := editApartRow.holds Try.pinned (OpenSpec.ofChange editApartWrong)

/-- 'towncrierlaw07.EditPlays': WHATEVER THE INPUT: true; the input reads as it did. -/
def editPlaysSpec : ChangeSpec := { name := "editPlays", fn := fun _ => fun
  | [d1, d2] => { results := [.lit (.bool true)], args := [d1, d2] }
  | _ => none }
def editPlaysRow : OpenClaim := { program := "ytjkidecaciomgaa", sum := "41b54d08cc94f60b62adb2d15871b236f87cbe529deab68583272c7a762f6e1e", func := "towncrier/towncrierlaw07.EditPlays", spec := "editPlays", apart := false }
def EditPlaysSaid : Prop := editPlaysRow.holds Try.pinned (OpenSpec.ofChange editPlaysSpec)

/-- ITS FALSE NEIGHBOUR: 'it returns false'. Refute it at one input. -/
def editPlaysWrong : ChangeSpec := { name := "editPlays", fn := fun _ => fun
  | [d1, d2] => { results := [.lit (.bool false)], args := [d1, d2] }
  | _ => none }
def EditPlaysWrongFalsely : Prop := editPlaysRow.holds Try.pinned (OpenSpec.ofChange editPlaysWrong)

/-- 'towncrierlaw14.PathTells': WHATEVER THE INPUT: true; the input reads as it did. -/
def pathTellsSpec : ChangeSpec := { name := "pathTells", fn := fun _ => fun
  | [d1, d2, d3, d4, d5] => { results := [.lit (.bool true)], args := [d1, d2, d3, d4, d5] }
  | _ => none }
def pathTellsRow : OpenClaim := { program := "ytjkidecaciomgaa", sum := "41b54d08cc94f60b62adb2d15871b236f87cbe529deab68583272c7a762f6e1e", func := "towncrier/towncrierlaw14.PathTells", spec := "pathTells", unfollowed := true, recurses := true, apart := false }
def PathTellsSaid : Prop := pathTellsRow.holds Try.pinned (OpenSpec.ofChange pathTellsSpec)

/-- ITS FALSE NEIGHBOUR: 'it returns false'. Refute it at one input. -/
def pathTellsWrong : ChangeSpec := { name := "pathTells", fn := fun _ => fun
  | [d1, d2, d3, d4, d5] => { results := [.lit (.bool false)], args := [d1, d2, d3, d4, d5] }
  | _ => none }
def PathTellsWrongFalsely : Prop := pathTellsRow.holds Try.pinned (OpenSpec.ofChange pathTellsWrong)

/-- 'towncrierlaw14.PathUp': WHATEVER THE INPUT: true; the input reads as it did. -/
def pathUpSpec : ChangeSpec := { name := "pathUp", fn := fun _ => fun
  | [d1, d2, d3, d4] => { results := [.lit (.bool true)], args := [d1, d2, d3, d4] }
  | _ => none }
def pathUpRow : OpenClaim := { program := "ytjkidecaciomgaa", sum := "41b54d08cc94f60b62adb2d15871b236f87cbe529deab68583272c7a762f6e1e", func := "towncrier/towncrierlaw14.PathUp", spec := "pathUp", unfollowed := true, recurses := true, apart := false }
def PathUpSaid : Prop := pathUpRow.holds Try.pinned (OpenSpec.ofChange pathUpSpec)

/-- ITS FALSE NEIGHBOUR: 'it returns false'. Refute it at one input. -/
def pathUpWrong : ChangeSpec := { name := "pathUp", fn := fun _ => fun
  | [d1, d2, d3, d4] => { results := [.lit (.bool false)], args := [d1, d2, d3, d4] }
  | _ => none }
def PathUpWrongFalsely : Prop := pathUpRow.holds Try.pinned (OpenSpec.ofChange pathUpWrong)

/-- 'towncrierlaw14.PathEnds': WHATEVER THE INPUT: true; the input reads as it did. -/
def pathEndsSpec : ChangeSpec := { name := "pathEnds", fn := fun _ => fun
  | [d1, d2, d3, d4] => { results := [.lit (.bool true)], args := [d1, d2, d3, d4] }
  | _ => none }
def pathEndsRow : OpenClaim := { program := "ytjkidecaciomgaa", sum := "41b54d08cc94f60b62adb2d15871b236f87cbe529deab68583272c7a762f6e1e", func := "towncrier/towncrierlaw14.PathEnds", spec := "pathEnds", unfollowed := true, recurses := true, apart := false }
def PathEndsSaid : Prop := pathEndsRow.holds Try.pinned (OpenSpec.ofChange pathEndsSpec)

/-- ITS FALSE NEIGHBOUR: 'it returns false'. Refute it at one input. -/
def pathEndsWrong : ChangeSpec := { name := "pathEnds", fn := fun _ => fun
  | [d1, d2, d3, d4] => { results := [.lit (.bool false)], args := [d1, d2, d3, d4] }
  | _ => none }
def PathEndsWrongFalsely : Prop := pathEndsRow.holds Try.pinned (OpenSpec.ofChange pathEndsWrong)

/-- 'towncrierlaw14.PathHides': WHATEVER THE INPUT: true; the input reads as it did. -/
def pathHidesSpec : ChangeSpec := { name := "pathHides", fn := fun _ => fun
  | [d1, d2, d3, d4] => { results := [.lit (.bool true)], args := [d1, d2, d3, d4] }
  | _ => none }
def pathHidesRow : OpenClaim := { program := "ytjkidecaciomgaa", sum := "41b54d08cc94f60b62adb2d15871b236f87cbe529deab68583272c7a762f6e1e", func := "towncrier/towncrierlaw14.PathHides", spec := "pathHides", unfollowed := true, recurses := true, apart := false }
def PathHidesSaid : Prop := pathHidesRow.holds Try.pinned (OpenSpec.ofChange pathHidesSpec)

/-- ITS FALSE NEIGHBOUR: 'it returns false'. Refute it at one input. -/
def pathHidesWrong : ChangeSpec := { name := "pathHides", fn := fun _ => fun
  | [d1, d2, d3, d4] => { results := [.lit (.bool false)], args := [d1, d2, d3, d4] }
  | _ => none }
def PathHidesWrongFalsely : Prop := pathHidesRow.holds Try.pinned (OpenSpec.ofChange pathHidesWrong)

/-- 'towncrierlaw15.SeeHides': WHATEVER THE INPUT: true; the input reads as it did. -/
def seeHidesSpec : ChangeSpec := { name := "seeHides", fn := fun _ => fun
  | [d1, d2, d3, d4] => { results := [.lit (.bool true)], args := [d1, d2, d3, d4] }
  | _ => none }
def seeHidesRow : OpenClaim := { program := "ytjkidecaciomgaa", sum := "41b54d08cc94f60b62adb2d15871b236f87cbe529deab68583272c7a762f6e1e", func := "towncrier/towncrierlaw15.SeeHides", spec := "seeHides", unfollowed := true, recurses := true, apart := false }
def SeeHidesSaid : Prop := seeHidesRow.holds Try.pinned (OpenSpec.ofChange seeHidesSpec)

/-- ITS FALSE NEIGHBOUR: 'it returns false'. Refute it at one input. -/
def seeHidesWrong : ChangeSpec := { name := "seeHides", fn := fun _ => fun
  | [d1, d2, d3, d4] => { results := [.lit (.bool false)], args := [d1, d2, d3, d4] }
  | _ => none }
def SeeHidesWrongFalsely : Prop := seeHidesRow.holds Try.pinned (OpenSpec.ofChange seeHidesWrong)

/-- 'towncrierlaw15.SeeNested': WHATEVER THE INPUT: true; the input reads as it did. -/
def seeNestedSpec : ChangeSpec := { name := "seeNested", fn := fun _ => fun
  | [d1, d2, d3] => { results := [.lit (.bool true)], args := [d1, d2, d3] }
  | _ => none }
def seeNestedRow : OpenClaim := { program := "ytjkidecaciomgaa", sum := "41b54d08cc94f60b62adb2d15871b236f87cbe529deab68583272c7a762f6e1e", func := "towncrier/towncrierlaw15.SeeNested", spec := "seeNested", unfollowed := true, recurses := true, apart := false }
def SeeNestedSaid : Prop := seeNestedRow.holds Try.pinned (OpenSpec.ofChange seeNestedSpec)

/-- ITS FALSE NEIGHBOUR: 'it returns false'. Refute it at one input. -/
def seeNestedWrong : ChangeSpec := { name := "seeNested", fn := fun _ => fun
  | [d1, d2, d3] => { results := [.lit (.bool false)], args := [d1, d2, d3] }
  | _ => none }
def SeeNestedWrongFalsely : Prop := seeNestedRow.holds Try.pinned (OpenSpec.ofChange seeNestedWrong)

/- THE SECOND FORM. 'bulk': how many values and letters a reading holds, each counted each time it is reached (what is shared counts as often as it is met; a slice's spare places count too). A statement '..UptoSaid' is the law's where the arguments, and the package variables that the reading takes, are together of bulk at most 1048576: NARROWER than '..Said'. Prove '..Said' where nothing that the law and all that it calls make is longer than what came in: it says more and counts as full. Else prove '..UptoSaid'. A law counts once. -/
mutual
def uptoBulk {H : Type} : DataW H → Nat
  | .lit (.string bytes) => bytes.length + 1
  | .lit _ => 1
  | .nil => 1
  | .ptr d => uptoBulk d + 1
  | .slice elems spare => uptoBulkAll elems + uptoBulkAll spare + 1
  | .agg parts => uptoBulkAll parts + 1
  | .iface _ d => uptoBulk d + 1
  | .map entries => uptoBulkEntries entries + 1
  | .held _ => 1
def uptoBulkAll {H : Type} : List (DataW H) → Nat
  | [] => 0
  | d :: r => uptoBulk d + uptoBulkAll r
def uptoBulkEntries {H : Type} : List (Lit × DataW H) → Nat
  | [] => 0
  | x :: r => uptoBulkEntry x + uptoBulkEntries r
def uptoBulkEntry {H : Type} : Lit × DataW H → Nat
  | (.string bytes, d) => bytes.length + uptoBulk d + 1
  | (_, d) => uptoBulk d + 1
 end
def uptoSmall : (H : Type) → List (DataW H) → Bool := fun _ ds => decide (uptoBulkAll ds ≤ 1048576)
def OpenSpec.upto (s : _root_.Go.ChangeSpec) : _root_.Go.OpenSpec := { _root_.Go.OpenSpec.ofChange s with cond := some uptoSmall }

/-- 'towncrierlaw04.ArenaPlays', WHERE WHAT IT READS IS OF BULK AT MOST 1048576: true; the input reads as it did. -/
def arenaPlaysUptoRow : OpenClaim := { program := "ytjkidecaciomgaa", sum := "41b54d08cc94f60b62adb2d15871b236f87cbe529deab68583272c7a762f6e1e", func := "towncrier/towncrierlaw04.ArenaPlays", spec := "arenaPlays", apart := false, narrowed := true }
def ArenaPlaysUptoSaid : Prop := arenaPlaysUptoRow.holds Try.pinned (OpenSpec.upto arenaPlaysSpec)

/-- 'towncrierlaw04.ArenaTree', WHERE WHAT IT READS IS OF BULK AT MOST 1048576: true; the input reads as it did. -/
def arenaTreeUptoRow : OpenClaim := { program := "ytjkidecaciomgaa", sum := "41b54d08cc94f60b62adb2d15871b236f87cbe529deab68583272c7a762f6e1e", func := "towncrier/towncrierlaw04.ArenaTree", spec := "arenaTree", apart := false, narrowed := true }
def ArenaTreeUptoSaid : Prop := arenaTreeUptoRow.holds Try.pinned (OpenSpec.upto arenaTreeSpec)

/-- 'towncrierlaw04.ArenaNone', WHERE WHAT IT READS IS OF BULK AT MOST 1048576: true; the input reads as it did. -/
def arenaNoneUptoRow : OpenClaim := { program := "ytjkidecaciomgaa", sum := "41b54d08cc94f60b62adb2d15871b236f87cbe529deab68583272c7a762f6e1e", func := "towncrier/towncrierlaw04.ArenaNone", spec := "arenaNone", apart := false, narrowed := true }
def ArenaNoneUptoSaid : Prop := arenaNoneUptoRow.holds Try.pinned (OpenSpec.upto arenaNoneSpec)

/-- 'towncrierlaw05.KinOrder', WHERE WHAT IT READS IS OF BULK AT MOST 1048576: true; the input reads as it did. -/
def kinOrderUptoRow : OpenClaim := { program := "ytjkidecaciomgaa", sum := "41b54d08cc94f60b62adb2d15871b236f87cbe529deab68583272c7a762f6e1e", func := "towncrier/towncrierlaw05.KinOrder", spec := "kinOrder", unfollowed := true, recurses := true, apart := false, narrowed := true }
def KinOrderUptoSaid : Prop := kinOrderUptoRow.holds Try.pinned (OpenSpec.upto kinOrderSpec)

/-- 'towncrierlaw05.KinPlaces', WHERE WHAT IT READS IS OF BULK AT MOST 1048576: true; the input reads as it did. -/
def kinPlacesUptoRow : OpenClaim := { program := "ytjkidecaciomgaa", sum := "41b54d08cc94f60b62adb2d15871b236f87cbe529deab68583272c7a762f6e1e", func := "towncrier/towncrierlaw05.KinPlaces", spec := "kinPlaces", unfollowed := true, recurses := true, apart := false, narrowed := true }
def KinPlacesUptoSaid : Prop := kinPlacesUptoRow.holds Try.pinned (OpenSpec.upto kinPlacesSpec)

/-- 'towncrierlaw05.KinTells', WHERE WHAT IT READS IS OF BULK AT MOST 1048576: true; the input reads as it did. -/
def kinTellsUptoRow : OpenClaim := { program := "ytjkidecaciomgaa", sum := "41b54d08cc94f60b62adb2d15871b236f87cbe529deab68583272c7a762f6e1e", func := "towncrier/towncrierlaw05.KinTells", spec := "kinTells", unfollowed := true, recurses := true, apart := false, narrowed := true }
def KinTellsUptoSaid : Prop := kinTellsUptoRow.holds Try.pinned (OpenSpec.upto kinTellsSpec)

/-- 'towncrierlaw10.AimHolds', WHERE WHAT IT READS IS OF BULK AT MOST 1048576: true; the input reads as it did. -/
def aimHoldsUptoRow : OpenClaim := { program := "ytjkidecaciomgaa", sum := "41b54d08cc94f60b62adb2d15871b236f87cbe529deab68583272c7a762f6e1e", func := "towncrier/towncrierlaw10.AimHolds", spec := "aimHolds", apart := false, narrowed := true }
def AimHoldsUptoSaid : Prop := aimHoldsUptoRow.holds Try.pinned (OpenSpec.upto aimHoldsSpec)

/-- 'towncrierlaw10.AimTells', WHERE WHAT IT READS IS OF BULK AT MOST 1048576: true; the input reads as it did. -/
def aimTellsUptoRow : OpenClaim := { program := "ytjkidecaciomgaa", sum := "41b54d08cc94f60b62adb2d15871b236f87cbe529deab68583272c7a762f6e1e", func := "towncrier/towncrierlaw10.AimTells", spec := "aimTells", apart := false, narrowed := true }
def AimTellsUptoSaid : Prop := aimTellsUptoRow.holds Try.pinned (OpenSpec.upto aimTellsSpec)

/-- 'towncrierlaw10.AimHides', WHERE WHAT IT READS IS OF BULK AT MOST 1048576: true; the input reads as it did. -/
def aimHidesUptoRow : OpenClaim := { program := "ytjkidecaciomgaa", sum := "41b54d08cc94f60b62adb2d15871b236f87cbe529deab68583272c7a762f6e1e", func := "towncrier/towncrierlaw10.AimHides", spec := "aimHides", apart := false, narrowed := true }
def AimHidesUptoSaid : Prop := aimHidesUptoRow.holds Try.pinned (OpenSpec.upto aimHidesSpec)

/-- 'towncrierlaw16.WalkClears', WHERE WHAT IT READS IS OF BULK AT MOST 1048576: true; the input reads as it did. -/
def walkClearsUptoRow : OpenClaim := { program := "ytjkidecaciomgaa", sum := "41b54d08cc94f60b62adb2d15871b236f87cbe529deab68583272c7a762f6e1e", func := "towncrier/towncrierlaw16.WalkClears", spec := "walkClears", unfollowed := true, recurses := true, apart := false, narrowed := true }
def WalkClearsUptoSaid : Prop := walkClearsUptoRow.holds Try.pinned (OpenSpec.upto walkClearsSpec)

/-- 'towncrierlaw06.ValidUp', WHERE WHAT IT READS IS OF BULK AT MOST 1048576: true; the input reads as it did. -/
def validUpUptoRow : OpenClaim := { program := "ytjkidecaciomgaa", sum := "41b54d08cc94f60b62adb2d15871b236f87cbe529deab68583272c7a762f6e1e", func := "towncrier/towncrierlaw06.ValidUp", spec := "validUp", apart := false, narrowed := true }
def ValidUpUptoSaid : Prop := validUpUptoRow.holds Try.pinned (OpenSpec.upto validUpSpec)

/-- 'towncrierlaw06.ValidTells', WHERE WHAT IT READS IS OF BULK AT MOST 1048576: true; the input reads as it did. -/
def validTellsUptoRow : OpenClaim := { program := "ytjkidecaciomgaa", sum := "41b54d08cc94f60b62adb2d15871b236f87cbe529deab68583272c7a762f6e1e", func := "towncrier/towncrierlaw06.ValidTells", spec := "validTells", apart := false, narrowed := true }
def ValidTellsUptoSaid : Prop := validTellsUptoRow.holds Try.pinned (OpenSpec.upto validTellsSpec)

/-- 'towncrierlaw08.ShadeAttaches', WHERE WHAT IT READS IS OF BULK AT MOST 1048576: true; the input reads as it did. -/
def shadeAttachesUptoRow : OpenClaim := { program := "ytjkidecaciomgaa", sum := "41b54d08cc94f60b62adb2d15871b236f87cbe529deab68583272c7a762f6e1e", func := "towncrier/towncrierlaw08.ShadeAttaches", spec := "shadeAttaches", apart := false, narrowed := true }
def ShadeAttachesUptoSaid : Prop := shadeAttachesUptoRow.holds Try.pinned (OpenSpec.upto shadeAttachesSpec)

/-- 'towncrierlaw08.ShadeWhole', WHERE WHAT IT READS IS OF BULK AT MOST 1048576: true; the input reads as it did. -/
def shadeWholeUptoRow : OpenClaim := { program := "ytjkidecaciomgaa", sum := "41b54d08cc94f60b62adb2d15871b236f87cbe529deab68583272c7a762f6e1e", func := "towncrier/towncrierlaw08.ShadeWhole", spec := "shadeWhole", apart := false, narrowed := true }
def ShadeWholeUptoSaid : Prop := shadeWholeUptoRow.holds Try.pinned (OpenSpec.upto shadeWholeSpec)

/-- 'towncrierlaw08.ShadeHidden', WHERE WHAT IT READS IS OF BULK AT MOST 1048576: true; the input reads as it did. -/
def shadeHiddenUptoRow : OpenClaim := { program := "ytjkidecaciomgaa", sum := "41b54d08cc94f60b62adb2d15871b236f87cbe529deab68583272c7a762f6e1e", func := "towncrier/towncrierlaw08.ShadeHidden", spec := "shadeHidden", apart := false, narrowed := true }
def ShadeHiddenUptoSaid : Prop := shadeHiddenUptoRow.holds Try.pinned (OpenSpec.upto shadeHiddenSpec)

/-- 'towncrierlaw08.ShadeTells', WHERE WHAT IT READS IS OF BULK AT MOST 1048576: true; the input reads as it did. -/
def shadeTellsUptoRow : OpenClaim := { program := "ytjkidecaciomgaa", sum := "41b54d08cc94f60b62adb2d15871b236f87cbe529deab68583272c7a762f6e1e", func := "towncrier/towncrierlaw08.ShadeTells", spec := "shadeTells", apart := false, narrowed := true }
def ShadeTellsUptoSaid : Prop := shadeTellsUptoRow.holds Try.pinned (OpenSpec.upto shadeTellsSpec)

/-- 'towncrierlaw09.SlotOnce', WHERE WHAT IT READS IS OF BULK AT MOST 1048576: true; the input reads as it did. -/
def slotOnceUptoRow : OpenClaim := { program := "ytjkidecaciomgaa", sum := "41b54d08cc94f60b62adb2d15871b236f87cbe529deab68583272c7a762f6e1e", func := "towncrier/towncrierlaw09.SlotOnce", spec := "slotOnce", unfollowed := true, recurses := true, apart := false, narrowed := true }
def SlotOnceUptoSaid : Prop := slotOnceUptoRow.holds Try.pinned (OpenSpec.upto slotOnceSpec)

/-- 'towncrierlaw09.SlotTells', WHERE WHAT IT READS IS OF BULK AT MOST 1048576: true; the input reads as it did. -/
def slotTellsUptoRow : OpenClaim := { program := "ytjkidecaciomgaa", sum := "41b54d08cc94f60b62adb2d15871b236f87cbe529deab68583272c7a762f6e1e", func := "towncrier/towncrierlaw09.SlotTells", spec := "slotTells", unfollowed := true, recurses := true, apart := false, narrowed := true }
def SlotTellsUptoSaid : Prop := slotTellsUptoRow.holds Try.pinned (OpenSpec.upto slotTellsSpec)

/-- 'towncrierlaw09.SlotFlat', WHERE WHAT IT READS IS OF BULK AT MOST 1048576: true; the input reads as it did. -/
def slotFlatUptoRow : OpenClaim := { program := "ytjkidecaciomgaa", sum := "41b54d08cc94f60b62adb2d15871b236f87cbe529deab68583272c7a762f6e1e", func := "towncrier/towncrierlaw09.SlotFlat", spec := "slotFlat", unfollowed := true, recurses := true, apart := false, narrowed := true }
def SlotFlatUptoSaid : Prop := slotFlatUptoRow.holds Try.pinned (OpenSpec.upto slotFlatSpec)

/-- 'towncrierlaw07.EditOrder', WHERE WHAT IT READS IS OF BULK AT MOST 1048576: true; the input reads as it did. -/
def editOrderUptoRow : OpenClaim := { program := "ytjkidecaciomgaa", sum := "41b54d08cc94f60b62adb2d15871b236f87cbe529deab68583272c7a762f6e1e", func := "towncrier/towncrierlaw07.EditOrder", spec := "editOrder", apart := false, narrowed := true }
def EditOrderUptoSaid : Prop := editOrderUptoRow.holds Try.pinned (OpenSpec.upto editOrderSpec)

/-- 'towncrierlaw07.EditBack', WHERE WHAT IT READS IS OF BULK AT MOST 1048576: true; the input reads as it did. -/
def editBackUptoRow : OpenClaim := { program := "ytjkidecaciomgaa", sum := "41b54d08cc94f60b62adb2d15871b236f87cbe529deab68583272c7a762f6e1e", func := "towncrier/towncrierlaw07.EditBack", spec := "editBack", apart := false, narrowed := true }
def EditBackUptoSaid : Prop := editBackUptoRow.holds Try.pinned (OpenSpec.upto editBackSpec)

/-- 'towncrierlaw07.EditApart', WHERE WHAT IT READS IS OF BULK AT MOST 1048576: true; the input reads as it did. -/
def editApartUptoRow : OpenClaim := { program := "ytjkidecaciomgaa", sum := "41b54d08cc94f60b62adb2d15871b236f87cbe529deab68583272c7a762f6e1e", func := "towncrier/towncrierlaw07.EditApart", spec := "editApart", apart := false, narrowed := true }
def EditApartUptoSaid : Prop := editApartUptoRow.holds Try.pinned (OpenSpec.upto editApartSpec)

/-- 'towncrierlaw07.EditPlays', WHERE WHAT IT READS IS OF BULK AT MOST 1048576: true; the input reads as it did. -/
def editPlaysUptoRow : OpenClaim := { program := "ytjkidecaciomgaa", sum := "41b54d08cc94f60b62adb2d15871b236f87cbe529deab68583272c7a762f6e1e", func := "towncrier/towncrierlaw07.EditPlays", spec := "editPlays", apart := false, narrowed := true }
def EditPlaysUptoSaid : Prop := editPlaysUptoRow.holds Try.pinned (OpenSpec.upto editPlaysSpec)

/-- 'towncrierlaw14.PathTells', WHERE WHAT IT READS IS OF BULK AT MOST 1048576: true; the input reads as it did. -/
def pathTellsUptoRow : OpenClaim := { program := "ytjkidecaciomgaa", sum := "41b54d08cc94f60b62adb2d15871b236f87cbe529deab68583272c7a762f6e1e", func := "towncrier/towncrierlaw14.PathTells", spec := "pathTells", unfollowed := true, recurses := true, apart := false, narrowed := true }
def PathTellsUptoSaid : Prop := pathTellsUptoRow.holds Try.pinned (OpenSpec.upto pathTellsSpec)

/-- 'towncrierlaw14.PathUp', WHERE WHAT IT READS IS OF BULK AT MOST 1048576: true; the input reads as it did. -/
def pathUpUptoRow : OpenClaim := { program := "ytjkidecaciomgaa", sum := "41b54d08cc94f60b62adb2d15871b236f87cbe529deab68583272c7a762f6e1e", func := "towncrier/towncrierlaw14.PathUp", spec := "pathUp", unfollowed := true, recurses := true, apart := false, narrowed := true }
def PathUpUptoSaid : Prop := pathUpUptoRow.holds Try.pinned (OpenSpec.upto pathUpSpec)

/-- 'towncrierlaw14.PathEnds', WHERE WHAT IT READS IS OF BULK AT MOST 1048576: true; the input reads as it did. -/
def pathEndsUptoRow : OpenClaim := { program := "ytjkidecaciomgaa", sum := "41b54d08cc94f60b62adb2d15871b236f87cbe529deab68583272c7a762f6e1e", func := "towncrier/towncrierlaw14.PathEnds", spec := "pathEnds", unfollowed := true, recurses := true, apart := false, narrowed := true }
def PathEndsUptoSaid : Prop := pathEndsUptoRow.holds Try.pinned (OpenSpec.upto pathEndsSpec)

/-- 'towncrierlaw14.PathHides', WHERE WHAT IT READS IS OF BULK AT MOST 1048576: true; the input reads as it did. -/
def pathHidesUptoRow : OpenClaim := { program := "ytjkidecaciomgaa", sum := "41b54d08cc94f60b62adb2d15871b236f87cbe529deab68583272c7a762f6e1e", func := "towncrier/towncrierlaw14.PathHides", spec := "pathHides", unfollowed := true, recurses := true, apart := false, narrowed := true }
def PathHidesUptoSaid : Prop := pathHidesUptoRow.holds Try.pinned (OpenSpec.upto pathHidesSpec)

/-- 'towncrierlaw15.SeeHides', WHERE WHAT IT READS IS OF BULK AT MOST 1048576: true; the input reads as it did. -/
def seeHidesUptoRow : OpenClaim := { program := "ytjkidecaciomgaa", sum := "41b54d08cc94f60b62adb2d15871b236f87cbe529deab68583272c7a762f6e1e", func := "towncrier/towncrierlaw15.SeeHides", spec := "seeHides", unfollowed := true, recurses := true, apart := false, narrowed := true }
def SeeHidesUptoSaid : Prop := seeHidesUptoRow.holds Try.pinned (OpenSpec.upto seeHidesSpec)

/-- 'towncrierlaw15.SeeNested', WHERE WHAT IT READS IS OF BULK AT MOST 1048576: true; the input reads as it did. -/
def seeNestedUptoRow : OpenClaim := { program := "ytjkidecaciomgaa", sum := "41b54d08cc94f60b62adb2d15871b236f87cbe529deab68583272c7a762f6e1e", func := "towncrier/towncrierlaw15.SeeNested", spec := "seeNested", unfollowed := true, recurses := true, apart := false, narrowed := true }
def SeeNestedUptoSaid : Prop := seeNestedUptoRow.holds Try.pinned (OpenSpec.upto seeNestedSpec)

end Rows
end Go.Proofs.Ytjkidecaciomgaa
