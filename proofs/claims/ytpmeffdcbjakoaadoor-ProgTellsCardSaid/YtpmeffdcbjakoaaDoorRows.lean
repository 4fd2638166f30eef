/-
  NARROWER THAN 'FOR EVERY INPUT', by the rows' own cells (each row's printed sentence says how): ProgParts: laid · ProgTells: laid.
  DERIVED. THE GIVEN ROWS OF THIS SEAT. 2 by the template 'for every input the law returns true; each argument reads behind the call as it read before'; 0 by the template 'total and deterministic' (their statements: YtpmeffdcbjakoaaDoorTotals.lean).
  GIVEN WITH THE SEED: the statements are not yours to turn. If you find one false, say at which input.
  Laid BY PROGRAM, IN A SANDBOX (cutbox-rows.mjs): the forced cells as the released guide's own fill.sh prints them over the translation a709d7e3dd27489f… (all of the seat's roots in one cut). By AI agents, Wed Nov 11 2026. No macro, syntax, notation, axiom, sorry.
-/
import Derived.Test.YtpmeffdcbjakoaaDoorChecked
import GoSem.Claim
import GoSem.ClaimJoined
import GoSem.ClaimMapViews
import Derived.JoinedTies
import Derived.KernelRfl
namespace Go.Proofs.YtpmeffdcbjakoaaDoor
/- THE CELL 'sum', in the pinned program and in every row, IS THE sha256 OF THE DUMP (.gsa) THAT YtpmeffdcbjakoaaDoorProg.lean LOADS. Nothing in Lean hashes anything: it is a label: what it is worth is what the hold of that sum in a sandbox is worth. -/
noncomputable def Tryd.pinned : Pinned := { name := "ytpmeffdcbjakoaadoor", sum := "a709d7e3dd27489f2ef89c916c785af00dc6e7dd802b0fe6797ce89f23c5289c", checked := Tryd.checked }
namespace Rows
def none {H : Type} : Left H := { results := [], args := [] }

/- WHAT THE LISTED PACKAGE-LEVEL VARIABLES READ AS WHEN THE CALL BEGINS. Each datum BY PROGRAM (the guide's laid-datum.mjs) off the statement by which the dump's own 'gosem.cut.vars' lays the variable. In a bare row this is a premise. The card (YtpmeffdcbjakoaaDoorCards.lean) ties it to the program's text. -/
def laid_towncrier_op_numbers {H : Type} : DataW H := .agg [.lit (.int .i64 0), .lit (.int .i64 2), .lit (.int .i64 1), .lit (.int .i64 1), .lit (.int .i64 2), .lit (.int .i64 3), .lit (.int .i64 2), .lit (.int .i64 2), .lit (.int .i64 2), .lit (.int .i64 1), .lit (.int .i64 4), .lit (.int .i64 3), .lit (.int .i64 2), .lit (.int .i64 2), .lit (.int .i64 1), .lit (.int .i64 1), .lit (.int .i64 1), .lit (.int .i64 1)]
def laid_towncrier_op_worded {H : Type} : DataW H := .agg [.lit (.bool false), .lit (.bool true), .lit (.bool true), .lit (.bool true), .lit (.bool false), .lit (.bool false), .lit (.bool false), .lit (.bool false), .lit (.bool false), .lit (.bool false), .lit (.bool true), .lit (.bool true), .lit (.bool true), .lit (.bool false), .lit (.bool false), .lit (.bool false), .lit (.bool false), .lit (.bool false)]

/-- 'towncrierlaw20.ProgParts': WHATEVER THE INPUT: true; the input reads as it did. -/
def progPartsSpec : ChangeSpec := { name := "progParts", fn := fun _ => fun
  | [d] => { results := [.lit (.bool true)], args := [d] }
  | _ => none }
def progPartsRow : OpenClaim := { program := "ytpmeffdcbjakoaadoor", sum := "a709d7e3dd27489f2ef89c916c785af00dc6e7dd802b0fe6797ce89f23c5289c", func := "towncrier/towncrierlaw20.ProgParts", spec := "progParts", unfollowed := true, recurses := true, named := ["towncrier/op.worded", "towncrier/op.numbers"], apart := false, laid := [("towncrier/op.numbers", laid_towncrier_op_numbers), ("towncrier/op.worded", laid_towncrier_op_worded)] }
def ProgPartsSaid : Prop := progPartsRow.holds Tryd.pinned (OpenSpec.ofChange progPartsSpec)

/-- ITS FALSE NEIGHBOUR: 'it returns false'. Refute it at one input. -/
def progPartsWrong : ChangeSpec := { name := "progParts", fn := fun _ => fun
  | [d] => { results := [.lit (.bool false)], args := [d] }
  | _ => none }
def ProgPartsWrongFalsely : Prop := progPartsRow.holds Tryd.pinned (OpenSpec.ofChange progPartsWrong)

/-- 'towncrierlaw20.ProgTells': WHATEVER THE INPUT: true; the input reads as it did. -/
def progTellsSpec : ChangeSpec := { name := "progTells", fn := fun _ => fun
  | [d1, d2, d3] => { results := [.lit (.bool true)], args := [d1, d2, d3] }
  | _ => none }
def progTellsRow : OpenClaim := { program := "ytpmeffdcbjakoaadoor", sum := "a709d7e3dd27489f2ef89c916c785af00dc6e7dd802b0fe6797ce89f23c5289c", func := "towncrier/towncrierlaw20.ProgTells", spec := "progTells", unfollowed := true, recurses := true, named := ["towncrier/op.worded", "towncrier/op.numbers"], apart := false, laid := [("towncrier/op.numbers", laid_towncrier_op_numbers), ("towncrier/op.worded", laid_towncrier_op_worded)] }
def ProgTellsSaid : Prop := progTellsRow.holds Tryd.pinned (OpenSpec.ofChange progTellsSpec)

/-- ITS FALSE NEIGHBOUR: 'it returns false'. Refute it at one input. -/
def progTellsWrong : ChangeSpec := { name := "progTells", fn := fun _ => fun
  | [d1, d2, d3] => { results := [.lit (.bool false)], args := [d1, d2, d3] }
  | _ => none }
def ProgTellsWrongFalsely : Prop := progTellsRow.holds Tryd.pinned (OpenSpec.ofChange progTellsWrong)

/- THE SECOND FORM. 'bulk': how many values and letters a reading holds, each counted each time it is reached (what is shared counts as often as it is met; a slice's spare places count too). A statement '..UptoSaid' is the law's where the arguments, and the package variables that the reading takes, are together of bulk at most 1048576: NARROWER than '..Said'. Prove '..Said' where nothing that the law and all that it calls make is longer than what came in: it says more and counts as full. Else prove '..UptoSaid'. A law counts once. -/
mutual
def uptoBulk {H : Type} : DataW H → Nat
  | .lit (.string bytes) => bytes.length + 1
  | .lit _ => 1
  | .nil => 1
  | .ptr d => uptoBulk d + 1
  | .slice elems spare => uptoBulkAll elems + uptoBulkAll spare + 1
  | .agg parts => uptoBulkAll parts + 1
  | .iface _ d => uptoBulk d + 1
  | .map entries => uptoBulkEntries entries + 1
  | .held _ => 1
def uptoBulkAll {H : Type} : List (DataW H) → Nat
  | [] => 0
  | d :: r => uptoBulk d + uptoBulkAll r
def uptoBulkEntries {H : Type} : List (Lit × DataW H) → Nat
  | [] => 0
  | x :: r => uptoBulkEntry x + uptoBulkEntries r
def uptoBulkEntry {H : Type} : Lit × DataW H → Nat
  | (.string bytes, d) => bytes.length + uptoBulk d + 1
  | (_, d) => uptoBulk d + 1
 end
def uptoSmall : (H : Type) → List (DataW H) → Bool := fun _ ds => decide (uptoBulkAll ds ≤ 1048576)
def OpenSpec.upto (s : _root_.Go.ChangeSpec) : _root_.Go.OpenSpec := { _root_.Go.OpenSpec.ofChange s with cond := some uptoSmall }

/-- 'towncrierlaw20.ProgParts', WHERE WHAT IT READS IS OF BULK AT MOST 1048576: true; the input reads as it did. -/
def progPartsUptoRow : OpenClaim := { program := "ytpmeffdcbjakoaadoor", sum := "a709d7e3dd27489f2ef89c916c785af00dc6e7dd802b0fe6797ce89f23c5289c", func := "towncrier/towncrierlaw20.ProgParts", spec := "progParts", unfollowed := true, recurses := true, named := ["towncrier/op.worded", "towncrier/op.numbers"], apart := false, laid := [("towncrier/op.numbers", laid_towncrier_op_numbers), ("towncrier/op.worded", laid_towncrier_op_worded)], narrowed := true }
def ProgPartsUptoSaid : Prop := progPartsUptoRow.holds Tryd.pinned (OpenSpec.upto progPartsSpec)

/-- 'towncrierlaw20.ProgTells', WHERE WHAT IT READS IS OF BULK AT MOST 1048576: true; the input reads as it did. -/
def progTellsUptoRow : OpenClaim := { program := "ytpmeffdcbjakoaadoor", sum := "a709d7e3dd27489f2ef89c916c785af00dc6e7dd802b0fe6797ce89f23c5289c", func := "towncrier/towncrierlaw20.ProgTells", spec := "progTells", unfollowed := true, recurses := true, named := ["towncrier/op.worded", "towncrier/op.numbers"], apart := false, laid := [("towncrier/op.numbers", laid_towncrier_op_numbers), ("towncrier/op.worded", laid_towncrier_op_worded)], narrowed := true }
def ProgTellsUptoSaid : Prop := progTellsUptoRow.holds Tryd.pinned (OpenSpec.upto progTellsSpec)

end Rows
end Go.Proofs.YtpmeffdcbjakoaaDoor
