/- Law 16: WalkTurns, as its row wants it. -/
import Derived.Test.YtpmeffdcbjakoaaLa16t
namespace Go.Proofs.Ytpmeffdcbjakoaa
set_option linter.unusedVariables false
open Go.RowKit

theorem walkTurns_row_walk (A : Option Addr) (c0 : Nat) (xs : List St) (bub : Bool) (at_ few : Int) (W : World) (hv : AVRs ι0 (fun k => k < W.heap.size) W [.sem (listS stE xs)] [.slice A xs.length c0]) (hm : xs.length ≤ 9223372036854775807) (hat : (Lit.int .i64 at_).wf = true) (hw : (Lit.int .u8 few).wf = true) : Calls Try.prog 7 #[.slice A xs.length c0, .bool bub, .int .i64 at_, .int .u8 few] W fun e w' => e = .returned (.bool true) ∧ Below W.heap.size W w' :=
  walkTurns_walk A c0 xs bub at_ few W hv hm hw
end Go.Proofs.Ytpmeffdcbjakoaa
