/- ProgTells, as a walk. -/
import Derived.Test.YtpmeffdcbjakoaaDoorOp13
import Derived.Test.YtpmeffdcbjakoaaDoorOp6
namespace Go.Proofs.YtpmeffdcbjakoaaDoor
set_option linter.unusedVariables false
open Go.RowKit
theorem progTells_walk (v : Value) (main : List OpD) (calls : List (List OpD)) (cb extra : Int) (W : World) (hv : AVRs ι0 (old W) W [progA main calls] [v]) (hm : OpsOk main) (hcs : ∀ l ∈ calls, OpsOk l) (hl : calls.length ≤ 9223372036854775807) (hc : calls.length ≤ 100 → countM main calls ≤ 9223372036854775807) : Calls Tryd.prog 4 #[v, .int .i64 cb, .int .i64 extra] W fun e w' => e = .returned (.bool true) ∧ Below W.heap.size W w' :=
  Fun.calls (vals := [v, .int .i64 cb, .int .i64 extra]) (progTells_f cb extra hc hl hm hcs) (hv.append (AVRs_v [.int .i64 cb, .int .i64 extra]))
end Go.Proofs.YtpmeffdcbjakoaaDoor
