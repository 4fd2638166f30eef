/- Laws over calls on a forest, as walks; KinPlaces. -/
import Derived.Test.YtjkidecaciomgaaOpenAc
namespace Go.Proofs.Ytjkidecaciomgaa
set_option linter.unusedVariables false
set_option linter.unusedSimpArgs false
open Go.RowKit
/-- A law of calls and plain values. -/
theorem acts_walk {P : Program} {f : FuncId} {A : Option Addr} {c : Nat} {xs : List Ac} {vs : List Value} {W : World} (hv : AVRs ι0 (old W) W [.sem (listS acE xs)] [.slice A xs.length c]) (h : Fun P f (.sem (listS acE xs) :: vs.map .v) [] (.v (.bool true)) []) : Calls P f (Value.slice A xs.length c :: vs).toArray W fun e w' => e = .returned (.bool true) ∧ Below W.heap.size W w' :=
  h.calls (hv.append (AVRs_v vs))
theorem kinPlaces_walk (A : Option Addr) (c : Nat) (xs : List Ac) (id : Int) (W : World) (hv : AVRs ι0 (old W) W [.sem (listS acE xs)] [.slice A xs.length c]) (hs : ∀ x ∈ xs, AcStr x) (hm : xs.length ≤ 9223372036854775807) (w : (Lit.int .i64 id).wf = true) : Calls Try.prog 7 #[.slice A xs.length c, .int .i64 id] W fun e w' => e = .returned (.bool true) ∧ Below W.heap.size W w' :=
  acts_walk (vs := [.int .i64 id]) hv (places_f id hm hs)
end Go.Proofs.Ytjkidecaciomgaa
