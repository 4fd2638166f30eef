/- api.Step, as data. -/
import Derived.Test.YtpmeffdcbjakoaaVL15
namespace Go.Proofs.Ytpmeffdcbjakoaa
set_option linter.unusedVariables false
set_option linter.unusedSimpArgs false
open Go.RowKit
structure St where
  node : Int
  target : Int
  related : Int
  cr : Bool
  cs : Bool
deriving DecidableEq
def stL (x : St) : List AV := [.v (.int .i64 x.node), .v (.int .i64 x.target), .v (.int .i64 x.related), .v (.bool x.cr), .v (.bool x.cs)]
def stE : Enc St where
  sz := 5
  f := stL
  len := fun _ => rfl
  leaf := fun _ => rfl
end Go.Proofs.Ytpmeffdcbjakoaa
