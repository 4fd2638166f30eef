/- Paths: slices of api.Step, as lists of data; whether two entries are the same. -/
import Derived.Test.YtjkidecaciomgaaBP
import Derived.Test.YtjkidecaciomgaaRows
import Derived.WalkKit
import Derived.ProofKit
import Derived.WalkSpells
import Derived.Outline
import Derived.BigQuiet
import Derived.Deep.QuietTactic

import Derived.Lib.Hide
namespace Go.Proofs.Ytjkidecaciomgaa
set_option linter.unusedVariables false
set_option linter.unusedSimpArgs false
open Go.RowKit

instance : Inhabited St := ⟨⟨0, 0, 0, false, false⟩⟩
def St.cell (x : St) : Nat → Value
  | 0 => .int .i64 x.node
  | 1 => .int .i64 x.target
  | 2 => .int .i64 x.related
  | 3 => .bool x.cr
  | _ => .bool x.cs
def St.cells (x : St) : Array Value := #[.int .i64 x.node, .int .i64 x.target, .int .i64 x.related, .bool x.cr, .bool x.cs]
/-- A path that reads as a list. -/
def StAt (w : World) (A : Option Addr) (xs : List St) : Prop := SliceAt w A 5 xs.length (fun i => (xs.getD i default).cell)
theorem StAt.below {w w' : World} {A : Option Addr} {xs : List St} (h : StAt w A xs) (hb : Below w.heap.size w w') : StAt w' A xs := SliceAt.below h (by decide) hb
theorem StAt.get {w : World} {A : Option Addr} {xs : List St} (h : StAt w A xs) {k : Nat} (hk : k < xs.length) : ∃ b off, A = some ⟨b, off, none⟩ ∧
    w.cell? ⟨b, off + k * 5, none⟩ = some (.int .i64 (xs.getD k default).node) ∧ w.cell? ⟨b, off + k * 5 + 1, none⟩ = some (.int .i64 (xs.getD k default).target) ∧ w.cell? ⟨b, off + k * 5 + 2, none⟩ = some (.int .i64 (xs.getD k default).related) ∧
    w.cell? ⟨b, off + k * 5 + 3, none⟩ = some (.bool (xs.getD k default).cr) ∧ w.cell? ⟨b, off + k * 5 + 4, none⟩ = some (.bool (xs.getD k default).cs) := by
  obtain ⟨b, off, rfl, hc⟩ := h (by omega)
  exact ⟨b, off, rfl, hc k 0 hk (by decide), hc k 1 hk (by decide), hc k 2 hk (by decide), hc k 3 hk (by decide), hc k 4 hk (by decide)⟩

end Go.Proofs.Ytjkidecaciomgaa
