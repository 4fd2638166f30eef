/- Calls that the examples make. -/
import Derived.Test.YtjkidecaciomgaaFoD
import Derived.Test.YtjkidecaciomgaaRf1
namespace Go.Proofs.Ytjkidecaciomgaa
set_option linter.unusedVariables false
set_option linter.unusedSimpArgs false
open Go.RowKit
def ndE : Nd := { nd0 with kind := 2 }
def ndK (k : Int) : Nd := { nd0 with kind := k }
def ndS (m : Int) : Nd := { nd0 with kind := 3, mode := m }
def acN (n : Nd) : Ac := ⟨0, 0, 0, ⟨#[]⟩, n, []⟩
def acP (a : Int) (l : List Int) : Ac := ⟨1, a, 0, ⟨#[]⟩, nd0, l⟩
def acT (a b : Int) : Ac := ⟨2, a, b, ⟨#[]⟩, nd0, []⟩
/-- What calls make, computed. -/
theorem nodes_ex {xs : List Ac} {l : List Nd} (h1 : xs.all acOkB = true) (h2 : nodesC xs = l) : (∀ x ∈ xs, AcOk x) ∧ nodesM xs = l ∧ WF l := by
  have h := ok_all h1
  have h3 := (nodes_C h).trans h2
  exact ⟨h, h3, h3 ▸ wf_nodes h⟩
/-- The premises of a law on calls. -/
theorem acts_ok {xs : List Ac} (hg : greatM xs = false) (hs : ∀ x ∈ xs, x.s.size ≤ 9223372036854775807 ∧ x.n.name.size ≤ 9223372036854775807 ∧ x.n.want.size ≤ 9223372036854775807) : xs.length ≤ 300 ∧ ∀ x ∈ xs, AcOk x := by
  rw [greatM, Bool.or_eq_false_iff] at hg
  refine ⟨by simpa using hg.2, fun x hx => ?_⟩
  have h1 : x.l.length ≤ 200 := by
    have h2 := hg.1
    rw [← Bool.not_eq_true, List.any_eq_true] at h2
    have := fun h => h2 ⟨x, hx, h⟩
    simp at this
    omega
  obtain ⟨h2, h3, h4⟩ := hs x hx
  exact ⟨h2, h3, h4, by omega⟩
end Go.Proofs.Ytjkidecaciomgaa
