/- The reference's Put, plain. -/
import Derived.Test.YtjkidecaciomgaaFoC
namespace Go.Proofs.Ytjkidecaciomgaa
set_option linter.unusedVariables false
set_option linter.unusedSimpArgs false
open Go.RowKit

theorem nodeAt_map {l : List Nd} (g : Nd → Nd) (b : Int) : nodeAt (l.map g) b = (nodeAt l b).map g := by
  unfold nodeAt
  split
  · rw [List.getElem?_map]
  · rfl
def zeroP (p : Int) (x : Nd) : Nd := if x.parent = p then { x with parent := 0 } else x
theorem put_ref {l : List Nd} (h : WF l) {p : Int} {px : Nd} (hp : nodeAt l p = some px) (ks : List Int) : setKids (parAll (l.map (zeroP p)) ks p) p ks = setKids (parAll (parAll l px.kids 0) ks p) p ks := nodes_ext fun b => by
  rw [put_nodes h hp, nodeAt_setKids, nodeAt_parAll, nodeAt_map]
  cases nodeAt l b with
  | none => rfl
  | some x =>
    simp only [Option.map_some, Option.some.injEq, putN, zeroP]
    by_cases h2 : b = p
    · subst h2
      by_cases h1 : b ∈ ks <;> by_cases h3 : x.parent = b <;> simp [h1, h3]
    · by_cases h1 : b ∈ ks <;> by_cases h3 : x.parent = p <;> simp [h1, h2, h3]
section
variable {g : Nd → Nd} {l : List Nd} {i : Nat} {x : Nd}
theorem mapTo_get (hx : l[i]? = some x) : ((l.map g).take i ++ l.drop i)[i]? = some x := by
  have hl := (List.getElem?_eq_some_iff.1 hx).1
  rw [List.getElem?_append_right (by simp; omega), List.length_take, List.length_map, List.getElem?_drop, ← hx]
  congr 1
  omega
theorem mapTo_next (hx : l[i]? = some x) : ((l.map g).take i ++ l.drop i).set i (g x) = (l.map g).take (i + 1) ++ l.drop (i + 1) := by
  obtain ⟨hl, he⟩ := List.getElem?_eq_some_iff.1 hx
  rw [List.set_append_right _ _ (by simp; omega), List.take_add_one, List.getElem?_map, hx, List.append_assoc]
  congr 1
  rw [List.drop_eq_getElem_cons hl, List.length_take, List.length_map, show i - min i l.length = 0 by omega]
  rfl
theorem mapTo_same (hx : l[i]? = some x) (hg : g x = x) : (l.map g).take i ++ l.drop i = (l.map g).take (i + 1) ++ l.drop (i + 1) := by
  rw [← mapTo_next hx, hg]
  have := mapTo_get (g := g) hx
  obtain ⟨h1, h2⟩ := List.getElem?_eq_some_iff.1 this
  rw [← h2, List.set_getElem_self]
theorem mapTo_len : ((l.map g).take i ++ l.drop i).length = l.length := by simp; omega
theorem mapTo_end : (l.map g).take l.length ++ l.drop l.length = l.map g := by
  rw [List.drop_length, List.append_nil, List.take_of_length_le (by simp)]
end
end Go.Proofs.Ytjkidecaciomgaa
