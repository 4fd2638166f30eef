/- What calls make of the nodes, as it is computed. -/
import Derived.Test.YtjkidecaciomgaaBD
namespace Go.Proofs.Ytjkidecaciomgaa
set_option linter.unusedVariables false
set_option linter.unusedSimpArgs false
set_option maxRecDepth 100000
open Go.RowKit

def aboveC (l : List Nd) (a b : Int) : Bool := decide (a ∈ ch l upX b)
theorem above_C {l : List Nd} (h : WF l) (a b : Int) : aboveB l a b = aboveC l a b := by
  rw [Bool.eq_iff_iff, aboveB_true, aboveC, decide_eq_true_iff, mem_over h]
def putOkC (l : List Nd) (p : Int) (k : Int) : Bool :=
  match nodeAt l k with
  | some x => !(rootedB x) && (!(aboveC l k p) && (x.parent == 0 || x.parent == p))
  | none => false
def putC (l : List Nd) (p : Int) (ks : List Int) : List Nd × Int :=
  match nodeAt l p with
  | none => (l, 1)
  | some x =>
    if (List.range ks.length).all (argOk l ks) = false then (l, 1)
    else if ks.all (putOkC l p) = false then (l, 3)
    else (setKids (parAll (parAll l x.kids 0) ks p) p ks, 0)
def tieC (l : List Nd) (host root : Int) : List Nd × Int :=
  match nodeAt l host, nodeAt l root with
  | some h, some r => if h.kind ≠ 2 ∨ r.kind ≠ 3 then (l, 2) else if h.shadow ≠ 0 ∨ r.host ≠ 0 then (l, 6) else if aboveC l root host = true then (l, 3) else (setN (setN l host { h with shadow := root }) root { r with host := host }, 0)
  | _, _ => (l, 1)
def actC (l : List Nd) (x : Ac) : List Nd :=
  if x.kind = 0 then (makeM l x.n).1
  else if x.kind = 1 then (putC l x.a x.l).1
  else if x.kind = 2 then (tieC l x.a x.b).1
  else if x.kind = 3 then (nameM l x.a x.s).1
  else if x.kind = 4 then (wantM l x.a x.s).1
  else l
def nodesC (xs : List Ac) : List Nd := xs.foldl actC []
theorem put_C {l : List Nd} (h : WF l) (p : Int) (ks : List Int) : putM l p ks = putC l p ks := by
  have : putOk l p = putOkC l p := by
    funext k
    unfold putOk putOkC
    cases nodeAt l k with
    | none => rfl
    | some x => simp only [above_C h]
  unfold putM putC
  rw [this]
  cases nodeAt l p <;> rfl
theorem tie_C {l : List Nd} (h : WF l) (a b : Int) : tieM l a b = tieC l a b := by
  unfold tieM tieC
  cases nodeAt l a <;> cases nodeAt l b <;> simp only [above_C h]
theorem act_C {l : List Nd} (h : WF l) (x : Ac) : actM l x = actC l x := by
  unfold actM actC
  rw [put_C h, tie_C h]
theorem nodes_C {xs : List Ac} (hx : ∀ x ∈ xs, AcOk x) : nodesM xs = nodesC xs := by
  have : ∀ (xs : List Ac) (l : List Nd), WF l → (∀ x ∈ xs, AcOk x) → xs.foldl actM l = xs.foldl actC l := by
    intro xs
    induction xs with
    | nil => intro l h _; rfl
    | cons x xs ih =>
      intro l h hx
      rw [List.foldl_cons, List.foldl_cons, ← act_C h]
      exact ih _ (wf_act h (hx x (by simp))) fun y hy => hx y (by simp [hy])
  exact this xs [] wf_nil hx
def acOkB (x : Ac) : Bool := decide (x.s.size ≤ 9223372036854775807) && decide (x.n.name.size ≤ 9223372036854775807) && decide (x.n.want.size ≤ 9223372036854775807) && decide (x.l.length ≤ 1000000)
theorem ok_all {xs : List Ac} (h : xs.all acOkB = true) : ∀ x ∈ xs, AcOk x := fun x hx => by
  have := List.all_eq_true.1 h x hx
  simp only [acOkB, Bool.and_eq_true, decide_eq_true_eq] at this
  exact ⟨this.1.1.1, this.1.1.2, this.1.2, this.2⟩
end Go.Proofs.Ytjkidecaciomgaa
