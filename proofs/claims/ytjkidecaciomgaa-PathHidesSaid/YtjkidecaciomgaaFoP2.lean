/- An event's path, plain. -/
import Derived.Test.YtjkidecaciomgaaPa2
namespace Go.Proofs.Ytjkidecaciomgaa
set_option linter.unusedVariables false
set_option linter.unusedSimpArgs false
set_option maxRecDepth 100000
open Go.RowKit

section
variable (l : List Nd) (target related : Int) (comp : Bool)
/-- A path that goes on from a place: with what is told there. -/
inductive Way : Int → Int → Int → List St → Prop
  | stop {t f a : Int} : a ≠ 0 → rootM l t ∉ ch l upX a → a = aimM l related a → Way t f a []
  | done {t f : Int} : Way t f 0 []
  | same {t f a : Int} {xs : List St} : a ≠ 0 → rootM l t ∈ ch l upX a → Way t a (evP l target comp a) xs → Way t f a (stM l a 0 (aimM l related a) (decide (ofM l f ≠ 0)) :: xs)
  | turn {t f a : Int} {xs : List St} : a ≠ 0 → rootM l t ∉ ch l upX a → a ≠ aimM l related a → Way a a (evP l target comp a) xs → Way t f a (stM l a a (aimM l related a) (decide (ofM l f ≠ 0)) :: xs)
theorem way_go : ∀ (n : Nat) (t f a : Int), itF (evP l target comp) n a = 0 → Way l target related comp t f a (pathGo l target related comp n t f a)
  | 0, t, f, a, h => by
    have : a = 0 := h
    subst this
    exact .done
  | n + 1, t, f, a, h => by
    have h' : itF (evP l target comp) n (evP l target comp a) = 0 := h
    unfold pathGo
    by_cases h0 : a = 0
    · rw [if_pos h0, h0]; exact .done
    · rw [if_neg h0]
      by_cases h1 : rootM l t ∈ ch l upX a
      · rw [if_pos h1]; exact .same h0 h1 (way_go n t a _ h')
      · rw [if_neg h1]
        by_cases h2 : a = aimM l related a
        · rw [if_pos h2]; exact .stop h0 h1 h2
        · rw [if_neg h2]; exact .turn h0 h1 h2 (way_go n a a _ h')
end
section
variable {l : List Nd} {target related : Int} {comp : Bool}
theorem way_ev : ∀ {xs : List St} {t f a : Int}, Way l target related comp t f a xs → ∀ (n : Nat), ∃ k, k ≤ xs.length ∧ (xs.map St.node).take n = wayN (evP l target comp) (min n xs.length) a
  | xs, t, f, a, h, n => ⟨xs.length, Nat.le_refl _, by
    induction h generalizing n with
    | stop _ _ _ => simp [wayN]
    | done => simp [wayN]
    | @same t f a xs h0 _ _ ih =>
      cases n with
      | zero => simp [wayN]
      | succ n =>
        have e : wayN (evP l target comp) (min n xs.length + 1) a = a :: wayN (evP l target comp) (min n xs.length) (evP l target comp a) := by
          show (if a = 0 then [] else _) = _
          rw [if_neg h0]
        rw [List.length_cons, show min (n + 1) (xs.length + 1) = min n xs.length + 1 by omega, e, ← ih n]
        rfl
    | @turn t f a xs h0 _ _ _ ih =>
      cases n with
      | zero => simp [wayN]
      | succ n =>
        have e : wayN (evP l target comp) (min n xs.length + 1) a = a :: wayN (evP l target comp) (min n xs.length) (evP l target comp a) := by
          show (if a = 0 then [] else _) = _
          rw [if_neg h0]
        rw [List.length_cons, show min (n + 1) (xs.length + 1) = min n xs.length + 1 by omega, e, ← ih n]
        rfl⟩
/-- The nodes of a path are those of the way, from its beginning. -/
theorem way_nodes {xs : List St} {t f a : Int} (h : Way l target related comp t f a xs) : xs.map St.node = wayN (evP l target comp) xs.length a := by
  obtain ⟨_, _, e⟩ := way_ev h xs.length
  rw [Nat.min_self, ← List.length_map (f := St.node), List.take_length] at e
  rw [e, List.length_map]
end
theorem wayN_at {f : Int → Int} : ∀ (n : Nat) (a : Int) (i : Nat), i + 1 < (wayN f n a).length → (wayN f n a)[i + 1]? = ((wayN f n a)[i]?).map f
  | 0, a, i, h => by simp [wayN] at h
  | n + 1, a, i, h => by
    have e : wayN f (n + 1) a = if a = 0 then [] else a :: wayN f n (f a) := rfl
    rw [e] at h ⊢
    by_cases h0 : a = 0
    · rw [if_pos h0] at h; simp at h
    · rw [if_neg h0] at h ⊢
      cases i with
      | zero =>
        cases n with
        | zero => simp [wayN] at h
        | succ n =>
          have e2 : wayN f (n + 1) (f a) = if f a = 0 then [] else f a :: wayN f n (f (f a)) := rfl
          rw [e2] at h ⊢
          by_cases h1 : f a = 0
          · rw [if_pos h1] at h; simp at h
          · rw [if_neg h1]; rfl
      | succ i =>
        rw [List.length_cons] at h
        exact wayN_at n (f a) i (by omega)
/-- The path, and what is known of it. -/
inductive PathOk (l : List Nd) (target related : Int) (comp : Bool) : List St → Prop
  | none : nodeAt l target = none → PathOk l target related comp []
  | nil : (∃ y, nodeAt l target = some y) → aimM l related target = target → related ≠ target → PathOk l target related comp []
  | some {xs : List St} : (∃ y, nodeAt l target = some y) → (aimM l related target ≠ target ∨ related = target) → Way l target related comp target target (evP l target comp target) xs → PathOk l target related comp (stM l target target (aimM l related target) false :: xs)
theorem path_ok {l : List Nd} (h : WF l) (target related : Int) (comp : Bool) : PathOk l target related comp (pathM l target related comp) := by
  unfold pathM
  cases hx : nodeAt l target with
  | none => rw [if_pos rfl]; exact .none hx
  | some y =>
    rw [if_neg (by simp)]
    by_cases hB : aimM l related target = target ∧ related ≠ target
    · rw [if_pos hB]; exact .nil ⟨y, hx⟩ hB.1 hB.2
    · rw [if_neg hB]
      refine .some ⟨y, hx⟩ (Classical.byContradiction fun e => hB ⟨Classical.byContradiction fun e1 => e (.inl e1), fun e2 => e (.inr e2)⟩) ?_
      exact way_go _ _ _ _ _ _ _ _ (ev_129 h target comp (ev_there h target comp target))
theorem ok_nodes {l : List Nd} {target related : Int} {comp : Bool} {xs : List St} (h : PathOk l target related comp xs) : xs.map St.node = wayN (evP l target comp) xs.length target := by
  cases h with
  | none _ => rfl
  | nil _ _ _ => rfl
  | @some xs hy _ hw =>
    obtain ⟨y, hy⟩ := hy
    have h0 : target ≠ 0 := by have := nodeAt_some hy; omega
    have e : wayN (evP l target comp) (xs.length + 1) target = target :: wayN (evP l target comp) xs.length (evP l target comp target) := by
      show (if target = 0 then [] else _) = _
      rw [if_neg h0]
    rw [List.length_cons, e, ← way_nodes hw]
    rfl
end Go.Proofs.Ytjkidecaciomgaa
