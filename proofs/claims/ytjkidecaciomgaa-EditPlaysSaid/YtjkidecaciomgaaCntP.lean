/- Counting children, plain; the kinds of nodes. -/
import Derived.Test.YtjkidecaciomgaaFoS
namespace Go.Proofs.Ytjkidecaciomgaa
set_option linter.unusedVariables false
set_option linter.unusedSimpArgs false
open Go.RowKit

theorem nodup_sub : ∀ {xs ys : List Int}, xs.Nodup → (∀ x ∈ xs, x ∈ ys) → xs.length ≤ ys.length
  | [], ys, _, _ => by simp
  | x :: xs, ys, hn, hs => by
    rw [List.nodup_cons] at hn
    have hx := hs x List.mem_cons_self
    have h1 := nodup_sub (xs := xs) (ys := ys.erase x) hn.2 fun y hy => by
      have hne : y ≠ x := fun e => hn.1 (e ▸ hy)
      exact (List.mem_erase_of_ne hne).2 (hs y (List.mem_cons_of_mem _ hy))
    rw [List.length_erase_of_mem hx] at h1
    have := List.length_pos_of_mem hx
    rw [List.length_cons]
    omega
def isK (l : List Nd) (kind : Int) (c : Int) : Bool := decide ((nodeR l c).kind = kind)
def cntM (l : List Nd) (id kind : Int) : Nat := ((nodeR l id).kids.filter (isK l kind)).length
def isC (id kind : Int) (x : Nd) : Bool := decide (x.parent = id) && decide (x.kind = kind)
def cnt5M (l : List Nd) (id kind : Int) : Nat := if (nodeAt l id).isSome = true then (l.filter (isC id kind)).length else 0
theorem nodes_range (l : List Nd) : (List.range l.length).map (fun i : Nat => nodeR l ((i : Int) + 1)) = l := by
  apply List.ext_getElem?
  intro j
  rw [List.getElem?_map]
  by_cases hj : j < l.length
  · rw [List.getElem?_range hj, List.getElem?_eq_getElem hj]
    simp only [Option.map_some, Option.some.injEq]
    have : nodeAt l ((j : Int) + 1) = some l[j] := by
      unfold nodeAt
      rw [if_pos (by omega), show ((j : Int) + 1 - 1).toNat = j by omega, List.getElem?_eq_getElem hj]
    exact nodeR_some this
  · rw [List.getElem?_eq_none (by simp; omega), List.getElem?_eq_none (by omega)]
    rfl
theorem cnt_eq {l : List Nd} (h : WF l) (id kind : Int) : cntM l id kind = cnt5M l id kind := by
  cases hx : nodeAt l id with
  | none => rw [cntM, cnt5M, nodeR_none hx, hx]; rfl
  | some x =>
    rw [cntM, cnt5M, nodeR_some hx, hx]
    simp only [Option.isSome_some, if_true]
    have hl : (l.filter (isC id kind)).length = (((List.range l.length).filter fun i : Nat => isC id kind (nodeR l ((i : Int) + 1))).map fun i : Nat => (i : Int) + 1).length := by
      have h1 : (l.filter (isC id kind)).length = (((List.range l.length).map fun i : Nat => nodeR l ((i : Int) + 1)).filter (isC id kind)).length := by rw [nodes_range]
      rw [h1, List.filter_map, List.length_map, List.length_map]
      rfl
    rw [hl]
    have hA : (x.kids.filter (isK l kind)).Nodup := (h.nod hx).filter _
    have hB : (((List.range l.length).filter fun i : Nat => isC id kind (nodeR l ((i : Int) + 1))).map fun i : Nat => (i : Int) + 1).Nodup := by
      rw [List.Nodup, List.pairwise_map]
      exact (List.nodup_range.filter _).imp fun hne e => hne (by omega)
    have hm : ∀ c, c ∈ x.kids.filter (isK l kind) ↔ c ∈ ((List.range l.length).filter fun i : Nat => isC id kind (nodeR l ((i : Int) + 1))).map fun i : Nat => (i : Int) + 1 := fun c => by
      rw [List.mem_filter, List.mem_map]
      constructor
      · rintro ⟨h1, h2⟩
        obtain ⟨y, hy, hp⟩ := h.kid hx h1
        have h3 := nodeAt_some hy
        refine ⟨(c - 1).toNat, ?_, by omega⟩
        rw [List.mem_filter, List.mem_range, show (((c - 1).toNat : Nat) : Int) + 1 = c by omega, nodeR_some hy]
        rw [isK, nodeR_some hy] at h2
        exact ⟨by omega, by simp only [isC, hp, decide_true, Bool.true_and]; exact h2⟩
      · rintro ⟨i, h1, rfl⟩
        rw [List.mem_filter, List.mem_range] at h1
        obtain ⟨h1, h2⟩ := h1
        have hy : nodeAt l ((i : Int) + 1) = some l[i] := by
          unfold nodeAt
          rw [if_pos (by omega), show ((i : Int) + 1 - 1).toNat = i by omega, List.getElem?_eq_getElem h1]
        rw [nodeR_some hy, isC, Bool.and_eq_true, decide_eq_true_iff, decide_eq_true_iff] at h2
        have h0 := nodeAt_some hx
        rcases h.par hy with e | ⟨z, hz, hk⟩
        · omega
        · rw [h2.1, hx] at hz
          cases hz
          exact ⟨hk, by rw [isK, nodeR_some hy]; exact decide_eq_true h2.2⟩
    have h1 := nodup_sub hA fun c hc => (hm c).1 hc
    have h2 := nodup_sub hB fun c hc => (hm c).2 hc
    omega
/-! ### Kinds -/
def Kd (l : List Nd) : Prop := ∀ x ∈ l, 1 ≤ x.kind ∧ x.kind ≤ 4
theorem kd_at {l : List Nd} (h : Kd l) {id : Int} {x : Nd} (hx : nodeAt l id = some x) : 1 ≤ x.kind ∧ x.kind ≤ 4 := h x (List.mem_of_getElem? (nodeAt_some hx).2.2)
theorem kd_set {l : List Nd} (h : Kd l) {id : Int} {x y : Nd} (hx : nodeAt l id = some x) (e : y.kind = x.kind) : Kd (setN l id y) := fun z hz => by
  rcases List.mem_or_eq_of_mem_set hz with hz | rfl
  · exact h z hz
  · rw [e]; exact kd_at h hx
theorem kd_par {l : List Nd} (h : Kd l) (k v : Int) : Kd (setPar l k v) := by
  unfold setPar
  cases hx : nodeAt l k with
  | none => exact h
  | some x => exact kd_set h hx rfl
theorem kd_all : ∀ (ks : List Int) (v : Int) {l : List Nd}, Kd l → Kd (parAll l ks v)
  | [], v, l, h => h
  | k :: ks, v, l, h => kd_all ks v (kd_par h k v)
theorem kd_kids {l : List Nd} (h : Kd l) (p : Int) (ks : List Int) : Kd (setKids l p ks) := by
  unfold setKids
  cases hx : nodeAt l p with
  | none => exact h
  | some x => exact kd_set h hx rfl
theorem kd_put {l : List Nd} (h : Kd l) (p : Int) (ks : List Int) : Kd (putM l p ks).1 := by
  unfold putM
  cases nodeAt l p with
  | none => exact h
  | some x =>
    simp only
    split
    · exact h
    · split
      · exact h
      · exact kd_kids (kd_all _ _ (kd_all _ _ h)) _ _
theorem kd_make {l : List Nd} (h : Kd l) (n : Nd) : Kd (makeM l n).1 := by
  unfold makeM
  split
  · exact h
  · split
    · exact h
    · rename_i h1 _
      intro x hx
      rcases List.mem_append.1 hx with hx | hx
      · exact h x hx
      · rw [List.mem_singleton] at hx
        subst hx
        have h2 : rightM n = 0 := Classical.byContradiction h1
        show 1 ≤ n.kind ∧ n.kind ≤ 4
        rw [rightM] at h2
        split at h2
        · cases h2
        · omega
theorem kd_tie {l : List Nd} (h : Kd l) (a b : Int) : Kd (tieM l a b).1 := by
  unfold tieM
  cases hx : nodeAt l a with
  | none => exact h
  | some x =>
    cases hy : nodeAt l b with
    | none => exact h
    | some y =>
      simp only
      split
      · exact h
      · split
        · exact h
        · split
          · exact h
          · rename_i h1 h2 h3
            have hne : a ≠ b := fun e => by
              subst e
              rw [hx] at hy
              cases hy
              omega
            have h5 : Kd (setN l a { x with shadow := b }) := kd_set h hx rfl
            have h6 : nodeAt (setN l a { x with shadow := b }) b = some y := by
              rw [nodeAt_setN hx, if_neg (Ne.symm hne)]
              exact hy
            exact kd_set h5 h6 rfl
theorem kd_act {l : List Nd} (h : Kd l) (x : Ac) : Kd (actM l x) := by
  unfold actM
  repeat' split
  · exact kd_make h _
  · exact kd_put h _ _
  · exact kd_tie h _ _
  · unfold nameM
    cases hx : nodeAt l x.a with
    | none => exact h
    | some y =>
      simp only
      split
      · exact h
      · split
        · exact h
        · exact kd_set h hx rfl
  · unfold wantM
    cases hx : nodeAt l x.a with
    | none => exact h
    | some y =>
      simp only
      split
      · exact h
      · split
        · exact h
        · exact kd_set h hx rfl
  · exact h
theorem kd_nodes (xs : List Ac) : Kd (nodesM xs) := by
  have : ∀ (xs : List Ac) (l : List Nd), Kd l → Kd (xs.foldl actM l) := by
    intro xs
    induction xs with
    | nil => intro l h; exact h
    | cons x xs ih => intro l h; exact ih _ (kd_act h x)
  exact this xs [] fun x hx => by cases hx
end Go.Proofs.Ytjkidecaciomgaa
