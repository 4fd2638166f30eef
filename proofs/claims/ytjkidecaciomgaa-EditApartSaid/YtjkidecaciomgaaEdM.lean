/- Trees that are changed, plain: Put, leave. -/
import Derived.Test.YtjkidecaciomgaaEd1
import Derived.Test.YtjkidecaciomgaaFoD
import Derived.Test.YtjkidecaciomgaaVa2
namespace Go.Proofs.Ytjkidecaciomgaa
set_option linter.unusedVariables false
set_option linter.unusedSimpArgs false
set_option maxRecDepth 100000
open Go.RowKit

/-- What may be put below p. -/
def PutK (l : List Nd) (p k : Int) : Prop := ∃ x, nodeAt l k = some x ∧ rootedB x = false ∧ k ∉ ch l upX p ∧ (x.parent = 0 ∨ x.parent = p)
theorem arg_all {l : List Nd} {ks : List Int} (h1 : ∀ k ∈ ks, ∃ x, nodeAt l k = some x) (h2 : ks.Nodup) : (List.range ks.length).all (argOk l ks) = true := by
  rw [List.all_eq_true]
  intro i hi
  have hi := List.mem_range.1 hi
  obtain ⟨x, hx⟩ := h1 ks[i] (List.getElem_mem hi)
  have hg : ks.getD i 0 = ks[i] := by simp [hi]
  rw [argOk, hg, hx]
  simp only [Option.isSome_some, Bool.true_and, Bool.not_eq_true', decide_eq_false_iff_not]
  intro hm
  obtain ⟨j, hj, e⟩ := List.mem_iff_getElem.1 hm
  rw [List.length_take] at hj
  rw [List.getElem_take] at e
  have e3 : ks[j]? = ks[i]? := by rw [List.getElem?_eq_getElem hi, ← e, List.getElem?_eq_getElem]
  have := (List.getElem?_inj (show j < ks.length by omega) h2).1 e3
  omega
theorem arg_back {l : List Nd} {ks : List Int} (h : (List.range ks.length).all (argOk l ks) = true) : ks.Nodup := by
  rw [List.Nodup, List.pairwise_iff_getElem]
  intro i j hi hj hij e
  have := List.all_eq_true.1 h j (List.mem_range.2 hj)
  have hg : ks.getD j 0 = ks[j] := by simp [hj]
  rw [argOk, hg, Bool.and_eq_true, Bool.not_eq_true', decide_eq_false_iff_not] at this
  refine this.2 (List.mem_iff_getElem.2 ⟨i, by rw [List.length_take]; omega, ?_⟩)
  rw [List.getElem_take]
  exact e
section
variable {l : List Nd} (h : WF l)
include h
theorem put_done {p : Int} {px : Nd} (hp : nodeAt l p = some px) {ks : List Int} (hn : ks.Nodup) (hk : ∀ k ∈ ks, PutK l p k) : (putM l p ks).2 = 0 ∧ ∀ b, nodeAt (putM l p ks).1 b = (nodeAt l b).map (putN p ks b) := by
  have h1 := arg_all (l := l) (fun k hk' => by obtain ⟨x, hx, _⟩ := hk k hk'; exact ⟨x, hx⟩) hn
  have h2 : ks.all (putOk l p) = true := by
    rw [List.all_eq_true]
    intro k hk'
    obtain ⟨x, hx, hr, ha, hpar⟩ := hk k hk'
    have ha' : aboveB l k p = false := by rw [← Bool.not_eq_true, aboveB_true, ← mem_over h]; exact ha
    rw [putOk, hx]
    simp only [hr, ha', Bool.not_false, Bool.true_and]
    rcases hpar with e | e <;> simp [e]
  have e : putM l p ks = (setKids (parAll (parAll l px.kids 0) ks p) p ks, 0) := by
    rw [putM, hp]
    simp only [h1, h2]
    rfl
  rw [e]
  exact ⟨rfl, put_nodes h hp ks⟩
theorem put_get {p : Int} {ks : List Int} (h0 : (putM l p ks).2 = 0) : (∃ px, nodeAt l p = some px) ∧ ks.Nodup ∧ (∀ k ∈ ks, PutK l p k) ∧ ∀ b, nodeAt (putM l p ks).1 b = (nodeAt l b).map (putN p ks b) := by
  unfold putM at h0 ⊢
  cases hp : nodeAt l p with
  | none => rw [hp] at h0; exact absurd h0 (by simp)
  | some px =>
    rw [hp] at h0
    dsimp only at h0 ⊢
    by_cases h1 : (List.range ks.length).all (argOk l ks) = false
    · rw [if_pos h1] at h0; exact absurd h0 (by simp)
    · rw [if_neg h1] at h0 ⊢
      by_cases h2 : ks.all (putOk l p) = false
      · rw [if_pos h2] at h0; exact absurd h0 (by simp)
      · rw [if_neg h2]
        refine ⟨⟨px, rfl⟩, arg_back (by simpa using h1), fun k hk => ?_, put_nodes h hp ks⟩
        obtain ⟨x, hx, hr, ha, hpar⟩ := putOk_spec (List.all_eq_true.1 (by simpa using h2) k hk)
        exact ⟨x, hx, hr, fun e => ha ((mem_over h _ _).1 e), hpar⟩
theorem kid_of {p c : Int} {px x : Nd} (hp : nodeAt l p = some px) (hc : nodeAt l c = some x) : c ∈ px.kids ↔ x.parent = p := by
  constructor
  · intro hm
    obtain ⟨y, hy, e⟩ := h.kid hp hm
    rw [hc] at hy
    cases hy
    exact e
  · intro e
    have hp1 := nodeAt_some hp
    rcases h.par hc with h0 | ⟨y, hy, hm⟩
    · omega
    · rw [e, hp] at hy
      cases hy
      exact hm
/-- A child may be put again. -/
theorem kid_putK {p c : Int} {px : Nd} (hp : nodeAt l p = some px) (hc : c ∈ px.kids) : PutK l p c := by
  obtain ⟨y, hy, e⟩ := h.kid hp hc
  have hp1 := nodeAt_some hp
  refine ⟨y, hy, ?_, fun ha => ?_, .inr e⟩
  · rw [← Bool.not_eq_true]
    intro hr
    have := h.root hy hr
    omega
  · have h1 := up_step h hy
    rw [show upX y = p by rw [upX, if_neg (by omega), e]] at h1
    have h2 := congrArg List.length h1
    rw [List.length_cons] at h2
    rcases up_le h ha with e1 | e1
    · rw [e1] at h2; omega
    · omega
theorem kids_128 (b : Int) : (nodeR l b).kids.length ≤ 128 := by
  cases hb : nodeAt l b with
  | none => rw [nodeR_none hb]; simp [nd0]
  | some x =>
    rw [nodeR_some hb]
    have := nodup_len l.length x.kids (h.nod hb) fun c hc => by
      obtain ⟨y, hy, _⟩ := h.kid hb hc
      have := nodeAt_some hy
      omega
    have := h.len
    omega
end
/-- What leaving makes of a node. -/
def leaveN (a b : Int) (x : Nd) : Nd := { x with parent := if b = a then 0 else x.parent, kids := x.kids.erase a }
def clearN (a b : Int) (x : Nd) : Nd := { x with parent := if x.parent = a then 0 else x.parent, kids := if b = a then [] else x.kids }
section
variable {l : List Nd} (h : WF l)
include h
theorem leave_wf (a : Int) : WF (leaveM l a) := by
  unfold leaveM
  cases nodeAt l (nodeR l a).parent with
  | none => exact h
  | some p => exact wf_put h _ _
theorem leave_ok (a b : Int) : nodeAt (leaveM l a) b = (nodeAt l b).map (leaveN a b) := by
  cases hp : nodeAt l (nodeR l a).parent with
  | none =>
    have e1 : leaveM l a = l := by rw [leaveM, hp]
    rw [e1]
    cases hb : nodeAt l b with
    | none => rfl
    | some x =>
      have hpar : ∀ n, nodeAt l a = some n → n.parent = 0 := fun n hn => by
        rw [nodeR_some hn] at hp
        refine (h.par hn).resolve_right fun ⟨y, hy, _⟩ => ?_
        rw [hp] at hy
        cases hy
      have h1 : x.kids.erase a = x.kids := List.erase_of_not_mem fun hm => by
        obtain ⟨y, hy, e⟩ := h.kid hb hm
        have := hpar y hy
        have := nodeAt_some hb
        omega
      have h2 : (if b = a then 0 else x.parent) = x.parent := by
        by_cases e : b = a
        · subst e; rw [if_pos rfl, hpar x hb]
        · rw [if_neg e]
      rw [Option.map_some, leaveN, h1, h2]
  | some p =>
    have e1 : leaveM l a = (putM l (nodeR l a).parent (p.kids.erase a)).1 := by rw [leaveM, hp]
    have hp0 := nodeAt_some hp
    obtain ⟨n, hn⟩ : ∃ n, nodeAt l a = some n := by
      cases hx : nodeAt l a with
      | some n => exact ⟨n, rfl⟩
      | none => rw [nodeR_none hx] at hp0; exact absurd hp0.1 (by decide)
    rw [nodeR_some hn] at *
    have hnd := h.nod hp
    rw [e1, (put_done h hp (hnd.erase a) fun k hk => kid_putK h hp (List.mem_of_mem_erase hk)).2 b]
    cases hb : nodeAt l b with
    | none => rfl
    | some x =>
      have hk := kid_of h hp hb
      have hm : b ∈ p.kids.erase a ↔ b ≠ a ∧ b ∈ p.kids := hnd.mem_erase_iff
      have h1 : (if b ∈ p.kids.erase a then n.parent else if x.parent = n.parent then 0 else x.parent) = if b = a then 0 else x.parent := by
        by_cases e : b = a
        · subst e
          rw [hn] at hb
          cases hb
          rw [if_pos rfl, if_neg (fun e => (hm.1 e).1 rfl), if_pos rfl]
        · rw [if_neg e]
          by_cases e2 : x.parent = n.parent
          · rw [if_pos (hm.2 ⟨e, hk.2 e2⟩), e2]
          · rw [if_neg (fun e3 => e2 (hk.1 (hm.1 e3).2)), if_neg e2]
      have h2 : (if b = n.parent then p.kids.erase a else x.kids) = x.kids.erase a := by
        by_cases e : b = n.parent
        · subst e
          rw [hp] at hb
          cases hb
          rw [if_pos rfl]
        · rw [if_neg e]
          refine (List.erase_of_not_mem fun hm => ?_).symm
          exact e ((kid_of h hb hn).1 hm).symm
      rw [Option.map_some, Option.map_some, putN, leaveN, h1, h2]
theorem clear_ok {a : Int} {n : Nd} (hn : nodeAt l a = some n) : (putM l a []).2 = 0 ∧ ∀ b, nodeAt (putM l a []).1 b = (nodeAt l b).map (clearN a b) := by
  obtain ⟨h1, h2⟩ := put_done h hn (ks := []) List.nodup_nil fun k hk => by cases hk
  refine ⟨h1, fun b => ?_⟩
  rw [h2 b]
  congr 1
end
/-- What a check lets pass. -/
theorem chk_ok {l : List Nd} {a b c : Int} (h0 : checkM l a b c = 0) : ∃ n p, nodeAt l a = some n ∧ nodeAt l b = some p ∧ a ∉ ch l upX b ∧ n.kind ≠ 1 ∧ n.kind ≠ 3 ∧ (c = 0 ∨ ∃ x, nodeAt l c = some x ∧ x.parent = b) := by
  unfold checkM at h0
  cases ha : nodeAt l a with
  | none => rw [ha] at h0; exact absurd h0 (by simp)
  | some n =>
    cases hb : nodeAt l b with
    | none => rw [ha, hb] at h0; exact absurd h0 (by simp)
    | some p =>
      rw [ha, hb] at h0
      cases hc : nodeAt l c with
      | none =>
        rw [hc] at h0
        dsimp only at h0
        by_cases h1 : c ≠ 0
        · rw [if_pos h1] at h0; exact absurd h0 (by simp)
        · rw [if_neg h1] at h0
          by_cases h2 : decide (a ∈ ch l upX b) = true
          · rw [if_pos h2] at h0; exact absurd h0 (by simp)
          · rw [if_neg h2] at h0
            by_cases h3 : n.kind = 1 ∨ n.kind = 3
            · rw [if_pos h3] at h0; exact absurd h0 (by simp)
            · exact ⟨n, p, rfl, rfl, by simpa using h2, fun e => h3 (.inl e), fun e => h3 (.inr e), .inl (Classical.byContradiction h1)⟩
      | some x =>
        rw [hc] at h0
        dsimp only at h0
        by_cases h2 : decide (a ∈ ch l upX b) = true
        · rw [if_pos h2] at h0; exact absurd h0 (by simp)
        · rw [if_neg h2] at h0
          by_cases h1 : x.parent ≠ b
          · rw [if_pos h1] at h0; exact absurd h0 (by simp)
          · rw [if_neg h1] at h0
            by_cases h3 : n.kind = 1 ∨ n.kind = 3
            · rw [if_pos h3] at h0; exact absurd h0 (by simp)
            · exact ⟨n, p, rfl, rfl, by simpa using h2, fun e => h3 (.inl e), fun e => h3 (.inr e), .inr ⟨x, rfl, Classical.byContradiction h1⟩⟩
/-- What is ahead of which a node is put. -/
def toM (l : List Nd) (a c : Int) : Int := if c = a then nextM l a else c
def mvM (l : List Nd) (a : Int) : List Int := if (nodeR l a).kind = 4 then (nodeR l a).kids else [a]
noncomputable def l1M (l : List Nd) (a : Int) : List Nd := if (nodeR l a).kind = 4 then (putM l a []).1 else leaveM l a
noncomputable def atM (l : List Nd) (a b c : Int) : Nat := if toM l a c ≠ 0 then (nodeR (l1M l a) b).kids.idxOf (toM l a c) else (nodeR (l1M l a) b).kids.length
noncomputable def beforeM (l : List Nd) (a b c : Int) : List Nd × Int :=
  if checkM l a b c ≠ 0 then (l, checkM l a b c)
  else putM (l1M l a) b ((nodeR (l1M l a) b).kids.take (atM l a b c) ++ mvM l a ++ (nodeR (l1M l a) b).kids.drop (atM l a b c))
section
variable {l : List Nd} (h : WF l)
include h
theorem l1_wf (a : Int) : WF (l1M l a) := by
  unfold l1M
  split
  · exact wf_put h _ _
  · exact leave_wf h a
/-- The children of b then. -/
theorem l1_kids {a b : Int} {n p : Nd} (ha : nodeAt l a = some n) (hb : nodeAt l b = some p) (hab : a ≠ b) : (nodeR (l1M l a) b).kids = if n.kind = 4 then p.kids else p.kids.erase a := by
  unfold l1M
  rw [nodeR_some ha]
  by_cases hk : n.kind = 4
  · rw [if_pos hk, if_pos hk, nodeR, (clear_ok h ha).2 b, hb, Option.map_some, Option.getD_some, clearN, if_neg (Ne.symm hab)]
  · rw [if_neg hk, if_neg hk, nodeR, leave_ok h a b, hb, Option.map_some, Option.getD_some, leaveN]
theorem self_in {a b : Int} {n : Nd} (ha : nodeAt l a = some n) (hab : a ∉ ch l upX b) : a ≠ b := fun e => hab (e ▸ up_self h ha)
/-- What is next is another child, or none. -/
theorem next_in {a b : Int} {n p : Nd} (ha : nodeAt l a = some n) (hb : nodeAt l b = some p) (hpar : n.parent = b) : nextM l a = 0 ∨ (nextM l a ∈ p.kids ∧ nextM l a ≠ a) := by
  have hb0 := nodeAt_some hb
  have hsib : sibs l a = p.kids := by rw [sibs, nodeR_some ha, hpar, if_neg (by omega), nodeR_some hb]
  have hin : a ∈ p.kids := (kid_of h hb ha).2 hpar
  have hidx : indexM l a = ((p.kids.idxOf a : Nat) : Int) := by rw [indexM, nodeR_some ha, hpar, if_neg (by omega), hsib, idxI, if_pos hin]
  have hlt : p.kids.idxOf a < p.kids.length := List.idxOf_lt_length_iff.2 hin
  have e : nextM l a = p.kids.getD (p.kids.idxOf a + 1) 0 := by
    rw [nextM, hidx, if_pos (by omega), hsib]
    congr 1
  rw [e, List.getD_eq_getElem?_getD]
  by_cases hl : p.kids.idxOf a + 1 < p.kids.length
  · right
    rw [List.getElem?_eq_getElem hl, Option.getD_some]
    refine ⟨List.getElem_mem hl, fun e2 => ?_⟩
    have h3 : p.kids[p.kids.idxOf a] = a := List.getElem_idxOf hlt
    have e3 : p.kids[p.kids.idxOf a + 1]? = p.kids[p.kids.idxOf a]? := by rw [List.getElem?_eq_getElem hl, List.getElem?_eq_getElem hlt, e2, h3]
    have := (List.getElem?_inj hl (h.nod hb)).1 e3
    omega
  · left
    rw [List.getElem?_eq_none (by omega)]
    rfl
/-- Ahead of whom it is put is a child of b then, or none. -/
theorem to_in {a b c : Int} (h0 : checkM l a b c = 0) : toM l a c = 0 ∨ toM l a c ∈ (nodeR (l1M l a) b).kids := by
  obtain ⟨n, p, ha, hb, hab, hk1, hk3, hc⟩ := chk_ok h0
  rw [l1_kids h ha hb (self_in h ha hab)]
  have key : toM l a c = 0 ∨ (toM l a c ∈ p.kids ∧ toM l a c ≠ a) := by
    unfold toM
    by_cases e : c = a
    · rw [if_pos e]
      subst e
      have hpar : n.parent = b := by
        rcases hc with hc | ⟨x, hx, hxp⟩
        · rw [hc, nodeAt_zero] at ha; cases ha
        · rw [ha] at hx; cases hx; exact hxp
      exact next_in h ha hb hpar
    · rw [if_neg e]
      rcases hc with hc | ⟨x, hx, hxp⟩
      · exact .inl hc
      · exact .inr ⟨(kid_of h hb hx).2 hxp, e⟩
  rcases key with e | ⟨e1, e2⟩
  · exact .inl e
  · right
    split
    · exact e1
    · exact (h.nod hb).mem_erase_iff.2 ⟨e2, e1⟩
theorem at_le {a b c : Int} (h0 : checkM l a b c = 0) : atM l a b c ≤ (nodeR (l1M l a) b).kids.length := by
  have _ := h.len
  unfold atM
  split
  · exact List.idxOf_le_length
  · exact Nat.le_refl _
theorem mv_len (a : Int) : (mvM l a).length ≤ 128 := by
  unfold mvM
  split
  · exact kids_128 h a
  · simp
end
end Go.Proofs.Ytjkidecaciomgaa
