/- What is seen of a path, plain: just what is not hidden. -/
import Derived.Test.YtjkidecaciomgaaFoV
import Derived.Test.YtjkidecaciomgaaSe1
namespace Go.Proofs.Ytjkidecaciomgaa
set_option linter.unusedVariables false
set_option linter.unusedSimpArgs false
set_option maxRecDepth 100000
open Go.RowKit

/-- What is seen from a node. -/
def seenP (xs : List St) (node : Int) : List Int :=
  if (placeP xs node).1 < 0 then [] else
    (seeL St.cr St.cs ((xs.take (placeP xs node).1.toNat).reverse) (placeP xs node).2 (placeP xs node).2).reverse ++ [node] ++
      seeL St.cs St.cr (xs.drop ((placeP xs node).1.toNat + 1)) (placeP xs node).2 (placeP xs node).2
theorem plL_cases (node : Int) (l : List (Nat × St)) : ∀ lv : Int, ((∀ x ∈ l, x.2.node ≠ node) ∧ plL node l lv = (-1, 0)) ∨ ∃ x ∈ l, x.2.node = node ∧ ∃ z : Int, plL node l lv = ((x.1 : Int), z) ∧ lv - l.length ≤ z ∧ z ≤ lv + l.length := by
  induction l with
  | nil => intro lv; exact .inl ⟨fun x hx => (by cases hx), rfl⟩
  | cons x r ih =>
    intro lv
    have hb : 0 ≤ b2i x.2.cr ∧ b2i x.2.cr ≤ 1 := by unfold b2i; split <;> omega
    have hs : 0 ≤ b2i x.2.cs ∧ b2i x.2.cs ≤ 1 := by unfold b2i; split <;> omega
    unfold plL
    by_cases h : x.2.node = node
    · rw [if_pos h]
      exact .inr ⟨x, by simp, h, _, rfl, by simp only [List.length_cons]; omega, by simp only [List.length_cons]; omega⟩
    · rw [if_neg h]
      rcases ih (lv + b2i x.2.cr - b2i x.2.cs) with ⟨h0, h1⟩ | ⟨y, hy, h0, z, h1, h2, h3⟩
      · refine .inl ⟨fun y hy => ?_, h1⟩
        rcases List.mem_cons.1 hy with rfl | hy
        · exact h
        · exact h0 y hy
      · exact .inr ⟨y, by simp [hy], h0, z, h1, by simp only [List.length_cons]; omega, by simp only [List.length_cons]; omega⟩
theorem placeP_cases (xs : List St) (node : Int) : ((∀ s ∈ xs, s.node ≠ node) ∧ placeP xs node = (-1, 0)) ∨ ∃ (m : Nat) (s : St) (lv : Int), xs[m]? = some s ∧ s.node = node ∧ placeP xs node = ((m : Int), lv) ∧ -(xs.length : Int) ≤ lv ∧ lv ≤ xs.length := by
  rcases plL_cases node (upto (backF xs) xs.length) 0 with ⟨h0, h⟩ | ⟨x, hx, h0, z, h, h2, h3⟩
  · refine .inl ⟨fun s hs => ?_, h⟩
    obtain ⟨i, hi, rfl⟩ := List.mem_iff_getElem.1 hs
    have := h0 (backF xs (xs.length - 1 - i)) (by simp only [upto, List.mem_map, List.mem_range]; exact ⟨_, by omega, rfl⟩)
    simp only [backF] at this
    rw [show xs.length - 1 - (xs.length - 1 - i) = i by omega, List.getD_eq_getElem?_getD, List.getElem?_eq_getElem hi] at this
    exact this
  · right
    simp only [upto, List.mem_map, List.mem_range] at hx
    obtain ⟨k, hk, rfl⟩ := hx
    rw [upto_length] at h2 h3
    have hi : xs.length - 1 - k < xs.length := by omega
    simp only [backF] at h0 h
    rw [List.getD_eq_getElem?_getD, List.getElem?_eq_getElem hi] at h0
    exact ⟨xs.length - 1 - k, _, z, List.getElem?_eq_getElem hi, h0, h, by omega, by omega⟩
section
variable {l : List Nd} {b : Int} (h : WF l)
include h
/-- On the way from b. -/
def FwC (l : List Nd) (b : Int) : Int → List St → Prop
  | _, [] => True
  | x, s :: r => Stp l x s.node ∧ s.cs = (decide (ofM l x ≠ 0) && isClosed l (rootM l s.node)) ∧ s.cr = isClosed l s.node ∧ (∀ P q, PushK l x s.node P q → q ∉ ch l upX b) ∧ FwC l b s.node r
theorem see_fw : ∀ (ys : List St) (x : Int) (lv lim : Int), FwC l b x ys → lv - lim = ((if isClosed l x = true then outK l b (ch l upX x) - 1 else outK l b (ch l upX x) : Nat) : Int) → seeL St.cs St.cr ys lv lim = (ys.map St.node).filter fun a => decide (outK l b (ch l upX a) = 0)
  | [], x, lv, lim, _, _ => rfl
  | s :: r, x, lv, lim, ⟨h1, h2, h3, h4, h5⟩, hl => by
    have hK := out_fw (b := b) h h1 h4
    rw [← h2] at hK
    have hlv : lv + b2i s.cs - lim = (outK l b (ch l upX s.node) : Nat) := by
      rw [← hK]
      unfold b2i
      by_cases e : s.cs = true <;> simp only [e, if_true, if_false] <;> push_cast <;> omega
    generalize hk : outK l b (ch l upX s.node) = k at *
    rw [seeL_cons, List.map_cons, List.filter_cons, hk]
    have e1 : (if lv + b2i s.cs ≤ lim then [s.node] else ([] : List Int)) = if k = 0 then [s.node] else [] := by
      by_cases e : k = 0
      · rw [if_pos e, if_pos (by omega)]
      · rw [if_neg e, if_neg (by omega)]
    have e2 : (if s.cr = true then seeL St.cs St.cr r (lv + b2i s.cs - 1) (min lim (lv + b2i s.cs - 1)) else seeL St.cs St.cr r (lv + b2i s.cs) lim) = (r.map St.node).filter fun a => decide (outK l b (ch l upX a) = 0) := by
      by_cases e : s.cr = true
      · rw [if_pos e]
        exact see_fw r s.node _ _ h5 (by rw [← h3, if_pos e, hk]; omega)
      · rw [if_neg e]
        exact see_fw r s.node _ _ h5 (by rw [← h3, if_neg e, hk]; omega)
    rw [e1, e2]
    by_cases e : k = 0
    · simp [e]
    · simp [e]
/-- On the way to b, from b back. -/
def BwC (l : List Nd) (b : Int) : Int → Bool → List St → Prop
  | _, _, [] => True
  | y, c, s :: r => Stp l s.node y ∧ c = (decide (ofM l s.node ≠ 0) && isClosed l (rootM l y)) ∧ s.cr = isClosed l s.node ∧ s.node ∉ ch l upX b ∧ BwC l b s.node s.cs r
theorem see_bw : ∀ (ys : List St) (y : Int) (c : Bool) (lv lim : Int), BwC l b y c ys → lv - lim = ((if c = true then outK l b (ch l upX y) - 1 else outK l b (ch l upX y) : Nat) : Int) → seeL St.cr St.cs ys lv lim = (ys.map St.node).filter fun a => decide (outK l b (ch l upX a) = 0)
  | [], y, c, lv, lim, _, _ => rfl
  | s :: r, y, c, lv, lim, ⟨h1, h2, h3, h4, h5⟩, hl => by
    have hK := out_bw (b := b) h h1 h4
    rw [← h2, ← h3] at hK
    have hlv : lv + b2i s.cr - lim = (outK l b (ch l upX s.node) : Nat) := by
      rw [← hK]
      unfold b2i
      by_cases e : s.cr = true <;> simp only [e, if_true, if_false] <;> push_cast <;> omega
    generalize hk : outK l b (ch l upX s.node) = k at *
    rw [seeL_cons, List.map_cons, List.filter_cons, hk]
    have e1 : (if lv + b2i s.cr ≤ lim then [s.node] else ([] : List Int)) = if k = 0 then [s.node] else [] := by
      by_cases e : k = 0
      · rw [if_pos e, if_pos (by omega)]
      · rw [if_neg e, if_neg (by omega)]
    have e2 : (if s.cs = true then seeL St.cr St.cs r (lv + b2i s.cr - 1) (min lim (lv + b2i s.cr - 1)) else seeL St.cr St.cs r (lv + b2i s.cr) lim) = (r.map St.node).filter fun a => decide (outK l b (ch l upX a) = 0) := by
      by_cases e : s.cs = true
      · rw [if_pos e]
        exact see_bw r s.node s.cs _ _ h5 (by rw [if_pos e, hk]; omega)
      · rw [if_neg e]
        exact see_bw r s.node s.cs _ _ h5 (by rw [if_neg e, hk]; omega)
    rw [e1, e2]
    by_cases e : k = 0
    · simp [e]
    · simp [e]
end
/-- What is told of a path here. -/
structure SeeOk (l : List Nd) (xs : List St) : Prop where
  nd : (xs.map St.node).Nodup
  ex : ∀ s ∈ xs, ∃ y, nodeAt l s.node = some y
  cr : ∀ s ∈ xs, s.cr = isClosed l s.node
  st : ∀ i s s', xs[i]? = some s → xs[i + 1]? = some s' → Stp l s.node s'.node ∧ s'.cs = (decide (ofM l s.node ≠ 0) && isClosed l (rootM l s'.node))
section
variable {l : List Nd} (h : WF l) {xs : List St} (ok : SeeOk l xs)
include h ok
theorem SeeOk.way : ∀ i, i + 1 < xs.length → Stp l ((fun i => (xs.getD i ⟨0, 0, 0, false, false⟩).node) i) ((fun i => (xs.getD i ⟨0, 0, 0, false, false⟩).node) (i + 1)) := fun i hi => by
  have _ := h.len
  have h1 : xs[i]? = some xs[i] := by simp
  have h2 : xs[i + 1]? = some xs[i + 1] := by simp [hi]
  have := (ok.st i _ _ h1 h2).1
  try dsimp only
  rw [List.getD_eq_getElem?_getD, List.getD_eq_getElem?_getD, h1, h2]
  exact this
theorem SeeOk.fw {i : Nat} {s : St} (hs : xs[i]? = some s) : ∀ (d k : Nat) (x : St), i ≤ k → xs[k]? = some x → xs.length = k + 1 + d → FwC l s.node x.node (xs.drop (k + 1))
  | 0, k, x, hik, hx, hd => by
    rw [List.drop_eq_nil_of_le (by omega)]
    trivial
  | d + 1, k, x, hik, hx, hd => by
    have hlt : k + 1 < xs.length := by omega
    have h2 : xs[k + 1]? = some xs[k + 1] := by simp [hlt]
    rw [List.drop_eq_getElem_cons hlt]
    obtain ⟨h3, h4⟩ := ok.st k x _ hx h2
    refine ⟨h3, h4, ok.cr _ (List.getElem_mem hlt), fun P q kk => ?_, SeeOk.fw hs d (k + 1) _ (by omega) h2 (by omega)⟩
    have := way_push h (ok.way h) (k := k) (i := i) hlt (P := P) (s := q) (by
      try dsimp only
      rw [List.getD_eq_getElem?_getD, List.getD_eq_getElem?_getD, hx, h2]
      exact kk) hik
    try dsimp only at this
    rwa [List.getD_eq_getElem?_getD, hs] at this
theorem SeeOk.bw {i : Nat} {s : St} (hs : xs[i]? = some s) : ∀ (k : Nat) (y : St), k ≤ i → xs[k]? = some y → BwC l s.node y.node y.cs ((xs.take k).reverse)
  | 0, y, _, _ => by
    rw [List.take_zero]
    trivial
  | k + 1, y, hik, hy => by
    have hlt : k < xs.length := by have := (List.getElem?_eq_some_iff.1 hy).1; omega
    have hi := (List.getElem?_eq_some_iff.1 hs).1
    have h1 : xs[k]? = some xs[k] := by simp [hlt]
    obtain ⟨h3, h4⟩ := ok.st k _ y h1 hy
    rw [List.take_add_one, h1, Option.toList_some, List.reverse_append, List.reverse_singleton, List.singleton_append]
    refine ⟨h3, h4, ok.cr _ (List.getElem_mem hlt), ?_, SeeOk.bw hs k _ (by omega) h1⟩
    have := way_gone h (ok.way h) i hi k (by omega)
    try dsimp only at this
    rwa [List.getD_eq_getElem?_getD, List.getD_eq_getElem?_getD, hs, h1] at this
theorem SeeOk.top {i j : Nat} {s t : St} (hs : xs[i]? = some s) (ht : xs[j]? = some t) : TopEq l s.node t.node := by
  have hi := (List.getElem?_eq_some_iff.1 hs).1
  have hj := (List.getElem?_eq_some_iff.1 ht).1
  rcases Nat.le_total i j with hij | hij
  · have := way_top h (ok.way h) j hij hj
    try dsimp only at this
    rwa [List.getD_eq_getElem?_getD, List.getD_eq_getElem?_getD, hs, ht] at this
  · have := way_top h (ok.way h) i hij hi
    try dsimp only at this
    rw [List.getD_eq_getElem?_getD, List.getD_eq_getElem?_getD, hs, ht] at this
    exact this.symm
/-- Just what isn't hidden is seen. -/
theorem see_ok {i : Nat} {s : St} (hs : xs[i]? = some s) : seenP xs s.node = (xs.map St.node).filter fun a => !hiddenM l a s.node := by
  have hi := (List.getElem?_eq_some_iff.1 hs).1
  obtain ⟨m, hm⟩ := ok.ex s (List.mem_of_getElem? hs)
  have hself : outK l s.node (ch l upX s.node) = 0 := outK_in h (up_self h hm)
  have h1 : seenP xs s.node = (xs.map St.node).filter fun a => decide (outK l s.node (ch l upX a) = 0) := by
    rcases placeP_cases xs s.node with ⟨h0, _⟩ | ⟨j, t, lv, ht, he, hp, _⟩
    · exact absurd rfl (h0 s (List.mem_of_getElem? hs))
    · have hj := (List.getElem?_eq_some_iff.1 ht).1
      have hij : j = i := by
        have e1 : (xs.map St.node)[j]? = some s.node := by rw [List.getElem?_map, ht, Option.map_some, he]
        have e2 : (xs.map St.node)[i]? = some s.node := by rw [List.getElem?_map, hs]; rfl
        exact (List.getElem?_inj (by rw [List.length_map]; exact hj) ok.nd).1 (e1.trans e2.symm)
      subst hij
      have hsplit : xs.map St.node = (xs.take j).map St.node ++ s.node :: (xs.drop (j + 1)).map St.node := by
        have h2 : xs = xs.take j ++ s :: xs.drop (j + 1) := by
          rw [← (List.getElem?_eq_some_iff.1 hs).2, ← List.drop_eq_getElem_cons hi, List.take_append_drop]
        rw [← List.map_cons, ← List.map_append, ← h2]
      have hf := see_fw h (xs.drop (j + 1)) s.node lv lv (ok.fw h hs (xs.length - (j + 1)) j s (Nat.le_refl _) hs (by omega)) (by rw [hself]; simp)
      have hb := see_bw h ((xs.take j).reverse) s.node s.cs lv lv (ok.bw h hs j s (Nat.le_refl _) hs) (by rw [hself]; simp)
      unfold seenP
      rw [hp]
      dsimp only
      rw [if_neg (by omega), show ((j : Int)).toNat = j by omega, hf, hb, List.map_reverse, List.filter_reverse, List.reverse_reverse, hsplit, List.filter_append, List.filter_cons, hself]
      simp
  rw [h1]
  refine List.filter_congr fun a ha => ?_
  obtain ⟨t, ht, rfl⟩ := List.mem_map.1 ha
  obtain ⟨j, hj, rfl⟩ := List.mem_iff_getElem.1 ht
  rw [hid_out h hm (ok.top h (List.getElem?_eq_getElem hj) hs), Bool.not_not]
end
section
variable {l : List Nd} {target related : Int} {comp : Bool}
theorem way_see {xs : List St} {t f a : Int} (hw : Way l target related comp t f a xs) : (∀ s ∈ xs, s.cr = isClosed l s.node) ∧ (∀ s, xs[0]? = some s → s.cs = (decide (ofM l f ≠ 0) && isClosed l (rootM l s.node))) ∧ ∀ i s s', xs[i]? = some s → xs[i + 1]? = some s' → s'.cs = (decide (ofM l s.node ≠ 0) && isClosed l (rootM l s'.node)) := by
  induction hw with
  | stop _ _ _ => exact ⟨fun s hs => (by cases hs), fun s hs => (by cases hs), fun i s s' _ h2 => by simp at h2⟩
  | done => exact ⟨fun s hs => (by cases hs), fun s hs => (by cases hs), fun i s s' _ h2 => by simp at h2⟩
  | @same t f a xs _ _ _ ih =>
    refine ⟨fun s hs => ?_, fun s hs => ?_, fun i s s' h1 h2 => ?_⟩
    · rcases List.mem_cons.1 hs with rfl | hs
      · rfl
      · exact ih.1 s hs
    · have hs : some (stM l a 0 (aimM l related a) (decide (ofM l f ≠ 0))) = some s := hs
      cases hs
      rfl
    · cases i with
      | zero =>
        have h1 : some (stM l a 0 (aimM l related a) (decide (ofM l f ≠ 0))) = some s := h1
        cases h1
        exact ih.2.1 s' h2
      | succ i => exact ih.2.2 i s s' h1 h2
  | @turn t f a xs _ _ _ _ ih =>
    refine ⟨fun s hs => ?_, fun s hs => ?_, fun i s s' h1 h2 => ?_⟩
    · rcases List.mem_cons.1 hs with rfl | hs
      · rfl
      · exact ih.1 s hs
    · have hs : some (stM l a a (aimM l related a) (decide (ofM l f ≠ 0))) = some s := hs
      cases hs
      rfl
    · cases i with
      | zero =>
        have h1 : some (stM l a a (aimM l related a) (decide (ofM l f ≠ 0))) = some s := h1
        cases h1
        exact ih.2.1 s' h2
      | succ i => exact ih.2.2 i s s' h1 h2
end
theorem path_see {l : List Nd} (h : WF l) (target related : Int) (comp : Bool) : SeeOk l (pathM l target related comp) := by
  have hu := path_up h target related comp
  have hp := path_ok h target related comp
  have hn := ok_nodes hp
  generalize pathM l target related comp = xs at *
  have hex : ∀ s ∈ xs, ∃ y, nodeAt l s.node = some y := fun s hs => by
    have hm : s.node ∈ wayN (evP l target comp) xs.length target := by rw [← hn]; exact List.mem_map_of_mem hs
    cases hp with
    | none _ => cases hs
    | nil _ _ _ => cases hs
    | some hy _ _ => exact way_there h target comp _ _ (.inr hy) _ hm
  have hcs : (∀ s ∈ xs, s.cr = isClosed l s.node) ∧ ∀ i s s', xs[i]? = some s → xs[i + 1]? = some s' → s'.cs = (decide (ofM l s.node ≠ 0) && isClosed l (rootM l s'.node)) := by
    cases hp with
    | none _ => exact ⟨fun s hs => (by cases hs), fun i s s' h1 _ => by simp at h1⟩
    | nil _ _ _ => exact ⟨fun s hs => (by cases hs), fun i s s' h1 _ => by simp at h1⟩
    | some _ _ hw =>
      obtain ⟨h1, h2, h3⟩ := way_see hw
      refine ⟨fun s hs => ?_, fun i s s' e1 e2 => ?_⟩
      · rcases List.mem_cons.1 hs with rfl | hs
        · rfl
        · exact h1 s hs
      · cases i with
        | zero =>
          have e1 : some (stM l target target (aimM l related target) false) = some s := e1
          cases e1
          exact h2 s' e2
        | succ i => exact h3 i s s' e1 e2
  refine ⟨hu.nd, hex, hcs.1, fun i s s' h1 h2 => ⟨?_, hcs.2 i s s' h1 h2⟩⟩
  obtain ⟨n, hn1⟩ := hex s (List.mem_of_getElem? h1)
  obtain ⟨m, hm1⟩ := hex s' (List.mem_of_getElem? h2)
  have e := hu.nx i s s' h1 h2
  rw [e]
  exact stp_ev h target comp hn1 fun e0 => by rw [← e] at e0; rw [e0, nodeAt_zero] at hm1; cases hm1
end Go.Proofs.Ytjkidecaciomgaa
