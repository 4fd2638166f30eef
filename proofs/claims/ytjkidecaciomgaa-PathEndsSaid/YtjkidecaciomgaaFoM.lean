/- The forest: what holds of every forest that calls make. -/
import Derived.Test.YtjkidecaciomgaaFo8
namespace Go.Proofs.Ytjkidecaciomgaa
set_option linter.unusedVariables false
set_option linter.unusedSimpArgs false
set_option maxRecDepth 100000
open Go.RowKit

theorem nodeAt_setN {l : List Nd} {k : Int} {x : Nd} (h : nodeAt l k = some x) (x' : Nd) (b : Int) : nodeAt (setN l k x') b = if b = k then some x' else nodeAt l b := by
  have h1 := nodeAt_some h
  unfold nodeAt setN
  by_cases hb : 1 ≤ b
  · rw [if_pos hb, List.getElem?_set]
    by_cases e : b = k
    · subst e
      rw [if_pos rfl, if_pos rfl, if_pos (by omega)]
    · rw [if_neg (by omega), if_neg e]
      rw [if_pos hb]
  · rw [if_neg hb, if_neg hb, if_neg (by omega)]
theorem nodeAt_snoc {l : List Nd} {x : Nd} (b : Int) : nodeAt (l ++ [x]) b = if b = l.length + 1 then some x else nodeAt l b := by
  unfold nodeAt
  by_cases hb : 1 ≤ b
  · rw [if_pos hb, if_pos hb, List.getElem?_append]
    by_cases e : b = l.length + 1
    · subst e
      rw [if_pos rfl, if_neg (by omega)]
      simp
    · rw [if_neg e]
      by_cases h : (b - 1).toNat < l.length
      · rw [if_pos h]
      · rw [if_neg h, List.getElem?_eq_none (l := l) (by omega), List.getElem?_eq_none (by simp; omega)]
  · rw [if_neg hb, if_neg hb, if_neg (by omega)]
theorem nodeAt_setPar {l : List Nd} (k v b : Int) : nodeAt (setPar l k v) b = (nodeAt l b).map fun x => if b = k then { x with parent := v } else x := by
  unfold setPar
  cases h : nodeAt l k with
  | none =>
    simp only
    cases hb : nodeAt l b with
    | none => rfl
    | some x =>
      have : b ≠ k := fun e => by subst e; rw [h] at hb; cases hb
      simp [this]
  | some x =>
    simp only
    rw [nodeAt_setN h]
    by_cases e : b = k
    · subst e; rw [if_pos rfl, h]; simp
    · rw [if_neg e]
      cases nodeAt l b <;> simp [e]
theorem nodeAt_parAll (v b : Int) : ∀ (ks : List Int) (l : List Nd), nodeAt (parAll l ks v) b = (nodeAt l b).map fun x => if b ∈ ks then { x with parent := v } else x
  | [], l => by simp [parAll]
  | k :: ks, l => by
    rw [parAll, List.foldl_cons, ← parAll, nodeAt_parAll v b ks, nodeAt_setPar]
    cases nodeAt l b with
    | none => rfl
    | some x =>
      simp only [Option.map_some, List.mem_cons]
      by_cases e : b = k <;> by_cases h : b ∈ ks <;> simp [e, h]
theorem nodeAt_setKids {l : List Nd} (p : Int) (ks : List Int) (b : Int) : nodeAt (setKids l p ks) b = (nodeAt l b).map fun x => if b = p then { x with kids := ks } else x := by
  unfold setKids
  cases h : nodeAt l p with
  | none =>
    simp only
    cases hb : nodeAt l b with
    | none => rfl
    | some x =>
      have : b ≠ p := fun e => by subst e; rw [h] at hb; cases hb
      simp [this]
  | some x =>
    simp only
    rw [nodeAt_setN h]
    by_cases e : b = p
    · subst e; rw [if_pos rfl, h]; simp
    · rw [if_neg e]
      cases nodeAt l b <;> simp [e]
theorem len_setKids (l : List Nd) (p : Int) (ks : List Int) : (setKids l p ks).length = l.length := by
  unfold setKids
  split
  · exact len_setN _ _ _
  · rfl
/-- A list of nodes is what its numbers tell. -/
theorem nodes_ext {l l' : List Nd} (h : ∀ b, nodeAt l b = nodeAt l' b) : l = l' := by
  apply List.ext_getElem?
  intro i
  have := h ((i : Int) + 1)
  unfold nodeAt at this
  rw [if_pos (by omega), if_pos (by omega)] at this
  simpa using this
/-- What Put leaves. -/
def putN (p : Int) (ks : List Int) (b : Int) (x : Nd) : Nd := { x with parent := if b ∈ ks then p else if x.parent = p then 0 else x.parent, kids := if b = p then ks else x.kids }

/-- A forest as it is. -/
structure WF (l : List Nd) : Prop where
  len : l.length ≤ 128
  ups : Ups l
  par : ∀ {b x}, nodeAt l b = some x → x.parent = 0 ∨ ∃ y, nodeAt l x.parent = some y ∧ b ∈ y.kids
  kid : ∀ {p x c}, nodeAt l p = some x → c ∈ x.kids → ∃ y, nodeAt l c = some y ∧ y.parent = p
  nod : ∀ {p x}, nodeAt l p = some x → x.kids.Nodup
  host : ∀ {b x}, nodeAt l b = some x → x.host = 0 ∨ x.kind = 3 ∧ ∃ y, nodeAt l x.host = some y ∧ y.shadow = b
  shad : ∀ {b x}, nodeAt l b = some x → x.shadow = 0 ∨ x.kind = 2 ∧ ∃ y, nodeAt l x.shadow = some y ∧ y.host = b
  root : ∀ {b x}, nodeAt l b = some x → rootedB x = true → x.parent = 0
  size : ∀ {b x}, nodeAt l b = some x → x.name.size ≤ 9223372036854775807 ∧ x.want.size ≤ 9223372036854775807
theorem wf_nil : WF [] := by
  have h : ∀ b, nodeAt [] b = none := fun b => by unfold nodeAt; split <;> simp
  refine ⟨by simp, ⟨fun h' => ?_, ⟨fun _ => 0, fun b x h' => ?_⟩⟩, fun h' => ?_, fun h' => ?_, fun h' => ?_, fun h' => ?_, fun h' => ?_, fun h' => ?_, fun h' => ?_⟩ <;> (rw [h] at h'; cases h')
theorem wf_make {l : List Nd} (h : WF l) {n : Nd} (h1 : n.name.size ≤ 9223372036854775807) (h2 : n.want.size ≤ 9223372036854775807) : WF (makeM l n).1 := by
  unfold makeM
  split
  · exact h
  · split
    · exact h
    · rename_i hl
      have hz : ∀ b x, nodeAt (l ++ [fresh n]) b = some x → (b = l.length + 1 ∧ x = fresh n) ∨ (b ≠ l.length + 1 ∧ nodeAt l b = some x) := fun b x hb => by
        rw [nodeAt_snoc] at hb
        split at hb
        · rename_i e; cases hb; exact .inl ⟨e, rfl⟩
        · rename_i e; exact .inr ⟨e, hb⟩
      have hold : ∀ {b x}, nodeAt l b = some x → nodeAt (l ++ [fresh n]) b = some x := fun {b x} hb => by
        have := nodeAt_some hb
        rw [nodeAt_snoc, if_neg (by omega), hb]
      have hup : upX (fresh n) = 0 := rfl
      obtain ⟨rk, hrk⟩ := h.ups.rank
      refine ⟨by simp; omega, ⟨fun {b x} hb => ?_, ⟨rk, fun b x hb hne => ?_⟩⟩, fun {b x} hb => ?_, fun {p x c} hb hc => ?_, fun {p x} hb => ?_, fun {b x} hb => ?_, fun {b x} hb => ?_, fun {b x} hb hr => ?_, fun {b x} hb => ?_⟩
      · rcases hz b x hb with ⟨_, rfl⟩ | ⟨_, hb⟩
        · exact .inl hup
        · exact (h.ups.there hb).imp_right fun ⟨y, hy⟩ => ⟨y, hold hy⟩
      · rcases hz b x hb with ⟨_, rfl⟩ | ⟨_, hb⟩
        · exact absurd hup hne
        · exact hrk b x hb hne
      · rcases hz b x hb with ⟨_, rfl⟩ | ⟨_, hb⟩
        · exact .inl rfl
        · exact (h.par hb).imp_right fun ⟨y, hy, hm⟩ => ⟨y, hold hy, hm⟩
      · rcases hz p x hb with ⟨_, rfl⟩ | ⟨_, hb⟩
        · cases hc
        · obtain ⟨y, hy, hm⟩ := h.kid hb hc
          exact ⟨y, hold hy, hm⟩
      · rcases hz p x hb with ⟨_, rfl⟩ | ⟨_, hb⟩
        · exact List.nodup_nil
        · exact h.nod hb
      · rcases hz b x hb with ⟨_, rfl⟩ | ⟨_, hb⟩
        · exact .inl rfl
        · exact (h.host hb).imp_right fun ⟨e, y, hy, hm⟩ => ⟨e, y, hold hy, hm⟩
      · rcases hz b x hb with ⟨_, rfl⟩ | ⟨_, hb⟩
        · exact .inl rfl
        · exact (h.shad hb).imp_right fun ⟨e, y, hy, hm⟩ => ⟨e, y, hold hy, hm⟩
      · rcases hz b x hb with ⟨_, rfl⟩ | ⟨_, hb⟩
        · rfl
        · exact h.root hb hr
      · rcases hz b x hb with ⟨_, rfl⟩ | ⟨_, hb⟩
        · exact ⟨h1, h2⟩
        · exact h.size hb
/-- A forest whose nodes differ in nothing that counts. -/
theorem wf_like {l l' : List Nd} (h : WF l) (g : Int → Nd → Nd) (hl : l'.length = l.length) (hg : ∀ b, nodeAt l' b = (nodeAt l b).map (g b)) (hp : ∀ b x, (g b x).parent = x.parent ∧ (g b x).host = x.host ∧ (g b x).shadow = x.shadow ∧ (g b x).kids = x.kids ∧ (g b x).kind = x.kind) (hs : ∀ b x, nodeAt l b = some x → (g b x).name.size ≤ 9223372036854775807 ∧ (g b x).want.size ≤ 9223372036854775807) : WF l' := by
  have hz : ∀ {b x}, nodeAt l' b = some x → ∃ y, nodeAt l b = some y ∧ x = g b y := fun {b x} hb => by
    rw [hg] at hb
    cases hb' : nodeAt l b with
    | none => rw [hb'] at hb; cases hb
    | some y => rw [hb'] at hb; cases hb; exact ⟨y, rfl, rfl⟩
  have hold : ∀ {b x}, nodeAt l b = some x → nodeAt l' b = some (g b x) := fun {b x} hb => by rw [hg, hb]; rfl
  have hu : ∀ b x, upX (g b x) = upX x := fun b x => by unfold upX; rw [(hp b x).1, (hp b x).2.1]
  obtain ⟨rk, hrk⟩ := h.ups.rank
  refine ⟨by rw [hl]; exact h.len, ⟨fun {b x} hb => ?_, ⟨rk, fun b x hb hne => ?_⟩⟩, fun {b x} hb => ?_, fun {p x c} hb hc => ?_, fun {p x} hb => ?_, fun {b x} hb => ?_, fun {b x} hb => ?_, fun {b x} hb hr => ?_, fun {b x} hb => ?_⟩
  all_goals obtain ⟨y, hy, rfl⟩ := hz hb
  · rw [hu]; exact (h.ups.there hy).imp_right fun ⟨z, hz⟩ => ⟨_, hold hz⟩
  · rw [hu] at hne ⊢; exact hrk b y hy hne
  · rw [(hp b y).1]; exact (h.par hy).imp_right fun ⟨z, hz, hm⟩ => ⟨_, hold hz, by rw [(hp _ z).2.2.2.1]; exact hm⟩
  · rw [(hp p y).2.2.2.1] at hc
    obtain ⟨z, hz, hm⟩ := h.kid hy hc
    exact ⟨_, hold hz, by rw [(hp c z).1]; exact hm⟩
  · rw [(hp p y).2.2.2.1]; exact h.nod hy
  · rw [(hp b y).2.1, (hp b y).2.2.2.2]; exact (h.host hy).imp_right fun ⟨e, z, hz, hm⟩ => ⟨e, _, hold hz, by rw [(hp _ z).2.2.1]; exact hm⟩
  · rw [(hp b y).2.2.1, (hp b y).2.2.2.2]; exact (h.shad hy).imp_right fun ⟨e, z, hz, hm⟩ => ⟨e, _, hold hz, by rw [(hp _ z).2.1]; exact hm⟩
  · rw [(hp b y).1]
    refine h.root hy ?_
    unfold rootedB at hr ⊢
    rwa [(hp b y).2.2.2.2] at hr
  · exact hs b y hy
theorem wf_name {l : List Nd} (h : WF l) (id : Int) {s : ByteArray} (hs : s.size ≤ 9223372036854775807) : WF (nameM l id s).1 := by
  unfold nameM
  cases hx : nodeAt l id with
  | none => exact h
  | some x =>
    simp only
    split
    · exact h
    · split
      · exact h
      · refine wf_like h (fun b y => if b = id then { y with name := s } else y) (len_setN _ _ _) (fun b => ?_) (fun b y => by split <;> simp) fun b y hy => ?_
        · rw [nodeAt_setN hx]
          by_cases e : b = id
          · subst e; rw [if_pos rfl, hx]; simp
          · rw [if_neg e]; cases nodeAt l b <;> simp [e]
        · have := h.size hy
          split
          · exact ⟨hs, this.2⟩
          · exact this
theorem wf_want {l : List Nd} (h : WF l) (id : Int) {s : ByteArray} (hs : s.size ≤ 9223372036854775807) : WF (wantM l id s).1 := by
  unfold wantM
  cases hx : nodeAt l id with
  | none => exact h
  | some x =>
    simp only
    split
    · exact h
    · split
      · exact h
      · refine wf_like h (fun b y => if b = id then { y with want := s } else y) (len_setN _ _ _) (fun b => ?_) (fun b y => by split <;> simp) fun b y hy => ?_
        · rw [nodeAt_setN hx]
          by_cases e : b = id
          · subst e; rw [if_pos rfl, hx]; simp
          · rw [if_neg e]; cases nodeAt l b <;> simp [e]
        · have := h.size hy
          split
          · exact ⟨this.1, hs⟩
          · exact this
end Go.Proofs.Ytjkidecaciomgaa
