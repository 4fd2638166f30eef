/- Shadow trees, plain: roots, hosts, who holds whom. -/
import Derived.Test.YtjkidecaciomgaaKi1
namespace Go.Proofs.Ytjkidecaciomgaa
set_option linter.unusedVariables false
set_option linter.unusedSimpArgs false
set_option maxRecDepth 100000
open Go.RowKit

theorem desc_induct {l : List Nd} {s : Nd → Int} (hd : Desc l s) {p : Int → Prop} (h0 : ∀ id, nodeAt l id = none → p id) (h1 : ∀ id x, nodeAt l id = some x → p (s x) → p id) : ∀ id, p id := by
  obtain ⟨rk, hrk⟩ := hd
  have key : ∀ n id, rk id = n → p id := by
    intro n
    induction n using Nat.strongRecOn with
    | _ n ih =>
      intro id e
      cases hx : nodeAt l id with
      | none => exact h0 id hx
      | some x =>
        refine h1 id x hx ?_
        by_cases hs : s x = 0
        · rw [hs]
          exact h0 0 nodeAt_zero
        · exact ih _ (e ▸ hrk id x hx hs) _ rfl
  exact fun id => key _ id rfl
section
variable {l : List Nd} (h : WF l)
include h
theorem par_step {id : Int} {x : Nd} (hx : nodeAt l id = some x) : ch l Nd.parent id = id :: ch l Nd.parent x.parent := ch_step (desc_par h) h.len hx
theorem up_step {id : Int} {x : Nd} (hx : nodeAt l id = some x) : ch l upX id = id :: ch l upX (upX x) := ch_step (desc_up h) h.len hx
theorem root_none {id : Int} (hx : nodeAt l id = none) : rootM l id = 0 := by
  have _ := h.len
  rw [rootM, ch_none hx]; rfl
theorem root_top {id : Int} {x : Nd} (hx : nodeAt l id = some x) (hp : x.parent = 0) : rootM l id = id := by
  rw [rootM, par_step h hx, hp, ch_none nodeAt_zero]; rfl
theorem root_sub {id : Int} {x : Nd} (hx : nodeAt l id = some x) (hp : x.parent ≠ 0) : rootM l id = rootM l x.parent := by
  obtain ⟨y, hy, _⟩ := (h.par hx).resolve_left hp
  rw [rootM, par_step h hx, rootM, par_step h hy]
  rfl
theorem root_some {id : Int} {x : Nd} (hx : nodeAt l id = some x) : ∃ r, nodeAt l (rootM l id) = some r ∧ r.parent = 0 := by
  have : ∀ id, nodeAt l id ≠ none → ∃ r, nodeAt l (rootM l id) = some r ∧ r.parent = 0 := by
    refine desc_induct (desc_par h) (fun id h0 h1 => absurd h0 h1) fun id x hx ih _ => ?_
    by_cases hp : x.parent = 0
    · exact ⟨x, by rw [root_top h hx hp]; exact hx, hp⟩
    · obtain ⟨y, hy, _⟩ := (h.par hx).resolve_left hp
      rw [root_sub h hx hp]
      exact ih (by rw [hy]; simp)
  exact this id (by rw [hx]; simp)
theorem root_mem {id : Int} {x : Nd} (hx : nodeAt l id = some x) : rootM l id ∈ ch l Nd.parent id := by
  rw [rootM, List.getLastD_eq_getLast?]
  cases he : (ch l Nd.parent id).getLast? with
  | none =>
    rw [List.getLast?_eq_none_iff, par_step h hx] at he
    cases he
  | some v => exact List.mem_of_getLast? he
theorem root_root (id : Int) : rootM l (rootM l id) = rootM l id := by
  cases hx : nodeAt l id with
  | none => rw [root_none h hx, root_none h nodeAt_zero]
  | some x =>
    obtain ⟨r, hr, hp⟩ := root_some h hx
    exact root_top h hr hp
end
/-- The host of a node's tree; 0: none. -/
def hostM (l : List Nd) (id : Int) : Int := (nodeR l (rootM l id)).host
section
variable {l : List Nd} (h : WF l)
include h
theorem host_none {id : Int} (hx : nodeAt l id = none) : hostM l id = 0 := by
  rw [hostM, root_none h hx, nodeR_none nodeAt_zero]; rfl
theorem host_root (id : Int) : hostM l (rootM l id) = hostM l id := by rw [hostM, root_root h, hostM]
theorem host_ok (id : Int) : hostM l id = 0 ∨ (nodeR l (rootM l id)).kind = 3 ∧ ∃ y, nodeAt l (hostM l id) = some y ∧ y.shadow = rootM l id := by
  cases hx : nodeAt l id with
  | none => exact .inl (host_none h hx)
  | some x =>
    obtain ⟨r, hr, _⟩ := root_some h hx
    rw [hostM, nodeR_some hr]
    exact h.host hr
/-- A chain goes through its tree, then on from the host. -/
theorem up_split (id : Int) : ch l upX id = ch l Nd.parent id ++ ch l upX (hostM l id) := by
  refine desc_induct (desc_par h) (p := fun id => ch l upX id = ch l Nd.parent id ++ ch l upX (hostM l id)) (fun id hx => ?_) (fun id x hx ih => ?_) id
  · rw [ch_none hx, ch_none hx, host_none h hx, ch_none nodeAt_zero]; rfl
  · rw [up_step h hx, par_step h hx, List.cons_append]
    by_cases hp : x.parent = 0
    · rw [hp, ch_none nodeAt_zero, List.nil_append, hostM, root_top h hx hp, nodeR_some hx, upX, if_pos hp]
    · rw [show upX x = x.parent by simp [upX, hp], ih, hostM, hostM, root_sub h hx hp]
theorem host_lt {id : Int} {x : Nd} (hx : nodeAt l id = some x) : (ch l upX (hostM l id)).length < (ch l upX id).length := by
  rw [up_split h id, par_step h hx, List.length_append, List.length_cons]
  omega
theorem host_induct {p : Int → Prop} (h0 : ∀ id, nodeAt l id = none → p id) (h1 : ∀ id x, nodeAt l id = some x → p (hostM l id) → p id) : ∀ id, p id := by
  have key : ∀ n id, (ch l upX id).length = n → p id := by
    intro n
    induction n using Nat.strongRecOn with
    | _ n ih =>
      intro id e
      cases hx : nodeAt l id with
      | none => exact h0 id hx
      | some x => exact h1 id x hx (ih _ (e ▸ host_lt h hx) _ rfl)
  exact fun id => key _ id rfl
theorem up_trans {a b c : Int} (h1 : a ∈ ch l upX b) (h2 : b ∈ ch l upX c) : a ∈ ch l upX c := by
  refine desc_induct (desc_up h) (p := fun c => b ∈ ch l upX c → a ∈ ch l upX c) (fun id hx hm => ?_) (fun id x hx ih hm => ?_) c h2
  · rw [ch_none hx] at hm; cases hm
  · rw [up_step h hx] at hm
    rcases List.mem_cons.1 hm with rfl | hm
    · exact h1
    · rw [up_step h hx]
      exact List.mem_cons_of_mem _ (ih hm)
theorem up_self {a : Int} {x : Nd} (hx : nodeAt l a = some x) : a ∈ ch l upX a := by rw [up_step h hx]; exact List.mem_cons_self
theorem up_le {a b : Int} (h1 : a ∈ ch l upX b) : a = b ∨ (ch l upX a).length < (ch l upX b).length := by
  refine desc_induct (desc_up h) (p := fun b => a ∈ ch l upX b → a = b ∨ (ch l upX a).length < (ch l upX b).length) (fun id hx hm => ?_) (fun id x hx ih hm => ?_) b h1
  · rw [ch_none hx] at hm; cases hm
  · rw [up_step h hx] at hm ⊢
    rcases List.mem_cons.1 hm with rfl | hm
    · exact .inl rfl
    · rcases ih hm with e | e
      · rw [← e, List.length_cons]; exact .inr (by omega)
      · rw [List.length_cons]; exact .inr (by omega)
theorem up_anti {a b : Int} (h1 : a ∈ ch l upX b) (h2 : b ∈ ch l upX a) : a = b := by
  rcases up_le h h1 with e | e
  · exact e
  · rcases up_le h h2 with e' | e'
    · exact e'.symm
    · omega
theorem up_there {a b : Int} (h1 : a ∈ ch l upX b) : (∃ x, nodeAt l a = some x) ∧ ∃ y, nodeAt l b = some y := by
  have _ := h.len
  constructor
  · have := ch_in h1
    cases hx : nodeAt l a with
    | none => have := nodeAt_none hx; omega
    | some x => exact ⟨x, rfl⟩
  · cases hx : nodeAt l b with
    | none => rw [ch_none hx] at h1; cases h1
    | some x => exact ⟨x, rfl⟩
theorem par_up {a b : Int} (h1 : a ∈ ch l Nd.parent b) : a ∈ ch l upX b := by rw [up_split h]; exact List.mem_append_left _ h1
theorem host_up {a b : Int} (h1 : a ∈ ch l upX (hostM l b)) : a ∈ ch l upX b := by rw [up_split h]; exact List.mem_append_right _ h1
theorem root_up {a : Int} {x : Nd} (hx : nodeAt l a = some x) : rootM l a ∈ ch l upX a := par_up h (root_mem h hx)
end
/-- A node, its tree's host, and so on. -/
def hsN (l : List Nd) : Nat → Int → List Int
  | 0, _ => []
  | n + 1, id => match nodeAt l id with
    | none => []
    | some _ => id :: hsN l n (hostM l id)
def hs (l : List Nd) (id : Int) : List Int := hsN l 129 id
theorem hsN_none {l : List Nd} {n : Nat} {id : Int} (hx : nodeAt l id = none) : hsN l n id = [] := by cases n <;> simp [hsN, hx]
theorem hs_none {l : List Nd} {id : Int} (hx : nodeAt l id = none) : hs l id = [] := hsN_none hx
section
variable {l : List Nd} (h : WF l)
include h
theorem hsN_more : ∀ (n : Nat) (id : Int), (ch l upX id).length < n → hsN l (n + 1) id = hsN l n id
  | 0, id, hl => by omega
  | n + 1, id, hl => by
    cases hx : nodeAt l id with
    | none => rw [hsN_none hx, hsN_none hx]
    | some x =>
      have := host_lt h hx
      have e : ∀ m, hsN l (m + 1) id = id :: hsN l m (hostM l id) := fun m => by rw [hsN, hx]
      rw [e, e, hsN_more n _ (by omega)]
theorem hs_step {id : Int} {x : Nd} (hx : nodeAt l id = some x) : hs l id = id :: hs l (hostM l id) := by
  have h1 := ch_len (desc_up h) id
  have h2 := h.len
  unfold hs
  rw [← hsN_more h 129 id (by omega), hsN, hx]
theorem hs_len (id : Int) : (hs l id).length ≤ (ch l upX id).length := by
  refine host_induct h (p := fun id => (hs l id).length ≤ (ch l upX id).length) (fun id hx => ?_) (fun id x hx ih => ?_) id
  · rw [hs_none hx]; exact Nat.zero_le _
  · have := host_lt h hx
    rw [hs_step h hx, List.length_cons]
    omega
theorem hs_le (id : Int) : (hs l id).length ≤ l.length := Nat.le_trans (hs_len h id) (ch_len (desc_up h) id)
end
/-- The roots around, the innermost first. -/
def rootsM (l : List Nd) (id : Int) : List Int := (hs l id).map (rootM l)
def wholeM (l : List Nd) (id : Int) : Int := (rootsM l id).getLastD 0
def hidL (l : List Nd) (b : Int) : List Int → Bool
  | [] => false
  | a :: t => if hostM l a = 0 ∨ rootM l a ∈ ch l upX b then false else if (nodeR l (rootM l a)).mode = 2 then true else hidL l b t
def hiddenM (l : List Nd) (a b : Int) : Bool := (nodeAt l b).isSome && hidL l b (hs l a)
def isClosed (l : List Nd) (r : Int) : Bool := decide ((nodeR l r).kind = 3) && decide ((nodeR l r).mode = 2)
def closedM (l : List Nd) (id : Int) : List Int := (rootsM l id).filter (isClosed l)
def aimL (l : List Nd) (b : Int) : List Int → Int
  | [] => 0
  | a :: t => if hostM l a = 0 ∨ rootM l a ∈ ch l upX b then a else aimL l b t
def aimM (l : List Nd) (a b : Int) : Int := aimL l b (hs l a)
section
variable {l : List Nd} (h : WF l)
include h
theorem whole_step {id : Int} {x : Nd} (hx : nodeAt l id = some x) : wholeM l id = if hostM l id = 0 then rootM l id else wholeM l (hostM l id) := by
  rw [wholeM, rootsM, hs_step h hx, List.map_cons]
  split
  · rename_i h0
    rw [h0, hs_none nodeAt_zero]; rfl
  · rename_i h0
    obtain ⟨y, hy, _⟩ := ((host_ok h id).resolve_left h0).2
    rw [wholeM, rootsM, hs_step h hy, List.map_cons]
    rfl
theorem whole_none {id : Int} (hx : nodeAt l id = none) : wholeM l id = 0 := by
  have _ := h.len
  rw [wholeM, rootsM, hs_none hx]; rfl
theorem hid_step {a b : Int} {x : Nd} (hx : nodeAt l a = some x) : hidL l b (hs l a) = if hostM l a = 0 ∨ rootM l a ∈ ch l upX b then false else if (nodeR l (rootM l a)).mode = 2 then true else hidL l b (hs l (hostM l a)) := by
  rw [hs_step h hx, hidL]
theorem aim_step {a b : Int} {x : Nd} (hx : nodeAt l a = some x) : aimM l a b = if hostM l a = 0 ∨ rootM l a ∈ ch l upX b then a else aimM l (hostM l a) b := by
  rw [aimM, hs_step h hx, aimL]
  rfl
theorem aim_none {a b : Int} (hx : nodeAt l a = none) : aimM l a b = 0 := by
  have _ := h.len
  rw [aimM, hs_none hx]; rfl
/-! ### Laws -/
/-- What is told: it ends where the host is none, or the root holds. -/
theorem aim_ok (a b : Int) : nodeAt l a = none ∧ aimM l a b = 0 ∨ (∃ y, nodeAt l (aimM l a b) = some y ∧ (aimM l a b = a ∨ y.shadow ≠ 0)) ∧ (hostM l (aimM l a b) = 0 ∨ rootM l (aimM l a b) ∈ ch l upX b) ∧ aimM l a b ∈ ch l upX a := by
  refine host_induct h (p := fun a => nodeAt l a = none ∧ aimM l a b = 0 ∨ (∃ y, nodeAt l (aimM l a b) = some y ∧ (aimM l a b = a ∨ y.shadow ≠ 0)) ∧ (hostM l (aimM l a b) = 0 ∨ rootM l (aimM l a b) ∈ ch l upX b) ∧ aimM l a b ∈ ch l upX a) (fun a hx => .inl ⟨hx, aim_none h hx⟩) (fun a x hx ih => .inr ?_) a
  rw [aim_step h hx]
  by_cases hc : hostM l a = 0 ∨ rootM l a ∈ ch l upX b
  · rw [if_pos hc]
    exact ⟨⟨x, hx, .inl rfl⟩, hc, up_self h hx⟩
  · rw [if_neg hc]
    have h0 : hostM l a ≠ 0 := fun e => hc (.inl e)
    obtain ⟨z, hz, hzs⟩ := ((host_ok h a).resolve_left h0).2
    rcases ih with ⟨hn, _⟩ | ⟨⟨y, hy, hys⟩, h2, h3⟩
    · rw [hn] at hz; cases hz
    · refine ⟨⟨y, hy, .inr ?_⟩, h2, host_up h h3⟩
      rcases hys with e | e
      · rw [e, hz] at hy
        cases hy
        rw [hzs]
        obtain ⟨r, hr, _⟩ := root_some h hx
        intro e0
        rw [e0, nodeAt_zero] at hr
        cases hr
      · exact e
theorem aim_there {a : Int} {x : Nd} (hx : nodeAt l a = some x) (b : Int) : (∃ y, nodeAt l (aimM l a b) = some y ∧ (aimM l a b = a ∨ y.shadow ≠ 0)) ∧ (hostM l (aimM l a b) = 0 ∨ rootM l (aimM l a b) ∈ ch l upX b) ∧ aimM l a b ∈ ch l upX a := by
  rcases aim_ok h a b with ⟨hn, _⟩ | h1
  · rw [hx] at hn; cases hn
  · exact h1
theorem aim_zero {a b : Int} (h0 : aimM l a b = 0) : nodeAt l a = none := by
  cases hx : nodeAt l a with
  | none => rfl
  | some x =>
    obtain ⟨⟨y, hy, _⟩, _⟩ := aim_there h hx b
    rw [h0, nodeAt_zero] at hy
    cases hy
theorem aim_self {a : Int} {x : Nd} (hx : nodeAt l a = some x) : aimM l a a = a := by
  rw [aim_step h hx, if_pos (.inr (root_up h hx))]
theorem aim_again {a : Int} {x : Nd} (hx : nodeAt l a = some x) (b : Int) : aimM l (aimM l a b) b = aimM l a b := by
  obtain ⟨⟨y, hy, _⟩, hc, _⟩ := aim_there h hx b
  rw [aim_step h hy, if_pos hc]
theorem aim_seen {a : Int} {x : Nd} (hx : nodeAt l a = some x) (b : Int) : hiddenM l (aimM l a b) b = false := by
  obtain ⟨⟨y, hy, _⟩, hc, _⟩ := aim_there h hx b
  rw [hiddenM, hid_step h hy, if_pos hc, Bool.and_false]
theorem hid_none {a b : Int} (hx : nodeAt l a = none) : hiddenM l a b = false := by
  have _ := h.len
  rw [hiddenM, hs_none hx, hidL, Bool.and_false]
theorem hid_self (a : Int) : hiddenM l a a = false := by
  cases hx : nodeAt l a with
  | none => exact hid_none h hx
  | some x => rw [hiddenM, hid_step h hx, if_pos (.inr (root_up h hx)), Bool.and_false]
theorem hid_root {a b : Int} (hr : rootM l a ∈ ch l upX b) : hiddenM l a b = false := by
  cases hx : nodeAt l a with
  | none => exact hid_none h hx
  | some x => rw [hiddenM, hid_step h hx, if_pos (.inr hr), Bool.and_false]
theorem closed_step {id : Int} {x : Nd} (hx : nodeAt l id = some x) : closedM l id = (if isClosed l (rootM l id) = true then [rootM l id] else []) ++ closedM l (hostM l id) := by
  rw [closedM, rootsM, hs_step h hx, List.map_cons, List.filter_cons]
  split <;> rfl
theorem hid_some {a b : Int} (hh : hiddenM l a b = true) : ∃ r ∈ closedM l a, r ∉ ch l upX b := by
  refine host_induct h (p := fun a => hiddenM l a b = true → ∃ r ∈ closedM l a, r ∉ ch l upX b) (fun a hx hh => ?_) (fun a x hx ih hh => ?_) a hh
  · rw [hid_none h hx] at hh; cases hh
  · rw [hiddenM, hid_step h hx, Bool.and_eq_true] at hh
    obtain ⟨hb, hh⟩ := hh
    by_cases hc : hostM l a = 0 ∨ rootM l a ∈ ch l upX b
    · rw [if_pos hc] at hh; cases hh
    · rw [if_neg hc] at hh
      rw [closed_step h hx]
      by_cases hm : (nodeR l (rootM l a)).mode = 2
      · have hk := ((host_ok h a).resolve_left fun e => hc (.inl e)).1
        refine ⟨rootM l a, List.mem_append_left _ ?_, fun e => hc (.inr e)⟩
        rw [if_pos (by simp [isClosed, hk, hm])]
        exact List.mem_cons_self
      · rw [if_neg hm] at hh
        obtain ⟨r, h1, h2⟩ := ih (by rw [hiddenM, hb, hh]; rfl)
        exact ⟨r, List.mem_append_right _ h1, h2⟩
theorem whole_ok {a : Int} {x : Nd} (hx : nodeAt l a = some x) : wholeM l a ∈ ch l upX a ∧ wholeM l (wholeM l a) = wholeM l a := by
  have : ∀ a, nodeAt l a ≠ none → wholeM l a ∈ ch l upX a ∧ wholeM l (wholeM l a) = wholeM l a := by
    refine host_induct h (fun a hx hn => absurd hx hn) (fun a x hx ih _ => ?_)
    rw [whole_step h hx]
    by_cases h0 : hostM l a = 0
    · rw [if_pos h0]
      refine ⟨root_up h hx, ?_⟩
      obtain ⟨r, hr, hp⟩ := root_some h hx
      rw [whole_step h hr, host_root h, if_pos h0, root_root h]
    · rw [if_neg h0]
      obtain ⟨y, hy, _⟩ := ((host_ok h a).resolve_left h0).2
      obtain ⟨h1, h2⟩ := ih (by rw [hy]; simp)
      exact ⟨host_up h h1, h2⟩
  exact this a (by rw [hx]; simp)
end
end Go.Proofs.Ytjkidecaciomgaa
