/- What Before has done, plain; edit: Remove, Append, Clear. -/
import Derived.Test.YtjkidecaciomgaaEd2
namespace Go.Proofs.Ytjkidecaciomgaa
set_option linter.unusedVariables false
set_option linter.unusedSimpArgs false
set_option maxRecDepth 100000
open Go.RowKit

/-! ### As it is computed -/
def leaveC (l : List Nd) (a : Int) : List Nd :=
  match nodeAt l (nodeR l a).parent with
  | none => l
  | some p => (putC l (nodeR l a).parent (p.kids.erase a)).1
def l1C (l : List Nd) (a : Int) : List Nd := if (nodeR l a).kind = 4 then (putC l a []).1 else leaveC l a
def atC (l : List Nd) (a b c : Int) : Nat := if toM l a c ≠ 0 then (nodeR (l1C l a) b).kids.idxOf (toM l a c) else (nodeR (l1C l a) b).kids.length
def beforeC (l : List Nd) (a b c : Int) : List Nd × Int :=
  if checkM l a b c ≠ 0 then (l, checkM l a b c)
  else putC (l1C l a) b ((nodeR (l1C l a) b).kids.take (atC l a b c) ++ mvM l a ++ (nodeR (l1C l a) b).kids.drop (atC l a b c))
theorem leave_C {l : List Nd} (h : WF l) (a : Int) : leaveM l a = leaveC l a := by
  unfold leaveM leaveC
  cases nodeAt l (nodeR l a).parent with
  | none => rfl
  | some p => simp only [put_C h]
theorem l1_C {l : List Nd} (h : WF l) (a : Int) : l1M l a = l1C l a := by rw [l1M, l1C, put_C h, leave_C h]
theorem before_C {l : List Nd} (h : WF l) (a b c : Int) : beforeM l a b c = beforeC l a b c := by rw [beforeM, beforeC, put_C (l1_wf h a), atM, atC, l1_C h]
theorem before_wf {l : List Nd} (h : WF l) (a b c : Int) : WF (beforeM l a b c).1 := by
  unfold beforeM
  split
  · exact h
  · exact wf_put (l1_wf h a) _ _
/-! ### What has been done -/
structure Done (l : List Nd) (a b c : Int) (n p : Nd) (ks ks' : List Int) : Prop where
  ha : nodeAt l a = some n
  hb : nodeAt l b = some p
  ck : checkM l a b c = 0
  up : a ∉ ch l upX b
  ek : ks = if n.kind = 4 then p.kids else p.kids.erase a
  ek' : ks' = ks.take (atM l a b c) ++ mvM l a ++ ks.drop (atM l a b c)
  nd : ks'.Nodup
  pk : ∀ k ∈ ks', PutK (l1M l a) b k
  nx : ∀ x, nodeAt (beforeM l a b c).1 x = (nodeAt (l1M l a) x).map (putN b ks' x)
  at' : atM l a b c = if toM l a c ≠ 0 then ks.idxOf (toM l a c) else ks.length
section
variable {l : List Nd} (h : WF l) {a b c : Int}
include h
theorem before_get (h0 : (beforeM l a b c).2 = 0) : ∃ n p ks ks', Done l a b c n p ks ks' := by
  by_cases hc : checkM l a b c = 0
  · obtain ⟨n, p, ha, hb, hab, _⟩ := chk_ok hc
    have e1 : beforeM l a b c = putM (l1M l a) b ((nodeR (l1M l a) b).kids.take (atM l a b c) ++ mvM l a ++ (nodeR (l1M l a) b).kids.drop (atM l a b c)) := by rw [beforeM, if_neg (by simpa using hc)]
    have hk := l1_kids h ha hb (self_in h ha hab)
    rw [e1] at h0
    obtain ⟨_, h2, h3, h4⟩ := put_get (l1_wf h a) h0
    have hat : atM l a b c = if toM l a c ≠ 0 then (nodeR (l1M l a) b).kids.idxOf (toM l a c) else (nodeR (l1M l a) b).kids.length := rfl
    rw [hk] at hat h2 h3
    refine ⟨n, p, _, _, ha, hb, hc, hab, rfl, rfl, h2, h3, fun x => ?_, hat⟩
    rw [e1, h4, hk]
  · rw [beforeM, if_pos hc] at h0
    exact absurd h0 hc
variable {n p : Nd} {ks ks' : List Int} (d : Done l a b c n p ks ks')
include d
theorem Done.ne : a ≠ b := self_in h d.ha d.up
theorem Done.mv : mvM l a = if n.kind = 4 then n.kids else [a] := by
  have _ := h.len
  rw [mvM, nodeR_some d.ha]
/-- A node then. -/
theorem Done.node (x : Int) : nodeAt (beforeM l a b c).1 x = (nodeAt l x).map fun y => putN b ks' x (if n.kind = 4 then clearN a x y else leaveN a x y) := by
  rw [d.nx, l1M, nodeR_some d.ha]
  by_cases hk : n.kind = 4
  · rw [if_pos hk, (clear_ok h d.ha).2 x, Option.map_map]
    simp only [if_pos hk]
    rfl
  · rw [if_neg hk, leave_ok h a x, Option.map_map]
    simp only [if_neg hk]
    rfl
theorem Done.kids : ∃ q, nodeAt (beforeM l a b c).1 b = some q ∧ q.kids = ks' := by
  refine ⟨_, (by rw [d.node h b, d.hb]; rfl), ?_⟩
  exact if_pos rfl
theorem Done.sub : ∀ x ∈ ks, x ∈ p.kids := fun x hx => by
  have _ := h.len
  rw [d.ek] at hx
  split at hx
  · exact hx
  · exact List.mem_of_mem_erase hx
theorem Done.out : ∀ x ∈ ks, x ∉ mvM l a := fun x hx hm => by
  have _ := h.len
  have hnd := d.nd
  rw [d.ek'] at hnd
  have hx2 : x ∈ ks.take (atM l a b c) ∨ x ∈ ks.drop (atM l a b c) := by
    rw [← List.mem_append, List.take_append_drop]
    exact hx
  rw [List.append_assoc, List.nodup_append] at hnd
  rcases hx2 with e | e
  · exact hnd.2.2 x e x (List.mem_append_left _ hm) rfl
  · exact (List.nodup_append.1 hnd.2.1).2.2 x hm x e rfl
theorem Done.mine : (ks'.filter fun x => decide (x ∈ mvM l a)) = mvM l a := by
  rw [d.ek', List.filter_append, List.filter_append]
  have h1 : ∀ zs : List Int, (∀ x ∈ zs, x ∈ ks) → (zs.filter fun x => decide (x ∈ mvM l a)) = [] := fun zs hz => List.filter_eq_nil_iff.2 fun x hx => by simpa using d.out h x (hz x hx)
  rw [h1 _ fun x hx => List.mem_of_mem_take hx, h1 _ fun x hx => List.mem_of_mem_drop hx, List.filter_eq_self.2 fun x hx => by simpa using hx]
  simp
theorem Done.left : (ks'.filter fun x => !decide (x ∈ mvM l a)) = p.kids.filter fun x => !decide (x ∈ mvM l a) := by
  rw [d.ek', List.filter_append, List.filter_append]
  have h1 : ((mvM l a).filter fun x => !decide (x ∈ mvM l a)) = [] := List.filter_eq_nil_iff.2 fun x hx => by simpa using hx
  rw [h1, List.append_nil, ← List.filter_append, List.take_append_drop, d.ek]
  by_cases hk : n.kind = 4
  · rw [if_pos hk]
  · rw [if_neg hk, (h.nod d.hb).erase_eq_filter, List.filter_filter]
    refine List.filter_congr fun x hx => ?_
    rw [d.mv h, if_neg hk]
    simp
/-- What is just behind it. -/
theorem Done.next (hk : n.kind ≠ 4) (hc : c ≠ a) : nextM (beforeM l a b c).1 a = c := by
  obtain ⟨q, hq, hqk⟩ := d.kids h
  have hb0 := nodeAt_some d.hb
  have hmv : mvM l a = [a] := by rw [d.mv h, if_neg hk]
  have hto : toM l a c = c := by rw [toM, if_neg hc]
  have hal : atM l a b c ≤ ks.length := by
    rw [d.at']
    split
    · exact List.idxOf_le_length
    · exact Nat.le_refl _
  have hpos : ks'[atM l a b c]? = some a := by
    rw [d.ek', hmv, List.append_assoc, List.getElem?_append_right (by rw [List.length_take]; omega), List.length_take, Nat.min_eq_left hal, Nat.sub_self]
    rfl
  have hin : a ∈ ks' := List.mem_of_getElem? hpos
  have hidx : idxI ks' a = (atM l a b c : Nat) := idxI_at hpos fun j hj e => by
    have := (List.getElem?_inj (List.getElem?_eq_some_iff.1 e).1 d.nd).1 (e.trans hpos.symm)
    omega
  have hpar : (nodeR (beforeM l a b c).1 a).parent = b := by
    rw [nodeR, d.node h a, d.ha, Option.map_some, Option.getD_some, putN, if_pos hin]
  have hsib : sibs (beforeM l a b c).1 a = ks' := by rw [sibs, hpar, if_neg (by omega), nodeR_some hq, hqk]
  have hindex : indexM (beforeM l a b c).1 a = (atM l a b c : Nat) := by rw [indexM, hpar, if_neg (by omega), hsib, hidx]
  rw [nextM, hindex, if_pos (by omega), hsib, show ((atM l a b c : Nat) : Int).toNat = atM l a b c by omega, List.getD_eq_getElem?_getD, d.ek', hmv, List.append_assoc, List.getElem?_append_right (by rw [List.length_take]; omega), List.length_take, Nat.min_eq_left hal, show atM l a b c + 1 - atM l a b c = 1 by omega]
  show (([a] ++ ks.drop (atM l a b c))[1]?).getD 0 = c
  rw [List.getElem?_append_right (by simp)]
  show ((ks.drop (atM l a b c))[0]?).getD 0 = c
  rw [List.getElem?_drop, Nat.add_zero, d.at', hto]
  have hti := to_in h d.ck
  rw [hto, l1_kids h d.ha d.hb (d.ne h), ← d.ek] at hti
  by_cases h0 : c = 0
  · rw [if_neg (by simpa using h0), List.getElem?_eq_none (Nat.le_refl _), h0]
    rfl
  · rw [if_pos h0]
    have := hti.resolve_left h0
    rw [List.getElem?_eq_getElem (List.idxOf_lt_length_iff.2 this), List.getElem_idxOf]
    rfl
end
noncomputable def removeM (l : List Nd) (a b : Int) : List Nd × Int :=
  match nodeAt l a, nodeAt l b with
  | some n, some _ => if n.parent ≠ b then (l, 4) else (leaveM l a, 0)
  | _, _ => (l, 1)
theorem remove_f {l : List Nd} (h : WF l) (a b : Int) : Fun Try.prog 116 [.ptr 0 0, .v (.int .i64 a), .v (.int .i64 b)] (forR 1 l) (.v (.int .i64 (removeM l a b).2)) (forR 2 (removeM l a b).1) := by
  cases ha : nodeAt l a with
  | none =>
    have e1 : removeM l a b = (l, 1) := by rw [removeM, ha]
    have hnb := nodel_w h b
    rw [e1]
    generalize nodeR l b = q at *
    generalize (nodeAt l b).isSome = ok at *
    refine fun_intro 38 Try.func116 rfl rfl rfl (fun ι F S w => ?_)
    (repeat (first | (apply v_cSx; exact rfl; exact cbA rfl; (first | exact nodel_n h ha | exact hnb); (repeat (first | exact trivial | refine ⟨rfl, ?_⟩)); exact rfl; exact rfl; exact rfl; exact rfl; exact rfl) | (apply v_move; exact rfl; exact rfl) | (apply v_assign; exact rfl; exact rfl) | refine run_seq ?_ | refine run_region ?_ | refine runL_nil ?_ | refine run_block ?_ | (apply v_extract; exact rfl; exact rfl; exact rfl) | (apply v_off; exact rfl; exact rfl) | (apply v_pick_t; exact rfl; exact rfl; exact rfl) | (apply run_cond; exact rfl; rotate_left; (focus (intro hb; cases hb; done)); intro hb; clear hb) | (apply v_not; exact rfl; exact rfl) | (apply v_allocD; exact tyA rfl; exact rfl; exact rfl; exact rfl; exact rfl) | (apply v_storeW; exact tyA rfl; exact rfl; exact rfl; exact rfl; exact rfl; exact rfl; exact rfl; exact rfl)))
    exact run_ret (mp [(2, 1)]) _ Try.func116 ⟨_, _, rfl, rfl, rfl⟩ rfl ⟨rfl, rfl, trivial⟩ ⟨rfl, rfl, trivial⟩ rfl
  | some n =>
    cases hb : nodeAt l b with
    | none =>
      have e1 : removeM l a b = (l, 1) := by rw [removeM, ha, hb]
      rw [e1]
      refine fun_intro 38 Try.func116 rfl rfl rfl (fun ι F S w => ?_)
      (repeat (first | (apply v_cSx; exact rfl; exact cbA rfl; (first | exact nodel_s h ha | exact nodel_n h hb); (repeat (first | exact trivial | refine ⟨rfl, ?_⟩)); exact rfl; exact rfl; exact rfl; exact rfl; exact rfl) | (apply v_move; exact rfl; exact rfl) | (apply v_assign; exact rfl; exact rfl) | refine run_seq ?_ | refine run_region ?_ | refine runL_nil ?_ | refine run_block ?_ | (apply v_extract; exact rfl; exact rfl; exact rfl) | (apply v_on; exact rfl) | (apply v_pick_f; exact rfl; exact rfl; exact rfl) | (apply run_cond; exact rfl; rotate_left; (focus (intro hb; cases hb; done)); intro hb; clear hb) | (apply v_not; exact rfl; exact rfl) | (apply v_allocD; exact tyA rfl; exact rfl; exact rfl; exact rfl; exact rfl) | (apply v_storeW; exact tyA rfl; exact rfl; exact rfl; exact rfl; exact rfl; exact rfl; exact rfl; exact rfl)))
      exact run_ret (mp [(2, 1)]) _ Try.func116 ⟨_, _, rfl, rfl, rfl⟩ rfl ⟨rfl, rfl, trivial⟩ ⟨rfl, rfl, trivial⟩ rfl
    | some q =>
      have e1 : removeM l a b = if n.parent ≠ b then (l, 4) else (leaveM l a, 0) := by rw [removeM, ha, hb]
      have hlv := leave_f h a
      rw [e1]
      generalize leaveM l a = ll at *
      by_cases hp : n.parent ≠ b
      · rw [if_pos hp]
        refine fun_intro 38 Try.func116 rfl rfl rfl (fun ι F S w => ?_)
        (repeat (first | (apply v_cSx; exact rfl; exact cbA rfl; (first | exact nodel_s h ha | exact nodel_s h hb); (repeat (first | exact trivial | refine ⟨rfl, ?_⟩)); exact rfl; exact rfl; exact rfl; exact rfl; exact rfl) | (apply v_move; exact rfl; exact rfl) | (apply v_assign; exact rfl; exact rfl) | refine run_seq ?_ | refine run_region ?_ | refine runL_nil ?_ | refine run_block ?_ | (apply v_extract; exact rfl; exact rfl; exact rfl) | (apply v_fldP; exact flA rfl; exact rfl; exact rfl; exact rfl) | (apply v_loadB; exact tyA rfl; exact rfl; exact rfl; exact rfl; exact rfl; exact rfl; exact rfl) | (apply v_on; exact rfl) | (apply v_pick_f; exact rfl; exact rfl; exact rfl) | (apply run_cond; exact rfl; (focus (intro hb; cases hb; done)); intro hb; clear hb) | (apply v_not; exact rfl; exact rfl) | (apply v_neq; exact rfl; exact rfl; exact rfl) | (apply v_allocD; exact tyA rfl; exact rfl; exact rfl; exact rfl; exact rfl) | (apply v_storeW; exact tyA rfl; exact rfl; exact rfl; exact rfl; exact rfl; exact rfl; exact rfl; exact rfl)))
        refine run_condY rfl (by simpa using hp) ?_
        (repeat (first | (apply v_assign; exact rfl; exact rfl) | refine run_seq ?_ | refine run_region ?_ | refine runL_nil ?_))
        exact run_ret (mp [(2, 1)]) _ Try.func116 ⟨_, _, rfl, rfl, rfl⟩ rfl ⟨rfl, rfl, trivial⟩ ⟨rfl, rfl, trivial⟩ rfl
      · rw [if_neg hp]
        refine fun_intro 38 Try.func116 rfl rfl rfl (fun ι F S w => ?_)
        (repeat (first | (apply v_cSx; exact rfl; exact cbA rfl; (first | exact nodel_s h ha | exact nodel_s h hb); (repeat (first | exact trivial | refine ⟨rfl, ?_⟩)); exact rfl; exact rfl; exact rfl; exact rfl; exact rfl) | (apply v_move; exact rfl; exact rfl) | (apply v_assign; exact rfl; exact rfl) | refine run_seq ?_ | refine run_region ?_ | refine runL_nil ?_ | refine run_block ?_ | (apply v_extract; exact rfl; exact rfl; exact rfl) | (apply v_fldP; exact flA rfl; exact rfl; exact rfl; exact rfl) | (apply v_loadB; exact tyA rfl; exact rfl; exact rfl; exact rfl; exact rfl; exact rfl; exact rfl) | (apply v_on; exact rfl) | (apply v_pick_f; exact rfl; exact rfl; exact rfl) | (apply run_cond; exact rfl; (focus (intro hb; cases hb; done)); intro hb; clear hb) | (apply v_not; exact rfl; exact rfl) | (apply v_neq; exact rfl; exact rfl; exact rfl) | (apply v_allocD; exact tyA rfl; exact rfl; exact rfl; exact rfl; exact rfl) | (apply v_storeW; exact tyA rfl; exact rfl; exact rfl; exact rfl; exact rfl; exact rfl; exact rfl; exact rfl)))
        refine run_condN rfl (by simpa using hp) ?_
        (repeat (first | (apply v_move; exact rfl; exact rfl) | refine run_seq ?_ | refine run_region ?_ | refine run_skip ?_ | refine run_inBlock ?_))
        refine v_cR (mp [(1, 1), (2, 37)]) hlv rfl (cbA rfl) ⟨rfl, rfl, trivial⟩ (by kernel_rfl) (by kernel_rfl) (by kernel_rfl) (by kernel_rfl) (by kernel_rfl) (by kernel_rfl) (by kernel_rfl) (by kernel_rfl) rfl ?_
        (repeat (first | (apply v_assign; exact rfl; exact rfl) | refine run_seq ?_ | refine run_region ?_ | refine runL_nil ?_))
        exact run_ret (mp [(2, 37)]) _ Try.func116 ⟨_, _, rfl, rfl, rfl⟩ rfl ⟨rfl, rfl, trivial⟩ ⟨rfl, rfl, trivial⟩ rfl
theorem append_e {l : List Nd} (h : WF l) (a b : Int) : Fun Try.prog 118 [.ptr 0 0, .v (.int .i64 a), .v (.int .i64 b)] (forR 1 l) (.v (.int .i64 (beforeM l a b 0).2)) (forR 2 (beforeM l a b 0).1) := by
  have hbf := before_f h a b 0
  generalize beforeM l a b 0 = T at *
  refine fun_intro 11 Try.func118 rfl rfl rfl (fun ι F S w => ?_)
  (repeat (first | (apply v_move; exact rfl; exact rfl) | (apply v_assign; exact rfl; exact rfl) | refine run_seq ?_ | refine run_region ?_ | refine runL_nil ?_))
  refine v_cR (mp [(1, 1), (2, 10)]) hbf rfl (cbA rfl) ⟨rfl, rfl, trivial⟩ (by kernel_rfl) (by kernel_rfl) (by kernel_rfl) (by kernel_rfl) (by kernel_rfl) (by kernel_rfl) (by kernel_rfl) (by kernel_rfl) rfl ?_
  (repeat (first | (apply v_assign; exact rfl; exact rfl) | refine runL_nil ?_))
  exact run_ret (mp [(2, 10)]) _ Try.func118 ⟨_, _, rfl, rfl, rfl⟩ rfl ⟨rfl, rfl, trivial⟩ ⟨rfl, rfl, trivial⟩ rfl
theorem clear_f {l : List Nd} (h : WF l) (a : Int) : Fun Try.prog 120 [.ptr 0 0, .v (.int .i64 a)] (forR 1 l) (.v (.int .i64 (putM l a []).2)) (forR 2 (putM l a []).1) := by
  have hput := put_nil h a
  generalize putM l a [] = T at *
  refine fun_intro 8 Try.func120 rfl rfl rfl (fun ι F S w => ?_)
  (repeat (first | (apply v_move; exact rfl; exact rfl) | (apply v_assign; exact rfl; exact rfl) | refine run_seq ?_ | refine run_region ?_ | refine runL_nil ?_))
  refine v_cR (mp [(1, 1), (2, 7)]) hput rfl (cbA rfl) ⟨rfl, rfl, trivial⟩ (by kernel_rfl) (by kernel_rfl) (by kernel_rfl) (by kernel_rfl) (by kernel_rfl) (by kernel_rfl) (by kernel_rfl) (by kernel_rfl) rfl ?_
  (repeat (first | (apply v_assign; exact rfl; exact rfl) | refine runL_nil ?_))
  exact run_ret (mp [(2, 7)]) _ Try.func120 ⟨_, _, rfl, rfl, rfl⟩ rfl ⟨rfl, rfl, trivial⟩ ⟨rfl, rfl, trivial⟩ rfl
end Go.Proofs.Ytjkidecaciomgaa
