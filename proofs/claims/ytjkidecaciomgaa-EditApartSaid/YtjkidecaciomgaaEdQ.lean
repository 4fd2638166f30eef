/- What may be put is put; All of a forest that is being made. -/
import Derived.Test.YtjkidecaciomgaaEdP
namespace Go.Proofs.Ytjkidecaciomgaa
set_option linter.unusedVariables false
set_option linter.unusedSimpArgs false
set_option maxRecDepth 100000
open Go.RowKit

/-- Where nodes only lose what they are below of, less is above. -/
theorem ch_less {l l1 : List Nd} (h : WF l) (h1 : WF l1) (hg : ∀ x y, nodeAt l1 x = some y → ∃ z, nodeAt l x = some z ∧ (upX y = upX z ∨ upX y = 0)) (b : Int) : ∀ k ∈ ch l1 upX b, k ∈ ch l upX b := by
  refine desc_induct (desc_up h1) (p := fun b => ∀ k ∈ ch l1 upX b, k ∈ ch l upX b) (fun b hb k hk => ?_) (fun b y hb ih k hk => ?_) b
  · rw [ch_none hb] at hk; cases hk
  · obtain ⟨z, hz, e⟩ := hg b y hb
    rw [up_step h1 hb] at hk
    rw [up_step h hz]
    rcases List.mem_cons.1 hk with e1 | hk
    · rw [e1]; exact List.mem_cons_self
    · refine List.mem_cons_of_mem _ ?_
      rcases e with e | e
      · rw [← e]; exact ih k hk
      · rw [e, ch_none nodeAt_zero] at hk; cases hk
section
variable {l : List Nd} (h : WF l)
include h
theorem host_no {x : Int} {y : Nd} (hx : nodeAt l x = some y) (hk : y.kind ≠ 3) : y.host = 0 := (h.host hx).resolve_right fun e => hk e.1
theorem par_host {x : Int} {y : Nd} (hx : nodeAt l x = some y) (hp : y.parent ≠ 0) : y.host = 0 := host_no h hx fun e => hp (h.root hx (by simp [rootedB, e]))
theorem l1_less (a b : Int) : ∀ k ∈ ch (l1M l a) upX b, k ∈ ch l upX b := by
  refine ch_less h (l1_wf h a) (fun x y hy => ?_) b
  unfold l1M at hy
  cases ha : nodeAt l a with
  | none =>
    rw [nodeR_none ha] at hy
    rw [if_neg (by decide), leave_ok h] at hy
    cases hz : nodeAt l x with
    | none => rw [hz] at hy; cases hy
    | some z =>
      rw [hz] at hy
      cases hy
      refine ⟨z, rfl, .inl ?_⟩
      have e : x ≠ a := fun e => by rw [e, ha] at hz; cases hz
      simp [upX, leaveN, e]
  | some n =>
    rw [nodeR_some ha] at hy
    by_cases hk : n.kind = 4
    · rw [if_pos hk, (clear_ok h ha).2] at hy
      cases hz : nodeAt l x with
      | none => rw [hz] at hy; cases hy
      | some z =>
        rw [hz] at hy
        cases hy
        refine ⟨z, rfl, ?_⟩
        by_cases e : z.parent = a
        · right
          have ha0 := nodeAt_some ha
          have := par_host h hz (by omega)
          simp [upX, clearN, e, this]
        · left
          simp [upX, clearN, e]
    · rw [if_neg hk, leave_ok h] at hy
      cases hz : nodeAt l x with
      | none => rw [hz] at hy; cases hy
      | some z =>
        rw [hz] at hy
        cases hy
        refine ⟨z, rfl, ?_⟩
        by_cases e : x = a
        · by_cases e2 : z.parent = 0
          · left
            simp [upX, leaveN, e, e2]
          · right
            have := par_host h hz e2
            simp [upX, leaveN, e, this]
        · left
          simp [upX, leaveN, e]
/-- What a check lets pass is put. -/
theorem before_ok {a b c : Int} (hc : checkM l a b c = 0) : (beforeM l a b c).2 = 0 := by
  obtain ⟨n, p, ha, hb, hab, hk1, hk3, _⟩ := chk_ok hc
  have hne := self_in h ha hab
  have hks := l1_kids h ha hb hne
  have hw1 := l1_wf h a
  have hmv : mvM l a = if n.kind = 4 then n.kids else [a] := by rw [mvM, nodeR_some ha]
  have hbx : ∃ q, nodeAt (l1M l a) b = some q := by
    unfold l1M
    rw [nodeR_some ha]
    split
    · rw [(clear_ok h ha).2, hb]; exact ⟨_, rfl⟩
    · rw [leave_ok h, hb]; exact ⟨_, rfl⟩
  obtain ⟨q, hq⟩ := hbx
  rw [beforeM, if_neg (by simpa using hc)]
  refine (put_done hw1 hq ?_ ?_).1
  · have hperm : ((nodeR (l1M l a) b).kids.take (atM l a b c) ++ mvM l a ++ (nodeR (l1M l a) b).kids.drop (atM l a b c)).Perm ((nodeR (l1M l a) b).kids ++ mvM l a) := by
      rw [List.append_assoc]
      refine (List.Perm.append_left _ List.perm_append_comm).trans ?_
      rw [← List.append_assoc, List.take_append_drop]
    rw [hperm.nodup_iff, List.nodup_append, hks, hmv]
    by_cases hk : n.kind = 4
    · rw [if_pos hk, if_pos hk]
      refine ⟨h.nod hb, h.nod ha, fun x hx y hy e => ?_⟩
      subst e
      obtain ⟨z, hz, e1⟩ := h.kid hb hx
      exact hne (((kid_of h ha hz).1 hy).symm.trans e1)
    · rw [if_neg hk, if_neg hk]
      refine ⟨(h.nod hb).erase a, by simp, fun x hx y hy e => ?_⟩
      rw [e, List.mem_singleton.1 hy] at hx
      exact ((h.nod hb).mem_erase_iff.1 hx).1 rfl
  · have hold : ∀ k ∈ (nodeR (l1M l a) b).kids, PutK (l1M l a) b k := fun k hk => by
      rw [nodeR_some hq] at hk
      exact kid_putK hw1 hq hk
    intro k hk
    rw [List.mem_append, List.mem_append] at hk
    rcases hk with (hk | hk) | hk
    · exact hold k (List.mem_of_mem_take hk)
    · have hless := l1_less h a b
      rw [hmv] at hk
      by_cases hk4 : n.kind = 4
      · rw [if_pos hk4] at hk
        obtain ⟨y, hy, hyp⟩ := h.kid ha hk
        have ha0 := nodeAt_some ha
        have hl1 : nodeAt (l1M l a) k = some (clearN a k y) := by rw [l1M, nodeR_some ha, if_pos hk4, (clear_ok h ha).2, hy]; rfl
        refine ⟨_, hl1, ?_, fun e => ?_, .inl (if_pos hyp)⟩
        · rw [← Bool.not_eq_true]
          intro hr
          have := h.root hy hr
          omega
        · refine hab (up_trans h ?_ (hless k e))
          rw [up_step h hy, show upX y = a by rw [upX, if_neg (by omega), hyp]]
          exact List.mem_cons_of_mem _ (up_self h ha)
      · rw [if_neg hk4, List.mem_singleton] at hk
        subst hk
        have hl1 : nodeAt (l1M l k) k = some (leaveN k k n) := by rw [l1M, nodeR_some ha, if_neg hk4, leave_ok h, ha]; rfl
        refine ⟨_, hl1, ?_, fun e => hab (hless k e), .inl (if_pos rfl)⟩
        show (n.kind == 1 || n.kind == 3) = false
        simp [hk1, hk3]
    · exact hold k (List.mem_of_mem_drop hk)
theorem before_len (a b c : Int) : (beforeM l a b c).1.length = l.length := by
  have key : ∀ l2 : List Nd, (∀ x, (nodeAt l2 x).isSome = (nodeAt l x).isSome) → l2.length = l.length := fun l2 hl => by
    have h1 : ∀ (l l2 : List Nd), (∀ x, (nodeAt l2 x).isSome = (nodeAt l x).isSome) → l2.length ≤ l.length := fun l l2 hl => by
      by_cases e : l2.length = 0
      · omega
      · have := hl l2.length
        rw [nodeAt, if_pos (by omega), List.getElem?_eq_getElem (by omega), Option.isSome_some] at this
        cases hx : nodeAt l l2.length with
        | none => rw [hx] at this; cases this
        | some y => have := nodeAt_some hx; omega
    exact Nat.le_antisymm (h1 l l2 hl) (h1 l2 l fun x => (hl x).symm)
  by_cases hc : checkM l a b c = 0
  · obtain ⟨n, p, ks, ks', d⟩ := before_get h (before_ok h hc)
    refine key _ fun x => ?_
    rw [d.node h x]
    cases nodeAt l x <;> rfl
  · rw [beforeM, if_pos hc]
end
theorem all_m {l : List Nd} (h : WF l) : Fun Try.prog 41 [.ptr 0 0] (forR 1 l) (.sem (listS nodeE l)) (forR 1 l) := by
  have hlen := h.len
  have hln := lend 1 rfl rfl (len_f (l := l))
  refine fun_intro 25 Try.func41 rfl rfl rfl (fun ι F S w => ?_)
  (repeat (first | (apply v_cSx; exact rfl; exact cbA rfl; (first | exact hln); (repeat (first | exact trivial | refine ⟨rfl, ?_⟩)); exact rfl; exact rfl; exact rfl; exact rfl; exact rfl) | (apply v_move; exact rfl; exact rfl) | (apply v_assign; exact rfl; exact rfl) | refine run_seq ?_ | refine run_region ?_ | refine runL_nil ?_ | refine run_block ?_))
  refine run_own 3 3 33 nodeE rfl rfl rfl rfl ?_
  refine v_loop (fun i : Nat => ⟨[(0, .ptr 0 0), (8, .v (.int .i64 l.length)), (9, .v (.int .i64 i)), (3, .res 3)], (3, .obj (ownS 33 nodeE (l.take i))) :: forR 1 l⟩) (fun i => i ≤ l.length) (fun i => l.length - i) 0 idN ⟨rfl, rfl, trivial⟩ (by repeat (first | exact trivial | refine ⟨rfl, ?_⟩)) (by repeat (first | exact trivial | refine ⟨rfl, ?_⟩)) rfl (by omega) fun i hi ih => ?_
  (repeat (first | refine run_seq ?_ | refine run_region ?_ | refine runL_nil ?_ | (apply v_lss; exact rfl; exact rfl; exact rfl)))
  refine run_cond rfl (fun hb => ?_) (fun hb => ?_)
  · have hlt : i < l.length := by simpa using hb
    have ht := take_nodeR hlt
    have hn := nodel_w h ((i : Int) + 1)
    generalize nodeR l ((i : Int) + 1) = x at *
    generalize (nodeAt l ((i : Int) + 1)).isSome = ok at *
    (repeat (first | (apply v_cSx; exact rfl; exact cbA rfl; (first | exact hn); (repeat (first | exact trivial | refine ⟨rfl, ?_⟩)); exact rfl; exact rfl; exact rfl; exact rfl; exact rfl) | (apply v_move; exact rfl; exact rfl) | (apply v_assign; exact rfl; exact rfl) | refine run_seq ?_ | refine run_region ?_ | refine runL_nil ?_ | refine run_skip ?_ | refine run_block ?_ | (apply v_extract; exact rfl; exact rfl; exact rfl) | (apply v_loadB; exact tyA rfl; exact rfl; exact rfl; exact rfl; exact rfl; exact rfl; exact rfl) | (apply v_allocD; exact tyA rfl; exact rfl; exact rfl; exact rfl; exact rfl) | (apply v_storeW; exact tyA rfl; exact rfl; exact rfl; exact rfl; exact rfl; exact rfl; exact rfl; exact rfl) | (apply v_add; exact rfl; exact rfl; exact rfl; exact (by omega))))
    refine v_l nodeE [x] (slA rfl) (tyA rfl) rfl rfl rfl rfl rfl rfl rfl rfl rfl rfl ?_
    refine v_appendD (slA rfl) (tyA rfl) rfl rfl rfl rfl rfl rfl rfl (by simp; omega) rfl rfl rfl rfl ?_
    (repeat (first | (apply v_move; exact rfl; exact rfl) | (apply v_assign; exact rfl; exact rfl) | refine run_region ?_ | refine runL_nil ?_ | refine run_inBlock ?_ | (apply v_add; exact rfl; exact rfl; exact rfl; exact (by omega))))
    exact v_again ih (i + 1) (mp [(3, 22)]) ⟨rfl, rfl, trivial⟩ (by repeat (first | exact trivial | refine ⟨rfl, ?_⟩)) ⟨by rw [ht]; rfl, rfl, rfl, trivial⟩ rfl (by omega) (by omega)
  · have hge : i = l.length := by have : ¬ i < l.length := by simpa using hb
                                  omega
    (repeat (first | (apply v_move; exact rfl; exact rfl) | (apply v_assign; exact rfl; exact rfl) | refine run_seq ?_ | refine run_region ?_ | refine runL_nil ?_ | (apply run_exit; exact rfl)))
    refine run_freeze 2 3 rfl rfl ?_
    exact run_ret idN _ Try.func41 ⟨_, _, rfl, rfl, rfl⟩ (by rw [hge, List.take_length]; rfl) ⟨rfl, rfl, trivial⟩ ⟨rfl, rfl, trivial⟩ rfl
end Go.Proofs.Ytjkidecaciomgaa
