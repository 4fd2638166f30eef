/- The reference 07: Before. -/
import Derived.Test.YtjkidecaciomgaaRf16
namespace Go.Proofs.Ytjkidecaciomgaa
set_option linter.unusedVariables false
set_option linter.unusedSimpArgs false
set_option maxRecDepth 100000
open Go.RowKit

noncomputable def leaveAll (l : List Nd) (mv : List Int) : List Nd := mv.foldl leaveM l
theorem leaveAll_wf : ∀ (mv : List Int) {l : List Nd}, WF l → WF (leaveAll l mv)
  | [], _, h => h
  | k :: t, l, h => leaveAll_wf t (leave_wf h k)
theorem leaveAll_take {l : List Nd} {mv : List Int} {i : Nat} (hi : i < mv.length) : leaveAll l (mv.take (i + 1)) = leaveM (leaveAll l (mv.take i)) mv[i] := by
  rw [leaveAll, List.take_add_one, List.getElem?_eq_getElem hi, Option.toList_some, List.foldl_append]
  rfl
theorem leaveAll_node (x : Int) : ∀ (mv : List Int) {l : List Nd}, WF l → nodeAt (leaveAll l mv) x = (nodeAt l x).map fun z => { z with parent := if x ∈ mv then 0 else z.parent, kids := mv.foldl List.erase z.kids }
  | [], l, h => by
    show nodeAt l x = _
    cases nodeAt l x <;> simp
  | k :: t, l, h => by
    show nodeAt (leaveAll (leaveM l k) t) x = _
    rw [leaveAll_node x t (leave_wf h k), leave_ok h, Option.map_map]
    cases nodeAt l x with
    | none => rfl
    | some z =>
      simp only [Option.map_some, Function.comp, leaveN, List.mem_cons, List.foldl_cons]
      by_cases e1 : x = k <;> by_cases e2 : x ∈ t <;> simp [e1, e2]
theorem erase_self : ∀ t : List Int, t.foldl List.erase t = []
  | [] => rfl
  | k :: t => by
    rw [List.foldl_cons, List.erase_cons_head]
    exact erase_self t
theorem erase_none : ∀ (mv ks : List Int), (∀ k ∈ mv, k ∉ ks) → mv.foldl List.erase ks = ks
  | [], _, _ => rfl
  | k :: t, ks, h => by
    rw [List.foldl_cons, List.erase_of_not_mem (h k List.mem_cons_self)]
    exact erase_none t ks fun x hx => h x (List.mem_cons_of_mem _ hx)
theorem leaveAll_l1 {l : List Nd} (h : WF l) {a : Int} {n : Nd} (ha : nodeAt l a = some n) : leaveAll l (mvM l a) = l1M l a := by
  rw [mvM, l1M, nodeR_some ha]
  by_cases hk : n.kind = 4
  · rw [if_pos hk, if_pos hk]
    refine nodes_ext fun x => ?_
    rw [leaveAll_node x _ h, (clear_ok h ha).2]
    cases hx : nodeAt l x with
    | none => rfl
    | some z =>
      rw [Option.map_some, Option.map_some, clearN]
      have h1 : (if x ∈ n.kids then 0 else z.parent) = if z.parent = a then 0 else z.parent := by
        by_cases e : z.parent = a
        · rw [if_pos ((kid_of h ha hx).2 e), if_pos e]
        · rw [if_neg fun e2 => e ((kid_of h ha hx).1 e2), if_neg e]
      have h2 : n.kids.foldl List.erase z.kids = if x = a then [] else z.kids := by
        by_cases e : x = a
        · subst e
          rw [ha] at hx
          cases hx
          rw [if_pos rfl]
          exact erase_self _
        · rw [if_neg e]
          refine erase_none _ _ fun k hk1 hk2 => ?_
          obtain ⟨y, hy, hyp⟩ := h.kid ha hk1
          obtain ⟨y', hy', hyp'⟩ := h.kid hx hk2
          rw [hy] at hy'
          cases hy'
          exact e (hyp'.symm.trans hyp)
      rw [h1, h2]
  · rw [if_neg hk, if_neg hk]
    rfl
/-- Children, and others ahead of one of them. -/
def insF (c : Int) (mv : List Int) (w : Int) : List Int := if w = c then mv ++ [w] else [w]
theorem ins_none (c : Int) (mv : List Int) : ∀ ks : List Int, c ∉ ks → ks.flatMap (insF c mv) = ks
  | [], _ => rfl
  | w :: t, h => by
    rw [List.flatMap_cons, insF, if_neg fun e => h (by rw [e]; exact List.mem_cons_self), ins_none c mv t fun e => h (List.mem_cons_of_mem _ e)]
    rfl
theorem ins_at (c : Int) (mv : List Int) : ∀ ks : List Int, ks.Nodup → c ∈ ks → ks.flatMap (insF c mv) = ks.take (ks.idxOf c) ++ mv ++ ks.drop (ks.idxOf c)
  | [], _, h => by cases h
  | w :: t, hn, h => by
    rw [List.nodup_cons] at hn
    rw [List.flatMap_cons, List.idxOf_cons]
    by_cases e : w = c
    · subst e
      rw [ins_none w mv t hn.1, insF, if_pos rfl]
      simp
    · have h2 := (List.mem_cons.1 h).resolve_left fun e' => e e'.symm
      rw [ins_at c mv t hn.2 h2, insF, if_neg e]
      have : (w == c) = false := by simpa using e
      rw [this]
      simp
theorem insF_len (c : Int) (mv : List Int) (w : Int) : (insF c mv w).length ≤ mv.length + 1 := by
  unfold insF
  split
  · simp
  · simp
/-- What is put, as it is written. -/
theorem put_written {l : List Nd} (h : WF l) {b : Int} {ks ks' mv : List Int} {q : Nd} (hb : nodeAt l b = some q) (hq : q.kids = ks) (hmem : ∀ x, x ∈ ks' ↔ x ∈ ks ∨ x ∈ mv) (h0 : (putM l b ks').2 = 0) : setKids (parAll l mv b) b ks' = (putM l b ks').1 := by
  obtain ⟨_, _, _, hn⟩ := put_get h h0
  refine nodes_ext fun x => ?_
  rw [hn, nodeAt_setKids, nodeAt_parAll]
  cases hx : nodeAt l x with
  | none => rfl
  | some z =>
    have hk := kid_of h hb hx
    rw [hq] at hk
    simp only [Option.map_some, putN]
    congr 1
    have h1 : (if x ∈ mv then b else z.parent) = if x ∈ ks' then b else if z.parent = b then 0 else z.parent := by
      by_cases e1 : x ∈ mv
      · rw [if_pos e1, if_pos ((hmem x).2 (.inr e1))]
      · rw [if_neg e1]
        by_cases e2 : z.parent = b
        · rw [if_pos ((hmem x).2 (.inl (hk.2 e2))), e2]
        · rw [if_neg fun e => ((hmem x).1 e).elim (fun e => e2 (hk.1 e)) e1, if_neg e2]
    rw [← h1]
    by_cases e1 : x ∈ mv
    · simp only [if_pos e1]
      by_cases e2 : x = b
      · simp only [if_pos e2]
      · simp only [if_neg e2]
    · simp only [if_neg e1]
      by_cases e2 : x = b
      · simp only [if_pos e2]
      · simp only [if_neg e2]
theorem before7 {l : List Nd} (h : WF l) (hkd : Kd l) (a b c : Int) : Fun Try.prog 117 [.sem (listS nodeE l), .v (.int .i64 a), .v (.int .i64 b), .v (.int .i64 c)] [] (.tup [.sem (listS nodeE (beforeM l a b c).1), .v (.int .i64 (beforeM l a b c).2)]) [] := by
  have hchk := check6 h hkd a b c
  by_cases h0 : checkM l a b c = 0
  · obtain ⟨n, p, ks, ks', d⟩ := before_get h (before_ok h h0)
    have hok := before_ok h h0
    have ha0 := nodeAt_some d.ha
    have hb0 := nodeAt_some d.hb
    have hja := ha0.2.2
    have hl := h.len
    have hnext := next5 h a
    have hcp := copy_w h
    have hto : toM l a c = if c = a then nextM l a else c := rfl
    have hmv := d.mv h
    have hml := mv_len h a
    have hnk := kids_128 h a
    rw [nodeR_some d.ha] at hnk
    have hw1 := l1_wf h a
    have hl1 := leaveAll_l1 h d.ha
    have hks := l1_kids h d.ha d.hb (d.ne h)
    rw [← d.ek] at hks
    obtain ⟨q, hq⟩ : ∃ q, nodeAt (l1M l a) b = some q := by
      cases e : nodeAt (l1M l a) b with
      | some q => exact ⟨q, rfl⟩
      | none =>
        have := d.nx b
        obtain ⟨q, hq, _⟩ := d.kids h
        rw [e, hq] at this
        cases this
    rw [nodeR_some hq] at hks
    have hkn : ks.Nodup := by rw [← hks]; exact hw1.nod hq
    have hkl := kids_128 hw1 b
    rw [nodeR_some hq, hks] at hkl
    have hti := to_in h h0
    rw [nodeR_some hq, hks] at hti
    have hk0 : (0 : Int) ∉ ks := fun e => by
      rw [← hks] at e
      obtain ⟨y, hy, _⟩ := hw1.kid hq e
      rw [nodeAt_zero] at hy
      cases hy
    have e1 : beforeM l a b c = putM (l1M l a) b ks' := by rw [beforeM, if_neg (by simpa using h0), nodeR_some hq, hks, ← d.ek']
    have hins : ks' = ks.flatMap (insF (toM l a c) (mvM l a)) ++ if toM l a c = 0 then mvM l a else [] := by
      rw [d.ek', d.at']
      by_cases e : toM l a c = 0
      · rw [if_neg (by simpa using e), if_pos e, e, ins_none 0 _ ks hk0, List.take_length, List.drop_length, List.append_nil]
      · rw [if_pos e, if_neg e, ins_at _ _ ks hkn (hti.resolve_left e), List.append_nil]
    have hmem : ∀ x, x ∈ ks' ↔ x ∈ ks ∨ x ∈ mvM l a := fun x => by
      have e : x ∈ ks ↔ x ∈ ks.take (atM l a b c) ∨ x ∈ ks.drop (atM l a b c) := by rw [← List.mem_append, List.take_append_drop]
      rw [d.ek', List.mem_append, List.mem_append, e]
      constructor
      · rintro ((e | e) | e)
        · exact .inl (.inl e)
        · exact .inr e
        · exact .inl (.inr e)
      · rintro ((e | e) | e)
        · exact .inl (.inl e)
        · exact .inr e
        · exact .inl (.inr e)
    have hfin : setKids (parAll (l1M l a) (mvM l a) b) b ks' = (beforeM l a b c).1 := by rw [e1]; exact put_written hw1 hq hks hmem (by rw [← e1]; exact hok)
    have hmx : ∀ k ∈ mvM l a, ∃ y, nodeAt l k = some y := fun k hk => by
      rw [hmv] at hk
      split at hk
      · obtain ⟨y, hy, _⟩ := h.kid d.ha hk
        exact ⟨y, hy⟩
      · rw [List.mem_singleton.1 hk]
        exact ⟨n, d.ha⟩
    have hkl' : ks'.length ≤ 128 := by
      obtain ⟨q2, hq2, hqk2⟩ := d.kids h
      have := kids_128 (before_wf h a b c) b
      rwa [nodeR_some hq2, hqk2] at this
    rw [h0] at hchk
    rw [hok]
    rw [← hfin]
    clear hok e1 hfin hti hk0 d
    obtain ⟨l1, el1⟩ : ∃ l1, l1 = l1M l a := ⟨_, rfl⟩
    rw [← el1] at hl1 hq hw1 ⊢
    clear el1
    generalize mvM l a = mv at *
    generalize nextM l a = nx at *
    generalize toM l a c = c' at *
    have hll : l1.length = l.length := by
      have h1 : ∀ (l l2 : List Nd), (∀ x, (nodeAt l2 x).isSome = (nodeAt l x).isSome) → l2.length ≤ l.length := fun l l2 hl => by
        by_cases e : l2.length = 0
        · omega
        · have := hl l2.length
          rw [nodeAt, if_pos (by omega), List.getElem?_eq_getElem (by omega), Option.isSome_some] at this
          cases hx : nodeAt l l2.length with
          | none => rw [hx] at this; cases this
          | some y => have := nodeAt_some hx; omega
      have h2 : ∀ x, (nodeAt l1 x).isSome = (nodeAt l x).isSome := fun x => by
        rw [← hl1, leaveAll_node x mv h]
        cases nodeAt l x <;> rfl
      exact Nat.le_antisymm (h1 l l1 h2) (h1 l1 l fun x => (h2 x).symm)
    refine fun_intro 119 Try.func117 rfl rfl rfl (fun ι F S w => ?_)
    (repeat (first | (apply v_cx; exact rfl; exact cbA rfl; (first | exact hchk); exact rfl; exact rfl) | (apply v_move; exact rfl; exact rfl) | (apply v_assign; exact rfl; exact rfl) | refine run_seq ?_ | refine run_region ?_ | refine runL_nil ?_ | refine run_skip ?_ | (apply run_cond; exact rfl; (focus (intro hb; cases hb; done)); intro hb; clear hb) | (apply v_eql; exact rfl; exact rfl; exact rfl) | (apply v_neq; exact rfl; exact rfl; exact rfl)))
    apply via3 (p := RunL _ _ _ ⟨[(1, .v (.int .i64 a)), (2, .v (.int .i64 b)), (3, .v (.int .i64 c')), (33, .sem (listS nodeE l))], []⟩ _)
    rotate_left
    · intro key
      by_cases hca : c = a
      · rw [if_pos hca] at hto
        refine run_condY rfl (by simpa using hca) ?_
        (repeat (first | (apply v_cx; exact rfl; exact cbA rfl; (first | exact hnext); exact rfl; exact rfl) | (apply v_move; exact rfl; exact rfl) | (apply v_assign; exact rfl; exact rfl) | refine run_seq ?_ | refine run_region ?_ | refine runL_nil ?_))
        refine runL_weak idN (σ2 := ⟨[(1, .v (.int .i64 a)), (2, .v (.int .i64 b)), (3, .v (.int .i64 c')), (33, .sem (listS nodeE l))], []⟩) ?_ ?_ ?_ ?_ key.out <;> first | exact trivial | (rw [hto]; exact ⟨rfl, rfl, rfl, rfl, trivial⟩) | rfl
      · rw [if_neg hca] at hto
        refine run_condN rfl (by simpa using hca) ?_
        (repeat (first | (apply v_move; exact rfl; exact rfl) | refine run_seq ?_ | refine run_region ?_ | refine run_skip ?_))
        refine runL_weak idN (σ2 := ⟨[(1, .v (.int .i64 a)), (2, .v (.int .i64 b)), (3, .v (.int .i64 c')), (33, .sem (listS nodeE l))], []⟩) ?_ ?_ ?_ ?_ key.out <;> first | exact trivial | (rw [hto]; exact ⟨rfl, rfl, rfl, rfl, trivial⟩) | rfl
    · clear hto hnext
      (repeat (first | (apply v_cOx; exact rfl; exact cbA rfl; (first | exact hcp); exact rfl; exact rfl; exact rfl; exact rfl; exact rfl) | (apply v_move; exact rfl; exact rfl) | (apply v_assign; exact rfl; exact rfl) | refine run_seq ?_ | refine run_region ?_ | refine runL_nil ?_))
      refine v_l intE [a] (slA rfl) (tyA rfl) rfl rfl rfl rfl rfl rfl rfl rfl rfl rfl ?_
      (repeat (first | (apply v_idxO; exact slA rfl; exact tyA rfl; exact rfl; exact rfl; exact rfl; exact rfl; exact (by omega); exact (by omega); exact rfl) | (apply v_loadO; exact tyA rfl; exact rfl; exact rfl; exact rfl; exact rfl; (first | exact hja); exact (by decide); exact rfl; exact rfl) | (apply v_move; exact rfl; exact rfl) | (apply v_assign; exact rfl; exact rfl) | refine run_seq ?_ | refine run_region ?_ | refine runL_nil ?_ | (apply v_fldP; exact flA rfl; exact rfl; exact rfl; exact rfl) | (apply v_eql; exact rfl; exact rfl; exact rfl) | (apply v_sub; exact rfl; exact rfl; exact rfl; exact (by omega))))
      apply via3 (p := Run _ _ ⟨[(2, .v (.int .i64 b)), (3, .v (.int .i64 c')), (11, .res 34), (12, .sem (listS intE mv)), (13, .v (.int .i64 0))], [(34, .obj (ownS 33 nodeE l))]⟩)
      rotate_left
      · intro key
        by_cases hk : n.kind = 4
        · rw [if_pos hk] at hmv
          refine run_condY rfl (by simpa using hk) ?_
          (repeat (first | refine run_region ?_))
          refine v_lO intE [] (slA rfl) (tyA rfl) rfl rfl rfl rfl rfl rfl rfl rfl rfl rfl rfl rfl rfl rfl ?_
          (repeat (first | (apply v_idxO; exact slA rfl; exact tyA rfl; exact rfl; exact rfl; exact rfl; exact rfl; exact (by omega); exact (by omega); exact rfl) | (apply v_loadO; exact tyA rfl; exact rfl; exact rfl; exact rfl; exact rfl; (first | exact hja); exact (by decide); exact rfl; exact rfl) | (apply v_move; exact rfl; exact rfl) | (apply v_fldP; exact flA rfl; exact rfl; exact rfl; exact rfl) | (apply v_sub; exact rfl; exact rfl; exact rfl; exact (by omega))))
          refine v_appendD (slA rfl) (tyA rfl) rfl rfl rfl rfl rfl rfl rfl (by simp; omega) rfl rfl rfl rfl ?_
          refine runL_freeze 51 51 rfl rfl ?_
          (repeat (first | (apply v_assign; exact rfl; exact rfl) | refine run_seq ?_ | refine run_region ?_ | refine runL_nil ?_ | refine run_block ?_))
          refine run_weak idN (σ2 := ⟨[(2, .v (.int .i64 b)), (3, .v (.int .i64 c')), (11, .res 34), (12, .sem (listS intE mv)), (13, .v (.int .i64 0))], [(34, .obj (ownS 33 nodeE l))]⟩) ?_ ?_ ?_ ?_ key.out <;> first | exact trivial | exact ⟨rfl, trivial⟩ | (rw [hmv]; exact ⟨rfl, rfl, rfl, rfl, rfl, trivial⟩) | rfl
        · rw [if_neg hk] at hmv
          refine run_condN rfl (by simpa using hk) ?_
          (repeat (first | (apply v_assign; exact rfl; exact rfl) | refine run_seq ?_ | refine run_region ?_ | refine runL_nil ?_ | refine run_skip ?_ | refine run_block ?_))
          refine run_weak idN (σ2 := ⟨[(2, .v (.int .i64 b)), (3, .v (.int .i64 c')), (11, .res 34), (12, .sem (listS intE mv)), (13, .v (.int .i64 0))], [(34, .obj (ownS 33 nodeE l))]⟩) ?_ ?_ ?_ ?_ key.out <;> first | exact trivial | exact ⟨rfl, trivial⟩ | (rw [hmv]; exact ⟨rfl, rfl, rfl, rfl, rfl, trivial⟩) | rfl
      · clear hmv
        refine v_loop (fun i : Nat => ⟨[(2, .v (.int .i64 b)), (3, .v (.int .i64 c')), (11, .res 34), (12, .sem (listS intE mv)), (13, .v (.int .i64 i))], [(34, .obj (ownS 33 nodeE (leaveAll l (mv.take i))))]⟩) (fun i => i ≤ mv.length) (fun i => mv.length - i) 0 idN trivial (by repeat (first | exact trivial | refine ⟨rfl, ?_⟩)) (by repeat (first | exact trivial | refine ⟨rfl, ?_⟩)) rfl (by omega) fun i hi ih => ?_
        (repeat (first | (apply v_move; exact rfl; exact rfl) | refine run_seq ?_ | refine run_region ?_ | refine runL_nil ?_ | (apply v_lss; exact rfl; exact rfl; exact rfl) | (apply v_lenL; exact slA rfl; exact rfl; exact rfl)))
        refine run_cond rfl (fun hb1 => ?_) (fun hb1 => ?_)
        · have hlt : i < mv.length := by simpa using hb1
          have hx2 : mv[((i : Int)).toNat]? = some mv[i] := by simp [hlt]
          have hst := leaveAll_take (l := l) hlt
          obtain ⟨y, hy⟩ := hmx _ (List.getElem_mem hlt)
          have hy2 := leaveAll_node mv[i] (mv.take i) h
          rw [hy, Option.map_some] at hy2
          have hlv := leave7 (leaveAll_wf (mv.take i) h) hy2
          rw [← hst] at hlv
          (repeat (first | (apply v_idxL; exact slA rfl; exact tyA rfl; exact rfl; exact rfl; exact rfl; exact rfl; exact (by omega); (first | exact hx2); exact rfl) | (apply v_move; exact rfl; exact rfl) | refine run_seq ?_ | refine run_region ?_ | refine run_skip ?_ | refine run_block ?_ | (apply v_loadA; exact tyA rfl; exact rfl; exact rfl; exact rfl; exact rfl; exact rfl; exact rfl)))
          refine v_cR (mp [(0, 34)]) hlv rfl (cbA rfl) ⟨rfl, trivial⟩ (by kernel_rfl) (by kernel_rfl) (by kernel_rfl) (by kernel_rfl) (by kernel_rfl) (by kernel_rfl) (by kernel_rfl) (by kernel_rfl) rfl ?_
          (repeat (first | (apply v_move; exact rfl; exact rfl) | (apply v_assign; exact rfl; exact rfl) | refine run_region ?_ | refine runL_nil ?_ | refine run_inBlock ?_ | (apply v_add; exact rfl; exact rfl; exact rfl; exact (by omega))))
          exact v_again ih (i + 1) idN trivial (by repeat (first | exact trivial | refine ⟨rfl, ?_⟩)) (by repeat (first | exact trivial | refine ⟨rfl, ?_⟩)) rfl (by omega) (by omega)
        · have hge : i = mv.length := by have : ¬ i < mv.length := (by simpa using hb1); omega
          rw [hge, List.take_length, hl1]
          clear ih hb1 hge hi
          have hjb := (nodeAt_some hq).2.2
          rw [← hll] at hb0
          (repeat (first | (apply v_idxO; exact slA rfl; exact tyA rfl; exact rfl; exact rfl; exact rfl; exact rfl; exact (by omega); exact (by omega); exact rfl) | (apply v_loadO; exact tyA rfl; exact rfl; exact rfl; exact rfl; exact rfl; (first | exact hjb); exact (by decide); exact rfl; exact rfl) | (apply v_move; exact rfl; exact rfl) | (apply v_assign; exact rfl; exact rfl) | refine run_seq ?_ | refine run_region ?_ | refine runL_nil ?_ | refine run_block ?_ | (apply run_exit; exact rfl) | (apply v_fldP; exact flA rfl; exact rfl; exact rfl; exact rfl) | (apply v_sub; exact rfl; exact rfl; exact rfl; exact (by omega))))
          rw [hks]
          refine run_own 14 14 3 intE rfl rfl rfl rfl ?_
          refine v_loop (fun z : Nat × List Int => ⟨[(2, .v (.int .i64 b)), (3, .v (.int .i64 c')), (11, .res 34), (12, .sem (listS intE mv)), (14, .res 14), (15, .sem (listS intE ks)), (16, .v (.int .i64 z.1))], [(34, .obj (ownS 33 nodeE l1)), (14, .obj (ownS 3 intE z.2))]⟩) (fun z => z.1 ≤ ks.length ∧ z.2 ++ (ks.drop z.1).flatMap (insF c' mv) = ks.flatMap (insF c' mv) ∧ z.2.length ≤ 200 * z.1) (fun z => ks.length - z.1) (0, []) idN trivial (by repeat (first | exact trivial | refine ⟨rfl, ?_⟩)) (by repeat (first | exact trivial | refine ⟨rfl, ?_⟩)) rfl ⟨by simp, rfl, by simp⟩ fun ⟨j, B⟩ ⟨hj, hB, hBl⟩ ih => ?_
          dsimp only at hj hB hBl ⊢
          (repeat (first | (apply v_move; exact rfl; exact rfl) | refine run_seq ?_ | refine run_region ?_ | refine runL_nil ?_ | (apply v_lss; exact rfl; exact rfl; exact rfl) | (apply v_lenL; exact slA rfl; exact rfl; exact rfl)))
          refine run_cond rfl (fun hb1 => ?_) (fun hb1 => ?_)
          · have hlt : j < ks.length := by simpa using hb1
            have hx2 : ks[((j : Int)).toNat]? = some ks[j] := by simp [hlt]
            rw [List.drop_eq_getElem_cons hlt, List.flatMap_cons, ← List.append_assoc] at hB
            have hil := insF_len c' mv ks[j]
            have hif : insF c' mv ks[j] = if ks[j] = c' then mv ++ [ks[j]] else [ks[j]] := rfl
            generalize ks[j] = w at *
            (repeat (first | (apply v_idxL; exact slA rfl; exact tyA rfl; exact rfl; exact rfl; exact rfl; exact rfl; exact (by omega); (first | exact hx2); exact rfl) | (apply v_move; exact rfl; exact rfl) | refine run_seq ?_ | refine run_region ?_ | refine runL_nil ?_ | refine run_skip ?_ | refine run_block ?_ | (apply v_loadA; exact tyA rfl; exact rfl; exact rfl; exact rfl; exact rfl; exact rfl; exact rfl) | (apply v_eql; exact rfl; exact rfl; exact rfl)))
            refine run_cond rfl (fun h2 => ?_) (fun h2 => ?_)
            · have e : w = c' := by simpa using h2
              rw [if_pos e] at hif
              (repeat (first | (apply v_move; exact rfl; exact rfl) | refine run_region ?_))
              refine v_appendD (slA rfl) (tyA rfl) rfl rfl rfl rfl rfl rfl rfl (by omega) rfl rfl rfl rfl ?_
              (repeat (first | (apply v_idxL; exact slA rfl; exact tyA rfl; exact rfl; exact rfl; exact rfl; exact rfl; exact (by omega); (first | exact hx2); exact rfl) | (apply v_move; exact rfl; exact rfl) | (apply v_assign; exact rfl; exact rfl) | refine run_region ?_ | refine runL_nil ?_ | (apply v_loadA; exact tyA rfl; exact rfl; exact rfl; exact rfl; exact rfl; exact rfl; exact rfl)))
              refine v_l intE [w] (slA rfl) (tyA rfl) rfl rfl rfl rfl rfl rfl rfl rfl rfl rfl ?_
              refine v_appendD (slA rfl) (tyA rfl) rfl rfl rfl rfl rfl rfl rfl (by simp only [List.length_append, List.length_singleton]; omega) rfl rfl rfl rfl ?_
              (repeat (first | (apply v_move; exact rfl; exact rfl) | (apply v_assign; exact rfl; exact rfl) | refine run_region ?_ | refine runL_nil ?_ | refine run_inBlock ?_ | (apply v_add; exact rfl; exact rfl; exact rfl; exact (by omega))))
              exact v_again ih (j + 1, B ++ mv ++ [w]) (mp [(14, 91)]) trivial (by repeat (first | exact trivial | refine ⟨rfl, ?_⟩)) (by repeat (first | exact trivial | refine ⟨rfl, ?_⟩)) rfl ⟨by dsimp only; omega, by dsimp only; rw [← hB, hif, List.append_assoc B], by dsimp only; simp only [List.length_append, List.length_singleton]; omega⟩ (by dsimp only; omega)
            · have e : ¬ w = c' := by simpa using h2
              rw [if_neg e] at hif
              (repeat (first | (apply v_idxL; exact slA rfl; exact tyA rfl; exact rfl; exact rfl; exact rfl; exact rfl; exact (by omega); (first | exact hx2); exact rfl) | (apply v_move; exact rfl; exact rfl) | refine run_region ?_ | refine run_skip ?_ | (apply v_loadA; exact tyA rfl; exact rfl; exact rfl; exact rfl; exact rfl; exact rfl; exact rfl)))
              refine v_l intE [w] (slA rfl) (tyA rfl) rfl rfl rfl rfl rfl rfl rfl rfl rfl rfl ?_
              refine v_appendD (slA rfl) (tyA rfl) rfl rfl rfl rfl rfl rfl rfl (by simp only [List.length_singleton]; omega) rfl rfl rfl rfl ?_
              (repeat (first | (apply v_move; exact rfl; exact rfl) | (apply v_assign; exact rfl; exact rfl) | refine run_region ?_ | refine runL_nil ?_ | refine run_inBlock ?_ | (apply v_add; exact rfl; exact rfl; exact rfl; exact (by omega))))
              exact v_again ih (j + 1, B ++ [w]) (mp [(14, 91)]) trivial (by repeat (first | exact trivial | refine ⟨rfl, ?_⟩)) (by repeat (first | exact trivial | refine ⟨rfl, ?_⟩)) rfl ⟨by dsimp only; omega, by dsimp only; rw [← hB, hif], by dsimp only; simp only [List.length_append, List.length_singleton]; omega⟩ (by dsimp only; omega)
          · have hge : j = ks.length := by have : ¬ j < ks.length := (by simpa using hb1); omega
            rw [hge, List.drop_length, List.flatMap_nil, List.append_nil] at hB
            rw [hge] at hBl
            clear ih hb1 hge hj
            rw [← hB] at hins
            clear hB
            (repeat (first | (apply v_move; exact rfl; exact rfl) | refine run_seq ?_ | refine run_region ?_ | refine runL_nil ?_ | (apply run_exit; exact rfl) | (apply v_eql; exact rfl; exact rfl; exact rfl)))
            apply via3 (p := Run _ _ ⟨[(2, .v (.int .i64 b)), (11, .res 34), (12, .sem (listS intE mv)), (14, .sem (listS intE ks')), (17, .v (.int .i64 0))], [(34, .obj (ownS 33 nodeE l1))]⟩)
            rotate_left
            · intro key
              by_cases e : c' = 0
              · rw [if_pos e] at hins
                refine run_condY rfl (by simpa using e) ?_
                (repeat (first | (apply v_move; exact rfl; exact rfl) | refine run_region ?_))
                refine v_appendD (slA rfl) (tyA rfl) rfl rfl rfl rfl rfl rfl rfl (by omega) rfl rfl rfl rfl ?_
                refine runL_freeze 96 96 rfl rfl ?_
                (repeat (first | (apply v_assign; exact rfl; exact rfl) | refine run_seq ?_ | refine run_region ?_ | refine runL_nil ?_ | refine run_block ?_))
                refine run_weak idN (σ2 := ⟨[(2, .v (.int .i64 b)), (11, .res 34), (12, .sem (listS intE mv)), (14, .sem (listS intE ks')), (17, .v (.int .i64 0))], [(34, .obj (ownS 33 nodeE l1))]⟩) ?_ ?_ ?_ ?_ key.out <;> first | exact trivial | exact ⟨rfl, trivial⟩ | (rw [hins]; exact ⟨rfl, rfl, rfl, rfl, rfl, trivial⟩) | rfl
              · rw [if_neg e, List.append_nil] at hins
                refine run_condN rfl (by simpa using e) ?_
                refine run_freeze 14 14 rfl rfl ?_
                (repeat (first | (apply v_assign; exact rfl; exact rfl) | refine run_seq ?_ | refine run_region ?_ | refine runL_nil ?_ | refine run_skip ?_ | refine run_block ?_))
                refine run_weak idN (σ2 := ⟨[(2, .v (.int .i64 b)), (11, .res 34), (12, .sem (listS intE mv)), (14, .sem (listS intE ks')), (17, .v (.int .i64 0))], [(34, .obj (ownS 33 nodeE l1))]⟩) ?_ ?_ ?_ ?_ key.out <;> first | exact trivial | exact ⟨rfl, trivial⟩ | (rw [hins]; exact ⟨rfl, rfl, rfl, rfl, rfl, trivial⟩) | rfl
            · clear hins
              refine v_loop (fun i : Nat => ⟨[(2, .v (.int .i64 b)), (11, .res 34), (12, .sem (listS intE mv)), (14, .sem (listS intE ks')), (17, .v (.int .i64 i))], [(34, .obj (ownS 33 nodeE (parAll l1 (mv.take i) b)))]⟩) (fun i => i ≤ mv.length) (fun i => mv.length - i) 0 idN trivial (by repeat (first | exact trivial | refine ⟨rfl, ?_⟩)) (by repeat (first | exact trivial | refine ⟨rfl, ?_⟩)) rfl (by omega) fun i hi ih => ?_
              (repeat (first | (apply v_move; exact rfl; exact rfl) | refine run_seq ?_ | refine run_region ?_ | refine runL_nil ?_ | (apply v_lss; exact rfl; exact rfl; exact rfl) | (apply v_lenL; exact slA rfl; exact rfl; exact rfl)))
              refine run_cond rfl (fun hb1 => ?_) (fun hb1 => ?_)
              · have hlt : i < mv.length := by simpa using hb1
                have hx : mv[((i : Int)).toNat]? = some mv[i] := by simp [hlt]
                have hLl := len_parAll (mv.take i) b l1
                obtain ⟨y, hy⟩ := Option.isSome_iff_exists.1 ((nodeAt_len (hLl.trans hll) mv[i]).trans (by obtain ⟨y, hy⟩ := hmx _ (List.getElem_mem hlt); rw [hy]; rfl))
                obtain ⟨y1, y2, y3⟩ := nodeAt_some hy
                have hstep : parAll l1 (mv.take (i + 1)) b = (parAll l1 (mv.take i) b).set (mv[i] - 1).toNat { y with parent := b } := by
                  rw [parAll_take (k := mv[i]) (by simp [hlt]), setPar, hy]
                  rfl
                (repeat (first | (apply v_idxL; exact slA rfl; exact tyA rfl; exact rfl; exact rfl; exact rfl; exact rfl; exact (by omega); (first | exact hx); exact rfl) | (apply v_idxO; exact slA rfl; exact tyA rfl; exact rfl; exact rfl; exact rfl; exact rfl; exact (by omega); exact (by omega); exact rfl) | (apply v_move; exact rfl; exact rfl) | refine run_seq ?_ | refine run_region ?_ | refine run_skip ?_ | refine run_block ?_ | (apply v_fldP; exact flA rfl; exact rfl; exact rfl; exact rfl) | (apply v_loadA; exact tyA rfl; exact rfl; exact rfl; exact rfl; exact rfl; exact rfl; exact rfl) | (apply v_sub; exact rfl; exact rfl; exact rfl; exact (by omega))))
                refine v_storeO { y with parent := b } (tyA rfl) rfl rfl rfl rfl y3 rfl rfl (by decide) rfl rfl ?_
                (repeat (first | (apply v_move; exact rfl; exact rfl) | (apply v_assign; exact rfl; exact rfl) | refine run_region ?_ | refine runL_nil ?_ | refine run_inBlock ?_ | (apply v_add; exact rfl; exact rfl; exact rfl; exact (by omega))))
                exact v_again ih (i + 1) idN trivial (by repeat (first | exact trivial | refine ⟨rfl, ?_⟩)) ⟨by rw [hstep]; rfl, trivial⟩ rfl (by omega) (by omega)
              · have hge : i = mv.length := by have : ¬ i < mv.length := (by simpa using hb1); omega
                rw [hge, List.take_length]
                clear ih hb1
                obtain ⟨l2, hl2e⟩ : ∃ l2, l2 = parAll l1 mv b := ⟨_, rfl⟩
                have hl2 : l2.length = l1.length := by rw [hl2e, len_parAll]
                rw [← hl2e]
                obtain ⟨q2, hp2⟩ := Option.isSome_iff_exists.1 ((nodeAt_len hl2 b).trans (by rw [hq]; rfl))
                have hj2 := (nodeAt_some hp2).2.2
                have hres : setKids l2 b ks' = l2.set (b - 1).toNat { q2 with kids := ks' } := by rw [setKids, hp2]; rfl
                rw [hres]
                (repeat (first | (apply v_idxO; exact slA rfl; exact tyA rfl; exact rfl; exact rfl; exact rfl; exact rfl; exact (by omega); exact (by omega); exact rfl) | (apply v_move; exact rfl; exact rfl) | refine run_seq ?_ | refine run_region ?_ | (apply run_exit; exact rfl) | (apply v_fldP; exact flA rfl; exact rfl; exact rfl; exact rfl) | (apply v_sub; exact rfl; exact rfl; exact rfl; exact (by omega))))
                refine v_storeO { q2 with kids := ks' } (tyA rfl) rfl rfl rfl rfl hj2 rfl rfl (by decide) rfl rfl ?_
                (repeat (first | (apply v_move; exact rfl; exact rfl) | (apply v_assign; exact rfl; exact rfl) | refine run_seq ?_ | refine run_region ?_ | refine runL_nil ?_))
                refine run_freeze 8 34 rfl rfl ?_
                exact run_ret idN _ Try.func117 ⟨_, _, rfl, rfl, _, _, rfl, rfl, rfl⟩ rfl trivial trivial rfl
  · have e1 : beforeM l a b c = (l, checkM l a b c) := by rw [beforeM, if_pos h0]
    rw [e1]
    generalize checkM l a b c = e at *
    refine fun_intro 119 Try.func117 rfl rfl rfl (fun ι F S w => ?_)
    (repeat (first | (apply v_cx; exact rfl; exact cbA rfl; (first | exact hchk); exact rfl; exact rfl) | (apply v_move; exact rfl; exact rfl) | (apply v_assign; exact rfl; exact rfl) | refine run_seq ?_ | refine run_region ?_ | refine runL_nil ?_ | (apply v_neq; exact rfl; exact rfl; exact rfl)))
    refine run_condY rfl (by simpa using h0) ?_
    (repeat (first | (apply v_move; exact rfl; exact rfl) | (apply v_assign; exact rfl; exact rfl) | refine run_seq ?_ | refine run_region ?_ | refine runL_nil ?_))
    exact run_ret idN _ Try.func117 ⟨_, _, rfl, rfl, _, _, rfl, rfl, rfl⟩ rfl trivial trivial rfl
end Go.Proofs.Ytjkidecaciomgaa
