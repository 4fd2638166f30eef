/- The live forest: Node; shade: Closed, Attach; aim: Both. -/
import Derived.Test.YtjkidecaciomgaaSh1
namespace Go.Proofs.Ytjkidecaciomgaa
set_option linter.unusedVariables false
set_option linter.unusedSimpArgs false
set_option maxRecDepth 100000
open Go.RowKit

theorem nodel_n {l : List Nd} (h : WF l) {id : Int} (hx : nodeAt l id = none) : Fun Try.prog 38 [.ptr 0 0, .v (.int .i64 id)] (forR 1 l) (.tup [.agg (nodeL nd0), .v (.bool false)]) (forR 1 l) := by
  have hm : l.length ≤ 1000000 := by have := h.len; omega
  refine fun_intro 24 Try.func38 rfl rfl rfl (fun ι F S w => ?_)
  (repeat (first | (apply v_cSx; exact rfl; exact cbA rfl; (first | exact at_mn hx hm); (repeat (first | exact trivial | refine ⟨rfl, ?_⟩)); exact rfl; exact rfl; exact rfl; exact rfl; exact rfl) | (apply v_move; exact rfl; exact rfl) | (apply v_assign; exact rfl; exact rfl) | refine run_seq ?_ | refine run_region ?_ | refine runL_nil ?_ | (apply run_cond; exact rfl; rotate_left; (focus (intro hb; cases hb; done)); intro hb; clear hb) | (apply v_nilEql; exact ptA rfl; exact rfl; exact rfl) | (apply v_allocD; exact tyA rfl; exact rfl; exact rfl; exact rfl; exact rfl) | (apply v_storeW; exact tyA rfl; exact rfl; exact rfl; exact rfl; exact rfl; exact rfl; exact rfl; exact rfl) | (apply v_b; exact plA rfl; exact tyA rfl; exact rfl; exact rfl; exact rfl)))
  refine run_leB 4 rfl (l' := nodeL nd0) (by repeat (first | exact trivial | refine ⟨Le.refl, ?_⟩ | refine ⟨Le.nil, ?_⟩)) ?_
  exact run_ret idN _ Try.func38 ⟨_, _, _, _, _, _, rfl, rfl, rfl, ty33, rfl, (fun h => by cases h), rfl, ⟨_, _, rfl, rfl, rfl⟩⟩ rfl ⟨rfl, rfl, trivial⟩ ⟨rfl, rfl, trivial⟩ rfl
theorem nodel_s {l : List Nd} (h : WF l) {id : Int} {x : Nd} (hx : nodeAt l id = some x) : Fun Try.prog 38 [.ptr 0 0, .v (.int .i64 id)] (forR 1 l) (.tup [.agg (nodeL x), .v (.bool true)]) (forR 1 l) := by
  have hm : l.length ≤ 1000000 := by have := h.len; omega
  have hkx := (kids_ok h id x hx).1
  have hj := (nodeAt_some hx).2.2
  refine fun_intro 24 Try.func38 rfl rfl rfl (fun ι F S w => ?_)
  (repeat (first | (apply v_cSx; exact rfl; exact cbA rfl; (first | exact at_m hx hm); (repeat (first | exact trivial | refine ⟨rfl, ?_⟩)); exact rfl; exact rfl; exact rfl; exact rfl; exact rfl) | (apply v_move; exact rfl; exact rfl) | (apply v_assign; exact rfl; exact rfl) | refine run_seq ?_ | refine run_region ?_ | refine runL_nil ?_ | refine run_skip ?_ | (apply run_cond; exact rfl; (focus (intro hb; cases hb; done)); intro hb; clear hb) | (apply v_eqlNil; exact ptA rfl; exact rfl; exact NN.ptr; exact rfl) | (apply v_nilCheck; exact rfl; exact NN.ptr; exact rfl) | (apply v_allocD; exact tyA rfl; exact rfl; exact rfl; exact rfl; exact rfl)))
  refine v_loadO (f := 0) (tyA rfl) rfl rfl rfl rfl hj (by decide) rfl rfl ?_
  (repeat (first | (apply v_loadO; exact tyA rfl; exact rfl; exact rfl; exact rfl; exact rfl; (first | exact hj); exact (by decide); exact rfl; exact rfl) | (apply v_c (clone_i hkx); exact rfl; exact cbA rfl; exact rfl; exact rfl) | (apply v_move; exact rfl; exact rfl) | (apply v_assign; exact rfl; exact rfl) | refine run_seq ?_ | refine run_region ?_ | refine runL_nil ?_ | (apply v_fldP; exact flA rfl; exact rfl; exact rfl; exact rfl) | (apply v_loadB; exact tyA rfl; exact rfl; exact rfl; exact rfl; exact rfl; exact rfl; exact rfl) | (apply v_nilCheck; exact rfl; exact NN.ptr; exact rfl) | (apply v_allocD; exact tyA rfl; exact rfl; exact rfl; exact rfl; exact rfl) | (apply v_storeW; exact tyA rfl; exact rfl; exact rfl; exact rfl; exact rfl; exact rfl; exact rfl; exact rfl) | (apply v_storeB; exact tyA rfl; exact rfl; exact rfl; exact rfl; exact rfl; exact rfl; exact rfl; exact rfl)))
  exact run_ret idN _ Try.func38 ⟨_, _, _, _, _, _, rfl, rfl, rfl, ty33, rfl, (fun h => by cases h), rfl, ⟨_, _, rfl, rfl, rfl⟩⟩ rfl ⟨rfl, rfl, trivial⟩ ⟨rfl, rfl, trivial⟩ rfl
theorem closed_f {l : List Nd} (h : WF l) (id : Int) : Fun Try.prog 95 [forA l, .v (.int .i64 id)] [] (.res 0) [(0, .obj (ownS 3 intE (closedM l id)))] := by
  have hl := roots_len h id
  have hp := roots_p h id
  have hcm : closedM l id = (rootsM l id).filter (isClosed l) := rfl
  rw [hcm]
  generalize rootsM l id = u at *
  refine fun_intro 38 Try.func95 rfl rfl rfl (fun ι F S w => ?_)
  (repeat (first | (apply v_move; exact rfl; exact rfl) | (apply v_assign; exact rfl; exact rfl) | refine run_seq ?_ | refine run_region ?_ | refine runL_nil ?_))
  refine runL_own 5 5 3 intE rfl rfl rfl rfl ?_
  (repeat (first | (apply v_cx; exact rfl; exact cbA rfl; (first | exact hp); exact rfl; exact rfl) | (apply v_move; exact rfl; exact rfl) | refine runL_nil ?_ | refine run_block ?_ | (apply v_lenL; exact slA rfl; exact rfl; exact rfl)))
  refine v_loop (fun i : Nat => ⟨[(0, forA l), (5, .res 5), (12, .sem (listS intE u)), (13, .v (.int .i64 u.length)), (14, .v (.int .i64 i))], [(5, .obj (ownS 3 intE ((u.take i).filter (isClosed l))))]⟩) (fun i => i ≤ u.length) (fun i => u.length - i) 0 idN trivial (by repeat (first | exact trivial | refine ⟨rfl, ?_⟩)) (by repeat (first | exact trivial | refine ⟨rfl, ?_⟩)) rfl (by omega) fun i hi ih => ?_
  (repeat (first | refine run_seq ?_ | refine run_region ?_ | refine runL_nil ?_ | (apply v_lss; exact rfl; exact rfl; exact rfl)))
  refine run_cond rfl (fun hb => ?_) (fun hb => ?_)
  · have hlt : i < u.length := by simpa using hb
    have hx : u[((i : Int)).toNat]? = some u[i] := by simp [hlt]
    have hst : (u.take (i + 1)).filter (isClosed l) = (u.take i).filter (isClosed l) ++ (if isClosed l u[i] = true then [u[i]] else []) := by
      rw [List.take_add_one, List.filter_append, List.getElem?_eq_getElem hlt]
      congr 1
      simp only [Option.toList_some, List.filter_cons, List.filter_nil]
    have hfl : ((u.take i).filter (isClosed l)).length ≤ i := Nat.le_trans (List.length_filter_le _ _) (by rw [List.length_take]; omega)
    have hn := node_w h u[i]
    have hic : isClosed l u[i] = (decide ((nodeR l u[i]).kind = 3) && decide ((nodeR l u[i]).mode = 2)) := rfl
    generalize u[i] = c at *
    generalize nodeR l c = y at *
    (repeat (first | (apply v_idxL; exact slA rfl; exact tyA rfl; exact rfl; exact rfl; exact rfl; exact rfl; exact (by omega); (first | exact hx); exact rfl) | (apply v_cx; exact rfl; exact cbA rfl; (first | exact hn); exact rfl; exact rfl) | (apply v_move; exact rfl; exact rfl) | (apply v_assign; exact rfl; exact rfl) | refine run_seq ?_ | refine run_region ?_ | refine runL_nil ?_ | refine run_skip ?_ | refine run_block ?_ | (apply v_extract; exact rfl; exact rfl; exact rfl) | (apply v_fldP; exact flA rfl; exact rfl; exact rfl; exact rfl) | (apply v_loadB; exact tyA rfl; exact rfl; exact rfl; exact rfl; exact rfl; exact rfl; exact rfl) | (apply v_loadA; exact tyA rfl; exact rfl; exact rfl; exact rfl; exact rfl; exact rfl; exact rfl) | (apply v_eql; exact rfl; exact rfl; exact rfl) | (apply v_allocD; exact tyA rfl; exact rfl; exact rfl; exact rfl; exact rfl) | (apply v_storeW; exact tyA rfl; exact rfl; exact rfl; exact rfl; exact rfl; exact rfl; exact rfl; exact rfl)))
    by_cases hk : y.kind = 3
    · refine v_is 27 true rfl (by simpa using hk) ?_
      (repeat (first | refine runL_nil ?_ | (apply v_fldP; exact flA rfl; exact rfl; exact rfl; exact rfl) | (apply v_loadB; exact tyA rfl; exact rfl; exact rfl; exact rfl; exact rfl; exact rfl; exact rfl) | (apply v_on; exact rfl) | (apply v_pick_t; exact rfl; exact rfl; exact rfl) | (apply v_eql; exact rfl; exact rfl; exact rfl)))
      refine run_cond rfl (fun hc => ?_) (fun hc => ?_)
      · have hmd : y.mode = 2 := by simpa using hc
        rw [hic, decide_eq_true hk, decide_eq_true hmd] at hst
        (repeat (first | (apply v_move; exact rfl; exact rfl) | refine run_region ?_))
        refine v_l intE [c] (slA rfl) (tyA rfl) rfl rfl rfl rfl rfl rfl rfl rfl rfl rfl ?_
        refine v_appendD (slA rfl) (tyA rfl) rfl rfl rfl rfl rfl rfl rfl (by simp; omega) rfl rfl rfl rfl ?_
        (repeat (first | (apply v_move; exact rfl; exact rfl) | (apply v_assign; exact rfl; exact rfl) | refine run_region ?_ | refine runL_nil ?_ | refine run_inBlock ?_ | (apply v_add; exact rfl; exact rfl; exact rfl; exact (by omega))))
        exact v_again ih (i + 1) (mp [(5, 35)]) trivial (by repeat (first | exact trivial | refine ⟨rfl, ?_⟩)) ⟨by rw [hst]; rfl, trivial⟩ rfl (by omega) (by omega)
      · have hmd : y.mode ≠ 2 := by simpa using hc
        rw [hic, decide_eq_true hk, decide_eq_false hmd] at hst
        (repeat (first | (apply v_move; exact rfl; exact rfl) | refine run_region ?_ | refine runL_nil ?_ | refine run_skip ?_ | refine run_inBlock ?_ | (apply v_add; exact rfl; exact rfl; exact rfl; exact (by omega))))
        exact v_again ih (i + 1) idN trivial (by repeat (first | exact trivial | refine ⟨rfl, ?_⟩)) ⟨by rw [hst]; simp; rfl, trivial⟩ rfl (by omega) (by omega)
    · rw [hic, decide_eq_false hk] at hst
      refine v_is 27 false rfl (by simpa using hk) ?_
      (repeat (first | (apply v_move; exact rfl; exact rfl) | refine run_region ?_ | refine runL_nil ?_ | refine run_skip ?_ | refine run_inBlock ?_ | (apply v_off; exact rfl; exact rfl) | (apply v_pick_f; exact rfl; exact rfl; exact rfl) | (apply run_cond; exact rfl; (focus (intro hb; cases hb; done)); intro hb; clear hb) | (apply v_add; exact rfl; exact rfl; exact rfl; exact (by omega))))
      exact v_again ih (i + 1) idN trivial (by repeat (first | exact trivial | refine ⟨rfl, ?_⟩)) ⟨by rw [hst]; simp; rfl, trivial⟩ rfl (by omega) (by omega)
  · have hge : i = u.length := by have : ¬ i < u.length := (by simpa using hb); omega
    (repeat (first | (apply v_move; exact rfl; exact rfl) | (apply v_assign; exact rfl; exact rfl) | refine run_seq ?_ | refine run_region ?_ | refine runL_nil ?_ | (apply run_exit; exact rfl)))
    exact run_ret (mp [(0, 5)]) _ Try.func95 ⟨_, _, rfl, rfl, rfl⟩ rfl trivial ⟨by rw [hge, List.take_length]; rfl, trivial⟩ rfl
theorem closed_p {l : List Nd} (h : WF l) (id : Int) : Fun Try.prog 95 [forA l, .v (.int .i64 id)] [] (.sem (listS intE (closedM l id))) [] := (closed_f h id).freeze
theorem both_f {l : List Nd} (h : WF l) (a b : Int) : Fun Try.prog 74 [forA l, .v (.int .i64 a), .v (.int .i64 b)] [] (.tup [.v (.int .i64 (aimM l a b)), .v (.int .i64 (aimM l b a))]) [] := by
  refine fun_intro 16 Try.func74 rfl rfl rfl (fun ι F S w => ?_)
  (repeat (first | (apply v_cx; exact rfl; exact cbA rfl; (first | exact aim_f h a b | exact aim_f h b a); exact rfl; exact rfl) | (apply v_move; exact rfl; exact rfl) | (apply v_assign; exact rfl; exact rfl) | refine run_seq ?_ | refine run_region ?_ | refine runL_nil ?_))
  exact run_ret idN _ Try.func74 ⟨_, _, rfl, rfl, _, _, rfl, rfl, rfl⟩ rfl trivial trivial rfl
noncomputable def attachM (l : List Nd) (host mode : Int) : List Nd × Int × Int :=
  match nodeAt l host with
  | none => (l, 0, 1)
  | some h =>
    if mode ≠ 1 ∧ mode ≠ 2 then (l, 0, 1)
    else if h.kind ≠ 2 ∨ h.shadow ≠ 0 then (l, 0, 5)
    else if (makeM l { nd0 with kind := 3, mode := mode }).2.2 ≠ 0 then (l, 0, (makeM l { nd0 with kind := 3, mode := mode }).2.2)
    else ((tieM (makeM l { nd0 with kind := 3, mode := mode }).1 host (makeM l { nd0 with kind := 3, mode := mode }).2.1).1, (makeM l { nd0 with kind := 3, mode := mode }).2.1, (tieM (makeM l { nd0 with kind := 3, mode := mode }).1 host (makeM l { nd0 with kind := 3, mode := mode }).2.1).2)
theorem make_same {l : List Nd} {n : Nd} (h : (makeM l n).2.2 ≠ 0) : (makeM l n).1 = l := by
  unfold makeM at *
  split
  · rfl
  · split
    · rfl
    · rename_i h1 h2
      rw [if_neg h1, if_neg h2] at h
      exact absurd rfl h
theorem attach_f {l : List Nd} (h : WF l) (host mode : Int) : Fun Try.prog 93 [.ptr 0 0, .v (.int .i64 host), .v (.int .i64 mode)] (forR 1 l) (.tup [.v (.int .i64 (attachM l host mode).2.1), .v (.int .i64 (attachM l host mode).2.2)]) (forR 2 (attachM l host mode).1) := by
  cases hx : nodeAt l host with
  | none =>
    rw [show attachM l host mode = (l, 0, 1) by simp [attachM, hx]]
    refine fun_intro 53 Try.func93 rfl rfl rfl (fun ι F S w => ?_)
    (repeat (first | (apply v_cSx; exact rfl; exact cbA rfl; (first | exact nodel_n h hx); (repeat (first | exact trivial | refine ⟨rfl, ?_⟩)); exact rfl; exact rfl; exact rfl; exact rfl; exact rfl) | (apply v_move; exact rfl; exact rfl) | (apply v_assign; exact rfl; exact rfl) | refine run_seq ?_ | refine run_region ?_ | refine runL_nil ?_ | refine run_block ?_ | (apply v_extract; exact rfl; exact rfl; exact rfl) | (apply v_off; exact rfl; exact rfl) | (apply v_pick_t; exact rfl; exact rfl; exact rfl) | (apply run_cond; exact rfl; rotate_left; (focus (intro hb; cases hb; done)); intro hb; clear hb) | (apply v_not; exact rfl; exact rfl) | (apply v_allocD; exact tyA rfl; exact rfl; exact rfl; exact rfl; exact rfl) | (apply v_storeW; exact tyA rfl; exact rfl; exact rfl; exact rfl; exact rfl; exact rfl; exact rfl; exact rfl)))
    exact run_ret (mp [(2, 1)]) _ Try.func93 ⟨_, _, rfl, rfl, _, _, rfl, rfl, rfl⟩ rfl ⟨rfl, rfl, trivial⟩ ⟨rfl, rfl, trivial⟩ rfl
  | some x =>
    by_cases hmo : mode ≠ 1 ∧ mode ≠ 2
    · rw [show attachM l host mode = (l, 0, 1) by simp [attachM, hx, hmo]]
      refine fun_intro 53 Try.func93 rfl rfl rfl (fun ι F S w => ?_)
      (repeat (first | (apply v_cSx; exact rfl; exact cbA rfl; (first | exact nodel_s h hx); (repeat (first | exact trivial | refine ⟨rfl, ?_⟩)); exact rfl; exact rfl; exact rfl; exact rfl; exact rfl) | (apply v_move; exact rfl; exact rfl) | (apply v_assign; exact rfl; exact rfl) | refine run_seq ?_ | refine run_region ?_ | refine runL_nil ?_ | refine run_block ?_ | (apply v_extract; exact rfl; exact rfl; exact rfl) | (apply v_on; exact rfl) | (apply v_not; exact rfl; exact rfl) | (apply v_neq; exact rfl; exact rfl; exact rfl) | (apply v_allocD; exact tyA rfl; exact rfl; exact rfl; exact rfl; exact rfl) | (apply v_storeW; exact tyA rfl; exact rfl; exact rfl; exact rfl; exact rfl; exact rfl; exact rfl; exact rfl)))
      refine v_is 24 true rfl (by simpa using hmo.1) ?_
      (repeat (first | (apply v_move; exact rfl; exact rfl) | (apply v_assign; exact rfl; exact rfl) | refine runL_nil ?_ | (apply v_on; exact rfl) | (apply v_pick_t; exact rfl; exact rfl; exact rfl) | (apply v_pick_f; exact rfl; exact rfl; exact rfl) | (apply v_neq; exact rfl; exact rfl; exact rfl)))
      refine run_condY rfl (by simpa using hmo.2) ?_
      (repeat (first | (apply v_assign; exact rfl; exact rfl) | refine run_seq ?_ | refine run_region ?_ | refine runL_nil ?_))
      exact run_ret (mp [(2, 1)]) _ Try.func93 ⟨_, _, rfl, rfl, _, _, rfl, rfl, rfl⟩ rfl ⟨rfl, rfl, trivial⟩ ⟨rfl, rfl, trivial⟩ rfl
    · by_cases hk : x.kind ≠ 2 ∨ x.shadow ≠ 0
      · rw [show attachM l host mode = (l, 0, 5) by simp only [attachM, hx]; rw [if_neg hmo, if_pos hk]]
        rcases (show mode = 1 ∨ mode = 2 by omega) with rfl | rfl
        all_goals
          refine fun_intro 53 Try.func93 rfl rfl rfl (fun ι F S w => ?_)
          (repeat (first | (apply v_cSx; exact rfl; exact cbA rfl; (first | exact nodel_s h hx); (repeat (first | exact trivial | refine ⟨rfl, ?_⟩)); exact rfl; exact rfl; exact rfl; exact rfl; exact rfl) | (apply v_move; exact rfl; exact rfl) | (apply v_assign; exact rfl; exact rfl) | refine run_seq ?_ | refine run_region ?_ | refine runL_nil ?_ | refine run_block ?_ | (apply v_extract; exact rfl; exact rfl; exact rfl) | (apply v_fldP; exact flA rfl; exact rfl; exact rfl; exact rfl) | (apply v_loadB; exact tyA rfl; exact rfl; exact rfl; exact rfl; exact rfl; exact rfl; exact rfl) | (apply v_on; exact rfl) | (apply v_off; exact rfl; exact rfl) | (apply v_pick_t; exact rfl; exact rfl; exact rfl) | (apply v_pick_f; exact rfl; exact rfl; exact rfl) | (apply run_cond; exact rfl; (focus (intro hb; cases hb; done)); intro hb; clear hb) | (apply v_not; exact rfl; exact rfl) | (apply v_neq; exact rfl; exact rfl; exact rfl) | (apply v_allocD; exact tyA rfl; exact rfl; exact rfl; exact rfl; exact rfl) | (apply v_storeW; exact tyA rfl; exact rfl; exact rfl; exact rfl; exact rfl; exact rfl; exact rfl; exact rfl)))
          by_cases hk1 : x.kind = 2
          · have hs : x.shadow ≠ 0 := hk.resolve_left fun e => e hk1
            refine v_is 33 false rfl (by simpa using hk1) ?_
            (repeat (first | (apply v_assign; exact rfl; exact rfl) | refine runL_nil ?_ | (apply v_fldP; exact flA rfl; exact rfl; exact rfl; exact rfl) | (apply v_loadB; exact tyA rfl; exact rfl; exact rfl; exact rfl; exact rfl; exact rfl; exact rfl) | (apply v_on; exact rfl) | (apply v_pick_f; exact rfl; exact rfl; exact rfl) | (apply v_neq; exact rfl; exact rfl; exact rfl)))
            refine run_condY rfl (by simpa using hs) ?_
            (repeat (first | (apply v_assign; exact rfl; exact rfl) | refine run_seq ?_ | refine run_region ?_ | refine runL_nil ?_))
            exact run_ret (mp [(2, 1)]) _ Try.func93 ⟨_, _, rfl, rfl, _, _, rfl, rfl, rfl⟩ rfl ⟨rfl, rfl, trivial⟩ ⟨rfl, rfl, trivial⟩ rfl
          · refine v_is 33 true rfl (by simpa using hk1) ?_
            (repeat (first | (apply v_assign; exact rfl; exact rfl) | refine run_seq ?_ | refine run_region ?_ | refine runL_nil ?_ | (apply v_off; exact rfl; exact rfl) | (apply v_pick_t; exact rfl; exact rfl; exact rfl) | (apply run_cond; exact rfl; rotate_left; (focus (intro hb; cases hb; done)); intro hb; clear hb)))
            exact run_ret (mp [(2, 1)]) _ Try.func93 ⟨_, _, rfl, rfl, _, _, rfl, rfl, rfl⟩ rfl ⟨rfl, rfl, trivial⟩ ⟨rfl, rfl, trivial⟩ rfl
      · have hk1 : x.kind = 2 := by
          rcases Decidable.em (x.kind = 2) with e | e
          · exact e
          · exact absurd (.inl e) hk
        have hs : x.shadow = 0 := by
          rcases Decidable.em (x.shadow = 0) with e | e
          · exact e
          · exact absurd (.inr e) hk
        have hat : attachM l host mode = if (makeM l { nd0 with kind := 3, mode := mode }).2.2 ≠ 0 then (l, 0, (makeM l { nd0 with kind := 3, mode := mode }).2.2)
          else ((tieM (makeM l { nd0 with kind := 3, mode := mode }).1 host (makeM l { nd0 with kind := 3, mode := mode }).2.1).1, (makeM l { nd0 with kind := 3, mode := mode }).2.1, (tieM (makeM l { nd0 with kind := 3, mode := mode }).1 host (makeM l { nd0 with kind := 3, mode := mode }).2.1).2) := by
          simp only [attachM, hx]
          rw [if_neg hmo, if_neg hk]
        have hmk := make_f (l := l) (x := { nd0 with kind := 3, mode := mode }) (by show nd0.name.size ≤ _; decide) (by show nd0.want.size ≤ _; decide) h.len
        have hsame := make_same (l := l) (n := { nd0 with kind := 3, mode := mode })
        have hw2 := wf_make h (n := { nd0 with kind := 3, mode := mode }) (by show nd0.name.size ≤ _; decide) (by show nd0.want.size ≤ _; decide)
        generalize hT : attachM l host mode = T at *
        generalize makeM l { nd0 with kind := 3, mode := mode } = M at *
        have hM := hw2.len
        have ht := tie_f hw2.ups host M.2.1 (by omega)
        rcases (show mode = 1 ∨ mode = 2 by omega) with rfl | rfl
        all_goals
          refine fun_intro 53 Try.func93 rfl rfl rfl (fun ι F S w => ?_)
          (repeat (first | (apply v_cSx; exact rfl; exact cbA rfl; (first | exact nodel_s h hx); (repeat (first | exact trivial | refine ⟨rfl, ?_⟩)); exact rfl; exact rfl; exact rfl; exact rfl; exact rfl) | (apply v_move; exact rfl; exact rfl) | (apply v_assign; exact rfl; exact rfl) | refine run_seq ?_ | refine run_region ?_ | refine runL_nil ?_ | refine run_block ?_ | (apply v_extract; exact rfl; exact rfl; exact rfl) | (apply v_fldP; exact flA rfl; exact rfl; exact rfl; exact rfl) | (apply v_loadB; exact tyA rfl; exact rfl; exact rfl; exact rfl; exact rfl; exact rfl; exact rfl) | (apply v_on; exact rfl) | (apply v_off; exact rfl; exact rfl) | (apply v_pick_t; exact rfl; exact rfl; exact rfl) | (apply v_pick_f; exact rfl; exact rfl; exact rfl) | (apply run_cond; exact rfl; (focus (intro hb; cases hb; done)); intro hb; clear hb) | (apply v_not; exact rfl; exact rfl) | (apply v_neq; exact rfl; exact rfl; exact rfl) | (apply v_allocD; exact tyA rfl; exact rfl; exact rfl; exact rfl; exact rfl) | (apply v_storeW; exact tyA rfl; exact rfl; exact rfl; exact rfl; exact rfl; exact rfl; exact rfl; exact rfl)))
          refine v_is 33 false rfl (by simpa using hk1) ?_
          (repeat (first | (apply v_assign; exact rfl; exact rfl) | refine runL_nil ?_ | (apply v_fldP; exact flA rfl; exact rfl; exact rfl; exact rfl) | (apply v_loadB; exact tyA rfl; exact rfl; exact rfl; exact rfl; exact rfl; exact rfl; exact rfl) | (apply v_on; exact rfl) | (apply v_pick_f; exact rfl; exact rfl; exact rfl) | (apply v_neq; exact rfl; exact rfl; exact rfl)))
          refine run_condN rfl (by simpa using hs) ?_
          (repeat (first | (apply v_move; exact rfl; exact rfl) | refine run_seq ?_ | refine run_region ?_ | refine run_skip ?_ | refine run_inBlock ?_ | (apply v_b; exact plA rfl; exact tyA rfl; exact rfl; exact rfl; exact rfl)))
          refine runL_le 41 rfl (y := .agg (nodeL { nd0 with kind := 3, mode := _ })) (Le.agg (by repeat (first | exact trivial | refine ⟨Le.refl, ?_⟩ | refine ⟨Le.nil, ?_⟩))) ?_
          refine v_cR (mp [(2, 101)]) hmk rfl (cbA rfl) ⟨rfl, rfl, trivial⟩ (by kernel_rfl) (by kernel_rfl) (by kernel_rfl) (by kernel_rfl) (by kernel_rfl) (by kernel_rfl) (by kernel_rfl) (by kernel_rfl) rfl ?_
          (repeat (first | (apply v_move; exact rfl; exact rfl) | (apply v_assign; exact rfl; exact rfl) | refine run_seq ?_ | refine run_region ?_ | refine runL_nil ?_ | (apply v_extract; exact rfl; exact rfl; exact rfl) | (apply v_neq; exact rfl; exact rfl; exact rfl)))
          refine run_cond rfl (fun hc => ?_) (fun hc => ?_)
          · have hc : M.2.2 ≠ 0 := by simpa using hc
            rw [if_pos hc] at hat
            subst hat
            (repeat (first | (apply v_move; exact rfl; exact rfl) | (apply v_assign; exact rfl; exact rfl) | refine run_seq ?_ | refine run_region ?_ | refine runL_nil ?_))
            exact run_ret (mp [(2, 101)]) _ Try.func93 ⟨_, _, rfl, rfl, _, _, rfl, rfl, rfl⟩ rfl ⟨rfl, rfl, trivial⟩ ⟨rfl, by rw [hsame hc]; rfl, trivial⟩ rfl
          · have hc : ¬ M.2.2 ≠ 0 := by simpa using hc
            rw [if_neg hc] at hat
            subst hat
            (repeat (first | (apply v_move; exact rfl; exact rfl) | refine run_seq ?_ | refine run_region ?_ | refine run_skip ?_))
            refine v_cR (mp [(1, 101), (2, 102)]) ht rfl (cbA rfl) ⟨rfl, rfl, trivial⟩ (by kernel_rfl) (by kernel_rfl) (by kernel_rfl) (by kernel_rfl) (by kernel_rfl) (by kernel_rfl) (by kernel_rfl) (by kernel_rfl) rfl ?_
            (repeat (first | (apply v_assign; exact rfl; exact rfl) | refine runL_nil ?_))
            exact run_ret (mp [(2, 102)]) _ Try.func93 ⟨_, _, rfl, rfl, _, _, rfl, rfl, rfl⟩ rfl ⟨rfl, rfl, trivial⟩ ⟨rfl, rfl, trivial⟩ rfl
end Go.Proofs.Ytjkidecaciomgaa
