/- The forest: Node, All; kin. -/
import Derived.Test.YtjkidecaciomgaaFo1
namespace Go.Proofs.Ytjkidecaciomgaa
set_option linter.unusedVariables false
set_option linter.unusedSimpArgs false
set_option maxRecDepth 100000
open Go.RowKit

def nodeR (l : List Nd) (id : Int) : Nd := (nodeAt l id).getD nd0
theorem node_f {l : List Nd} (id : Int) (hm : l.length ≤ 1000000) (hk : ∀ x ∈ l, x.kids.length ≤ 1000000) : Fun Try.prog 38 [forA l, .v (.int .i64 id)] [] (.tup [.agg (nodeL (nodeR l id)), .v (.bool (nodeAt l id).isSome)]) [] := by
  cases h : nodeAt l id with
  | none =>
    have hr : nodeR l id = nd0 := by simp [nodeR, h]
    rw [hr]
    refine fun_intro 24 Try.func38 rfl rfl rfl (fun ι F S w => ?_)
    (repeat (first | (apply v_c (at_none h hm); exact rfl; exact cbA rfl; exact rfl; exact rfl) | (apply v_move; exact rfl; exact rfl) | (apply v_assign; exact rfl; exact rfl) | refine run_seq ?_ | refine run_region ?_ | refine runL_nil ?_ | (apply run_cond; exact rfl; rotate_left; (focus (intro hb; cases hb; done)); intro hb; clear hb) | (apply v_nilEql; exact ptA rfl; exact rfl; exact rfl) | (apply v_allocD; exact tyA rfl; exact rfl; exact rfl; exact rfl; exact rfl) | (apply v_storeB; exact tyA rfl; exact rfl; exact rfl; exact rfl; exact rfl; exact rfl; exact rfl; exact rfl) | (apply v_b; exact plA rfl; exact tyA rfl; exact rfl; exact rfl; exact rfl)))
    refine run_leB 4 rfl (l' := nodeL nd0) (by repeat (first | exact trivial | refine ⟨Le.refl, ?_⟩ | refine ⟨Le.nil, ?_⟩)) ?_
    exact run_ret idN _ Try.func38 ⟨_, _, _, _, _, _, rfl, rfl, rfl, ty33, rfl, (fun h => by cases h), rfl, ⟨_, _, rfl, rfl, rfl⟩⟩ rfl trivial trivial rfl
  | some x =>
    have hr : nodeR l id = x := by simp [nodeR, h]
    rw [hr]
    obtain ⟨_, _, hx⟩ := nodeAt_some h
    have hkx : x.kids.length ≤ 1000000 := hk x (List.mem_of_getElem? hx)
    refine fun_intro 24 Try.func38 rfl rfl rfl (fun ι F S w => ?_)
    (repeat (first | (apply v_c (at_some h hm); exact rfl; exact cbA rfl; exact rfl; exact rfl) | (apply v_c (clone_i hkx); exact rfl; exact cbA rfl; exact rfl; exact rfl) | (apply v_move; exact rfl; exact rfl) | (apply v_assign; exact rfl; exact rfl) | refine run_seq ?_ | refine run_region ?_ | refine runL_nil ?_ | refine run_skip ?_ | (apply v_fldP; exact flA rfl; exact rfl; exact rfl; exact rfl) | (apply v_fldA; exact flA rfl; exact rfl; exact rfl; exact rfl) | (apply v_loadB; exact tyA rfl; exact rfl; exact rfl; exact rfl; exact rfl; exact rfl; exact rfl) | (apply v_loadA; exact tyA rfl; exact rfl; exact rfl; exact rfl; exact rfl; exact rfl; exact rfl) | (apply run_cond; exact rfl; (focus (intro hb; cases hb; done)); intro hb; clear hb) | (apply v_eqlNil; exact ptA rfl; exact rfl; exact NN.adr; exact rfl) | (apply v_nilCheck; exact rfl; exact NN.adr; exact rfl) | (apply v_allocD; exact tyA rfl; exact rfl; exact rfl; exact rfl; exact rfl) | (apply v_storeB; exact tyA rfl; exact rfl; exact rfl; exact rfl; exact rfl; exact rfl; exact rfl; exact rfl)))
    exact run_ret idN _ Try.func38 ⟨_, _, _, _, _, _, rfl, rfl, rfl, ty33, rfl, (fun h => by cases h), rfl, ⟨_, _, rfl, rfl, rfl⟩⟩ rfl trivial trivial rfl

theorem take_nodeR {l : List Nd} {i : Nat} (h : i < l.length) : l.take (i + 1) = l.take i ++ [nodeR l ((i : Int) + 1)] := by
  have : nodeAt l ((i : Int) + 1) = l[i]? := by
    unfold nodeAt
    rw [if_pos (by omega), show ((i : Int) + 1 - 1).toNat = i by omega]
  rw [List.take_add_one, nodeR, this, List.getElem?_eq_getElem h]
  rfl
theorem all_f {l : List Nd} (hm : l.length ≤ 1000) (hk : ∀ x ∈ l, x.kids.length ≤ 1000000) : Fun Try.prog 41 [forA l] [] (.res 0) [(0, .obj (ownS 33 nodeE l))] := by
  have hm2 : l.length ≤ 1000000 := by omega
  refine fun_intro 25 Try.func41 rfl rfl rfl (fun ι F S w => ?_)
  (repeat (first | (apply v_c (len_f); exact rfl; exact cbA rfl; exact rfl; exact rfl) | (apply v_move; exact rfl; exact rfl) | (apply v_assign; exact rfl; exact rfl) | refine run_seq ?_ | refine run_region ?_ | refine runL_nil ?_ | refine run_block ?_))
  refine run_own 3 3 33 nodeE rfl rfl rfl rfl ?_
  refine v_loop (fun i : Nat => ⟨[(0, forA l), (8, .v (.int .i64 l.length)), (9, .v (.int .i64 i)), (3, .res 3)], [(3, .obj (ownS 33 nodeE (l.take i)))]⟩) (fun i => i ≤ l.length) (fun i => l.length - i) 0 idN trivial (by repeat (first | exact trivial | refine ⟨rfl, ?_⟩)) (by repeat (first | exact trivial | refine ⟨rfl, ?_⟩)) rfl (by omega) fun i hi ih => ?_
  (repeat (first | refine run_seq ?_ | refine run_region ?_ | refine runL_nil ?_ | (apply v_lss; exact rfl; exact rfl; exact rfl)))
  refine run_cond rfl (fun h => ?_) (fun h => ?_)
  · have hlt : i < l.length := by simpa using h
    have ht := take_nodeR hlt
    (repeat (first | (apply v_c (node_f _ hm2 hk); exact rfl; exact cbA rfl; exact rfl; exact rfl) | (apply v_move; exact rfl; exact rfl) | (apply v_assign; exact rfl; exact rfl) | refine run_seq ?_ | refine run_region ?_ | refine runL_nil ?_ | refine run_skip ?_ | refine run_block ?_ | (apply v_extract; exact rfl; exact rfl; exact rfl) | (apply v_loadB; exact tyA rfl; exact rfl; exact rfl; exact rfl; exact rfl; exact rfl; exact rfl) | (apply v_allocD; exact tyA rfl; exact rfl; exact rfl; exact rfl; exact rfl) | (apply v_storeB; exact tyA rfl; exact rfl; exact rfl; exact rfl; exact rfl; exact rfl; exact rfl; exact rfl) | (apply v_add; exact rfl; exact rfl; exact rfl; exact (by omega))))
    refine v_l nodeE [nodeR l ((i : Int) + 1)] sl27 ty33 rfl rfl rfl rfl rfl rfl rfl rfl rfl rfl ?_
    refine v_appendD sl27 ty33 rfl rfl rfl rfl rfl rfl rfl (by simp; omega) rfl rfl rfl rfl ?_
    (repeat (first | (apply v_move; exact rfl; exact rfl) | (apply v_assign; exact rfl; exact rfl) | refine run_region ?_ | refine runL_nil ?_ | refine run_inBlock ?_ | (apply v_add; exact rfl; exact rfl; exact rfl; exact (by omega))))
    exact v_again ih (i + 1) (mp [(3, 22)]) trivial (by repeat (first | exact trivial | refine ⟨rfl, ?_⟩)) ⟨by rw [ht]; rfl, trivial⟩ rfl (by omega) (by omega)
  · have hge : i = l.length := by have : ¬ i < l.length := by simpa using h
                                  omega
    (repeat (first | (apply v_move; exact rfl; exact rfl) | (apply v_assign; exact rfl; exact rfl) | refine run_seq ?_ | refine run_region ?_ | refine runL_nil ?_ | (apply run_exit; exact rfl)))
    exact run_ret (mp [(0, 3)]) _ Try.func41 ⟨_, _, rfl, rfl, rfl⟩ rfl trivial ⟨by rw [hge, List.take_length]; rfl, trivial⟩ rfl
end Go.Proofs.Ytjkidecaciomgaa
