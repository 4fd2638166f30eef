/- Law 04: ArenaNone. -/
import Derived.Test.YtjkidecaciomgaaAr1
namespace Go.Proofs.Ytjkidecaciomgaa
set_option linter.unusedVariables false
set_option linter.unusedSimpArgs false
set_option maxRecDepth 100000
open Go.RowKit

theorem nil_make (x : Nd) : Fun Try.prog 45 [.v (.pointer none), .agg (nodeL x)] [] (.tup [.v (.int .i64 0), .v (.int .i64 1)]) [] := by
  refine fun_intro 45 Try.func45 rfl rfl rfl (fun ι F S w => ?_)
  (repeat (first | (apply v_move; exact rfl; exact rfl) | (apply v_assign; exact rfl; exact rfl) | refine run_seq ?_ | refine run_region ?_ | refine runL_nil ?_ | (apply run_cond; exact rfl; rotate_left; (focus (intro hb; cases hb; done)); intro hb; clear hb) | (apply v_nilEql; exact ptA rfl; exact rfl; exact rfl) | (apply v_boxD; exact rfl; exact rfl; exact rfl; exact rfl; exact rfl; exact rfl; exact rfl)))
  exact run_ret idN _ Try.func45 ⟨_, _, rfl, rfl, _, _, rfl, rfl, rfl⟩ rfl trivial trivial rfl
theorem nil_node (id : Int) : Fun Try.prog 38 [.v (.pointer none), .v (.int .i64 id)] [] (.tup [.agg (nodeL nd0), .v (.bool false)]) [] := by
  refine fun_intro 24 Try.func38 rfl rfl rfl (fun ι F S w => ?_)
  (repeat (first | (apply v_cx; exact rfl; exact cbA rfl; (first | exact at_nil id); exact rfl; exact rfl) | (apply v_move; exact rfl; exact rfl) | (apply v_assign; exact rfl; exact rfl) | refine run_seq ?_ | refine run_region ?_ | refine runL_nil ?_ | (apply run_cond; exact rfl; rotate_left; (focus (intro hb; cases hb; done)); intro hb; clear hb) | (apply v_nilEql; exact ptA rfl; exact rfl; exact rfl) | (apply v_allocD; exact tyA rfl; exact rfl; exact rfl; exact rfl; exact rfl) | (apply v_storeW; exact tyA rfl; exact rfl; exact rfl; exact rfl; exact rfl; exact rfl; exact rfl; exact rfl) | (apply v_b; exact plA rfl; exact tyA rfl; exact rfl; exact rfl; exact rfl)))
  refine run_leB 4 rfl (l' := nodeL nd0) (by repeat (first | exact trivial | refine ⟨Le.refl, ?_⟩ | refine ⟨Le.nil, ?_⟩)) ?_
  exact run_ret idN _ Try.func38 ⟨_, _, _, _, _, _, rfl, rfl, rfl, ty33, rfl, (fun h => by cases h), rfl, ⟨_, _, rfl, rfl, rfl⟩⟩ rfl trivial trivial rfl
theorem nil_len : Fun Try.prog 37 [.v (.pointer none)] [] (.v (.int .i64 0)) [] := by
  refine fun_intro 10 Try.func37 rfl rfl rfl (fun ι F S w => ?_)
  (repeat (first | (apply v_move; exact rfl; exact rfl) | (apply v_assign; exact rfl; exact rfl) | refine run_seq ?_ | refine run_region ?_ | refine runL_nil ?_ | (apply run_cond; exact rfl; rotate_left; (focus (intro hb; cases hb; done)); intro hb; clear hb) | (apply v_nilEql; exact ptA rfl; exact rfl; exact rfl)))
  exact run_ret idN _ Try.func37 ⟨_, _, rfl, rfl, rfl⟩ rfl trivial trivial rfl
theorem nil_all : Fun Try.prog 41 [.v (.pointer none)] [] (.v (.slice none 0 0)) [] := by
  refine fun_intro 25 Try.func41 rfl rfl rfl (fun ι F S w => ?_)
  (repeat (first | (apply v_cx; exact rfl; exact cbA rfl; (first | exact nil_len); exact rfl; exact rfl) | (apply v_move; exact rfl; exact rfl) | (apply v_assign; exact rfl; exact rfl) | refine run_seq ?_ | refine run_region ?_ | refine runL_nil ?_ | refine run_block ?_))
  refine v_loop (fun _ : Nat => ⟨[(0, .v (.pointer none)), (3, .v (.slice none 0 0)), (8, .v (.int .i64 0)), (9, .v (.int .i64 0))], []⟩) (fun _ => True) (fun i => i) 0 idN trivial (by repeat (first | exact trivial | refine ⟨rfl, ?_⟩)) (by repeat (first | exact trivial | refine ⟨rfl, ?_⟩)) rfl trivial fun i _ ih => ?_
  (repeat (first | (apply v_move; exact rfl; exact rfl) | (apply v_assign; exact rfl; exact rfl) | refine run_seq ?_ | refine run_region ?_ | refine runL_nil ?_ | (apply run_exit; exact rfl) | (apply run_cond; exact rfl; (focus (intro hb; cases hb; done)); intro hb; clear hb) | (apply v_lss; exact rfl; exact rfl; exact rfl)))
  exact run_ret idN _ Try.func41 ⟨_, _, rfl, rfl, rfl⟩ rfl trivial trivial rfl
theorem nil_put (id : Int) : Fun Try.prog 46 [.v (.pointer none), .v (.int .i64 id), .v (.slice none 0 0)] [] (.v (.int .i64 1)) [] := by
  refine fun_intro 113 Try.func46 rfl rfl rfl (fun ι F S w => ?_)
  (repeat (first | (apply v_cx; exact rfl; exact cbA rfl; (first | exact at_nil id); exact rfl; exact rfl) | (apply v_move; exact rfl; exact rfl) | (apply v_assign; exact rfl; exact rfl) | refine run_seq ?_ | refine run_region ?_ | refine runL_nil ?_ | (apply run_cond; exact rfl; rotate_left; (focus (intro hb; cases hb; done)); intro hb; clear hb) | (apply v_nilEql; exact ptA rfl; exact rfl; exact rfl)))
  exact run_ret idN _ Try.func46 ⟨_, _, rfl, rfl, rfl⟩ rfl trivial trivial rfl
theorem nil_tie (id r : Int) : Fun Try.prog 47 [.v (.pointer none), .v (.int .i64 id), .v (.int .i64 r)] [] (.v (.int .i64 1)) [] := by
  refine fun_intro 61 Try.func47 rfl rfl rfl (fun ι F S w => ?_)
  (repeat (first | (apply v_cx; exact rfl; exact cbA rfl; (first | exact at_nil id | exact at_nil r); exact rfl; exact rfl) | (apply v_move; exact rfl; exact rfl) | (apply v_assign; exact rfl; exact rfl) | refine run_seq ?_ | refine run_region ?_ | refine runL_nil ?_ | refine run_block ?_ | (apply v_off; exact rfl; exact rfl) | (apply v_pick_t; exact rfl; exact rfl; exact rfl) | (apply run_cond; exact rfl; rotate_left; (focus (intro hb; cases hb; done)); intro hb; clear hb) | (apply v_nilEql; exact ptA rfl; exact rfl; exact rfl)))
  exact run_ret idN _ Try.func47 ⟨_, _, rfl, rfl, rfl⟩ rfl trivial trivial rfl
theorem nil_name (id : Int) (s : ByteArray) : Fun Try.prog 48 [.v (.pointer none), .v (.int .i64 id), .v (.string s)] [] (.v (.int .i64 1)) [] := by
  refine fun_intro 29 Try.func48 rfl rfl rfl (fun ι F S w => ?_)
  (repeat (first | (apply v_cx; exact rfl; exact cbA rfl; (first | exact at_nil id); exact rfl; exact rfl) | (apply v_move; exact rfl; exact rfl) | (apply v_assign; exact rfl; exact rfl) | refine run_seq ?_ | refine run_region ?_ | refine runL_nil ?_ | refine run_block ?_ | (apply v_off; exact rfl; exact rfl) | (apply v_pick_t; exact rfl; exact rfl; exact rfl) | (apply run_cond; exact rfl; rotate_left; (focus (intro hb; cases hb; done)); intro hb; clear hb) | (apply v_nilEql; exact ptA rfl; exact rfl; exact rfl)))
  exact run_ret idN _ Try.func48 ⟨_, _, rfl, rfl, rfl⟩ rfl trivial trivial rfl
theorem nil_want (id : Int) (s : ByteArray) : Fun Try.prog 49 [.v (.pointer none), .v (.int .i64 id), .v (.string s)] [] (.v (.int .i64 1)) [] := by
  refine fun_intro 29 Try.func49 rfl rfl rfl (fun ι F S w => ?_)
  (repeat (first | (apply v_cx; exact rfl; exact cbA rfl; (first | exact at_nil id); exact rfl; exact rfl) | (apply v_move; exact rfl; exact rfl) | (apply v_assign; exact rfl; exact rfl) | refine run_seq ?_ | refine run_region ?_ | refine runL_nil ?_ | refine run_block ?_ | (apply v_off; exact rfl; exact rfl) | (apply v_pick_t; exact rfl; exact rfl; exact rfl) | (apply run_cond; exact rfl; rotate_left; (focus (intro hb; cases hb; done)); intro hb; clear hb) | (apply v_nilEql; exact ptA rfl; exact rfl; exact rfl)))
  exact run_ret idN _ Try.func49 ⟨_, _, rfl, rfl, rfl⟩ rfl trivial trivial rfl
theorem mk04z : makeM [] (ndK 1) = ([ndK 1], 1, 0) := by kernel_rfl
theorem arenaNone_f (id : Int) (s : ByteArray) : Fun Try.prog 5 [.v (.int .i64 id), .v (.string s)] [] (.v (.bool true)) [] := by
  have ho := one_r (x := nd0) (y := nd0) (by decide)
  rw [decide_eq_true rfl] at ho
  have hm := make_f (l := []) (x := ndK 1) (by decide) (by decide) (by decide)
  rw [mk04z] at hm
  refine fun_intro 98 Try.func5 rfl rfl rfl (fun ι F S w => ?_)
  (repeat (first | (apply v_cx; exact rfl; exact cbA rfl; (first | exact awake04); exact rfl; exact rfl) | (apply v_move; exact rfl; exact rfl) | (apply v_assign; exact rfl; exact rfl) | refine run_seq ?_ | refine run_region ?_ | refine runL_nil ?_ | refine run_skip ?_ | (apply run_cond; exact rfl; (focus (intro hb; cases hb; done)); intro hb; clear hb) | (apply v_not; exact rfl; exact rfl) | (apply v_b; exact plA rfl; exact tyA rfl; exact rfl; exact rfl; exact rfl)))
  refine runL_le 17 rfl (y := .agg (nodeL (ndE))) (Le.agg (by repeat (first | exact trivial | refine ⟨Le.refl, ?_⟩ | refine ⟨Le.nil, ?_⟩))) ?_
  (repeat (first | (apply v_cx; exact rfl; exact cbA rfl; (first | exact nil_make ndE | exact nil_node id); exact rfl; exact rfl) | (apply v_move; exact rfl; exact rfl) | (apply v_assign; exact rfl; exact rfl) | refine run_seq ?_ | refine run_region ?_ | refine runL_nil ?_ | (apply v_extract; exact rfl; exact rfl; exact rfl) | (apply v_loadB; exact tyA rfl; exact rfl; exact rfl; exact rfl; exact rfl; exact rfl; exact rfl) | (apply v_on; exact rfl) | (apply v_pick_f; exact rfl; exact rfl; exact rfl) | (apply v_neq; exact rfl; exact rfl; exact rfl) | (apply v_allocD; exact tyA rfl; exact rfl; exact rfl; exact rfl; exact rfl) | (apply v_storeW; exact tyA rfl; exact rfl; exact rfl; exact rfl; exact rfl; exact rfl; exact rfl; exact rfl) | (apply v_b; exact plA rfl; exact tyA rfl; exact rfl; exact rfl; exact rfl)))
  refine runL_le 38 rfl (y := .agg (nodeL (nd0))) (Le.agg (by repeat (first | exact trivial | refine ⟨Le.refl, ?_⟩ | refine ⟨Le.nil, ?_⟩))) ?_
  (repeat (first | (apply v_cx; exact rfl; exact cbA rfl; (first | exact ho | exact nil_len | exact nil_all | exact nil_put id | exact nil_tie id 1 | exact nil_name id s | exact nil_want id s); exact rfl; exact rfl) | (apply v_move; exact rfl; exact rfl) | (apply v_assign; exact rfl; exact rfl) | refine run_seq ?_ | refine run_region ?_ | refine runL_nil ?_ | refine run_skip ?_ | (apply v_on; exact rfl) | (apply v_pick_f; exact rfl; exact rfl; exact rfl) | (apply run_cond; exact rfl; (focus (intro hb; cases hb; done)); intro hb; clear hb) | (apply v_not; exact rfl; exact rfl) | (apply v_neq; exact rfl; exact rfl; exact rfl) | (apply v_lenN; exact slA rfl; exact rfl; exact rfl) | (apply v_boxD; exact rfl; exact rfl; exact rfl; exact rfl; exact rfl; exact rfl; exact rfl) | (apply v_b; exact plA rfl; exact tyA rfl; exact rfl; exact rfl; exact rfl)))
  refine runL_ownB 80 0 50 33 nodeE rfl rfl rfl rfl rfl rfl rfl ?_
  skip
  refine runL_le 83 rfl (y := .agg (nodeL (ndK 1))) (Le.agg (by repeat (first | exact trivial | refine ⟨Le.refl, ?_⟩ | refine ⟨Le.nil, ?_⟩))) ?_
  refine v_cR (mp [(0, 80), (1, 50), (2, 102)]) hm rfl (cbA rfl) ⟨rfl, rfl, trivial⟩ (by kernel_rfl) (by kernel_rfl) (by kernel_rfl) (by kernel_rfl) (by kernel_rfl) (by kernel_rfl) (by kernel_rfl) (by kernel_rfl) rfl ?_
  (repeat (first | (apply v_move; exact rfl; exact rfl) | (apply v_assign; exact rfl; exact rfl) | refine run_seq ?_ | refine run_region ?_ | refine runL_nil ?_ | (apply v_extract; exact rfl; exact rfl; exact rfl) | (apply v_on; exact rfl) | (apply v_pick_t; exact rfl; exact rfl; exact rfl) | (apply v_eql; exact rfl; exact rfl; exact rfl)))
  refine runL_freezeIn 80 102 rfl rfl rfl ?_
  refine runL_pub 94 80 rfl rfl rfl ?_
  (repeat (first | (apply v_cx; exact rfl; exact cbA rfl; (first | exact len_f); exact rfl; exact rfl) | (apply v_assign; exact rfl; exact rfl) | refine runL_nil ?_ | (apply v_on; exact rfl) | (apply v_pick_t; exact rfl; exact rfl; exact rfl) | (apply v_eql; exact rfl; exact rfl; exact rfl)))
  exact run_ret idN _ Try.func5 ⟨_, _, rfl, rfl, rfl⟩ rfl trivial trivial rfl
theorem arenaNone_walk (id : Int) (s : ByteArray) (W : World) (w1 : (Lit.int .i64 id).wf = true) (w2 : s.size ≤ 140737488351232) : Calls Try.prog 5 #[.int .i64 id, .string s] W fun e w' => e = .returned (.bool true) ∧ Below W.heap.size W w' :=
  (arenaNone_f id s).calls (AVRs_v [.int .i64 id, .string s])
end Go.Proofs.Ytjkidecaciomgaa
