/- ref19: Name, Numbers, Worded, Right. -/
import Derived.Test.YtpmeffdcbjakoaaDoorOp4
namespace Go.Proofs.YtpmeffdcbjakoaaDoor
set_option linter.unusedVariables false
set_option linter.unusedSimpArgs false
set_option maxRecDepth 100000
open Go.RowKit

def strE : Enc ByteArray where
  sz := 1
  f := fun s => [.v (.string s)]
  len := fun _ => rfl
  leaf := fun _ => rfl
def namesL : List ByteArray := [⟨#[109, 97, 107, 101]⟩, ⟨#[119, 97, 110, 116]⟩, ⟨#[110, 97, 109, 101]⟩, ⟨#[97, 112, 112, 101, 110, 100]⟩, ⟨#[98, 101, 102, 111, 114, 101]⟩, ⟨#[114, 101, 109, 111, 118, 101]⟩, ⟨#[97, 116, 116, 97, 99, 104]⟩, ⟨#[115, 105, 103, 110, 97, 108]⟩, ⟨#[97, 98, 111, 114, 116]⟩, ⟨#[108, 105, 115, 116, 101, 110]⟩, ⟨#[117, 110, 108, 105, 115, 116, 101, 110]⟩, ⟨#[101, 118, 101, 110, 116]⟩, ⟨#[115, 101, 110, 100]⟩, ⟨#[112, 114, 101, 118, 101, 110, 116]⟩, ⟨#[115, 116, 111, 112]⟩, ⟨#[115, 116, 111, 112, 110, 111, 119]⟩, ⟨#[99, 108, 101, 97, 114]⟩]
theorem names_ne : ∀ i (h : i < namesL.length), namesL[i] ≠ ⟨#[]⟩ := by
  have : namesL.all (fun s => decide (s ≠ ⟨#[]⟩)) = true := by decide
  intro i h
  simpa using List.all_eq_true.1 this _ (List.getElem_mem h)
theorem name_in {c : Int} (h1 : 1 ≤ c) (h2 : c < 18) : ∃ s, s ≠ ⟨#[]⟩ ∧ Fun Tryd.prog 21 [.v (.int .i64 c)] [] (.v (.string s)) [] := by
  have hl : (c - 1).toNat < namesL.length := by show _ < 17; omega
  refine ⟨namesL[(c - 1).toNat], names_ne _ hl, ?_⟩
  have hx : namesL[(c - 1).toNat]? = some namesL[(c - 1).toNat] := List.getElem?_eq_getElem hl
  generalize namesL[(c - 1).toNat] = s at *
  refine fun_intro 14 Tryd.func21 rfl rfl rfl (fun ι F S w => ?_)
  (repeat (first | (apply v_move; exact rfl; exact rfl) | (apply v_assign; exact rfl; exact rfl) | refine run_seq ?_ | refine run_region ?_ | refine runL_nil ?_ | (apply v_lss; exact rfl; exact rfl; exact rfl)))
  refine v_is 5 false rfl (by simpa using h1) ?_
  (repeat (first | (apply v_move; exact rfl; exact rfl) | refine runL_nil ?_ | (apply v_on; exact rfl) | (apply v_pick_f; exact rfl; exact rfl; exact rfl) | (apply v_gtr; exact rfl; exact rfl; exact rfl)))
  refine run_condN rfl (by simp; omega) ?_
  (repeat (first | refine run_seq ?_ | refine run_region ?_ | refine run_skip ?_))
  refine v_l strE namesL (slA rfl) (tyA rfl) rfl rfl rfl rfl rfl rfl rfl rfl rfl rfl ?_
  (repeat (first | (apply v_idxL; exact slA rfl; exact tyA rfl; exact rfl; exact rfl; exact rfl; exact rfl; exact (by omega); (first | exact hx); exact rfl) | (apply v_move; exact rfl; exact rfl) | (apply v_assign; exact rfl; exact rfl) | refine runL_nil ?_ | (apply v_loadA; exact tyA rfl; exact rfl; exact rfl; exact rfl; exact rfl; exact rfl; exact rfl) | (apply v_sub; exact rfl; exact rfl; exact rfl; exact (by omega))))
  exact run_ret idN _ Tryd.func21 ⟨_, _, rfl, rfl, rfl⟩ rfl trivial trivial rfl
theorem name_out {c : Int} (h : ¬ (1 ≤ c ∧ c < 18)) : Fun Tryd.prog 21 [.v (.int .i64 c)] [] (.v (.string ⟨#[]⟩)) [] := by
  by_cases h1 : 1 ≤ c
  · refine fun_intro 14 Tryd.func21 rfl rfl rfl (fun ι F S w => ?_)
    (repeat (first | (apply v_move; exact rfl; exact rfl) | (apply v_assign; exact rfl; exact rfl) | refine run_seq ?_ | refine run_region ?_ | refine runL_nil ?_ | (apply v_lss; exact rfl; exact rfl; exact rfl)))
    refine v_is 5 false rfl (by simpa using h1) ?_
    (repeat (first | (apply v_move; exact rfl; exact rfl) | refine runL_nil ?_ | (apply v_on; exact rfl) | (apply v_pick_f; exact rfl; exact rfl; exact rfl) | (apply v_gtr; exact rfl; exact rfl; exact rfl)))
    refine run_condY rfl (by simp; omega) ?_
    (repeat (first | (apply v_assign; exact rfl; exact rfl) | refine run_seq ?_ | refine run_region ?_ | refine runL_nil ?_))
    exact run_ret idN _ Tryd.func21 ⟨_, _, rfl, rfl, rfl⟩ rfl trivial trivial rfl
  · refine fun_intro 14 Tryd.func21 rfl rfl rfl (fun ι F S w => ?_)
    (repeat (first | (apply v_move; exact rfl; exact rfl) | (apply v_assign; exact rfl; exact rfl) | refine run_seq ?_ | refine run_region ?_ | refine runL_nil ?_ | (apply v_lss; exact rfl; exact rfl; exact rfl)))
    refine v_is 5 true rfl (by simp; omega) ?_
    (repeat (first | (apply v_assign; exact rfl; exact rfl) | refine run_seq ?_ | refine run_region ?_ | refine runL_nil ?_ | (apply v_off; exact rfl; exact rfl) | (apply v_pick_t; exact rfl; exact rfl; exact rfl) | (apply run_cond; exact rfl; rotate_left; (focus (intro hb; cases hb; done)); intro hb; clear hb)))
    exact run_ret idN _ Tryd.func21 ⟨_, _, rfl, rfl, rfl⟩ rfl trivial trivial rfl
theorem cases17 {c : Int} (h1 : 1 ≤ c) (h2 : c < 18) : c = 1 ∨ c = 2 ∨ c = 3 ∨ c = 4 ∨ c = 5 ∨ c = 6 ∨ c = 7 ∨ c = 8 ∨ c = 9 ∨ c = 10 ∨ c = 11 ∨ c = 12 ∨ c = 13 ∨ c = 14 ∨ c = 15 ∨ c = 16 ∨ c = 17 := by omega
theorem num19_f {c : Int} (h1 : 1 ≤ c) (h2 : c < 18) : Fun Tryd.prog 22 [.v (.int .i64 c)] [] (.v (.int .i64 (numM c))) [] := by
  rcases cases17 h1 h2 with rfl | rfl | rfl | rfl | rfl | rfl | rfl | rfl | rfl | rfl | rfl | rfl | rfl | rfl | rfl | rfl | rfl
  all_goals
    refine fun_intro 25 Tryd.func22 rfl rfl rfl (fun ι F S w => ?_)
    (repeat (first | (apply v_move; exact rfl; exact rfl) | (apply v_assign; exact rfl; exact rfl) | refine run_seq ?_ | refine run_region ?_ | refine runL_nil ?_ | refine run_skip ?_ | refine run_block ?_ | (apply run_cond; exact rfl; rotate_left; (focus (intro hb; cases hb; done)); intro hb; clear hb) | (apply run_cond; exact rfl; (focus (intro hb; cases hb; done)); intro hb; clear hb) | (apply v_eql; exact rfl; exact rfl; exact rfl)))
    exact run_ret idN _ Tryd.func22 ⟨_, _, rfl, rfl, rfl⟩ rfl trivial trivial rfl
theorem wor19_f {c : Int} (h1 : 1 ≤ c) (h2 : c < 18) : Fun Tryd.prog 23 [.v (.int .i64 c)] [] (.v (.bool (worM c))) [] := by
  rcases cases17 h1 h2 with rfl | rfl | rfl | rfl | rfl | rfl | rfl | rfl | rfl | rfl | rfl | rfl | rfl | rfl | rfl | rfl | rfl
  all_goals
    refine fun_intro 17 Tryd.func23 rfl rfl rfl (fun ι F S w => ?_)
    (repeat (first | (apply v_move; exact rfl; exact rfl) | (apply v_assign; exact rfl; exact rfl) | refine run_seq ?_ | refine run_region ?_ | refine runL_nil ?_ | (apply v_on; exact rfl) | (apply v_off; exact rfl; exact rfl) | (apply v_pick_t; exact rfl; exact rfl; exact rfl) | (apply v_pick_f; exact rfl; exact rfl; exact rfl) | (apply v_leq; exact rfl; exact rfl; exact rfl) | (apply v_geq; exact rfl; exact rfl; exact rfl)))
    exact run_ret idN _ Tryd.func23 ⟨_, _, rfl, rfl, rfl⟩ rfl trivial trivial rfl
end Go.Proofs.YtpmeffdcbjakoaaDoor
