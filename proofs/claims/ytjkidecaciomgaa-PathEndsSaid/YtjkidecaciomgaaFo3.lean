/- The forest: which nodes may be made. -/
import Derived.Test.YtjkidecaciomgaaBC
import Derived.Test.YtjkidecaciomgaaFo2
import Derived.Test.YtjkidecaciomgaaWord
namespace Go.Proofs.Ytjkidecaciomgaa
set_option linter.unusedVariables false
set_option linter.unusedSimpArgs false
set_option maxRecDepth 100000
open Go.RowKit

theorem right_w {s : ByteArray} (hs : s.size ≤ 9223372036854775807) : Fun Try.prog 180 [.v (.string s)] [] (.v (.bool (wordB s))) [] := fun_of_calls (l := [.string s]) fun w => word_right s w hs
def namedB (s : ByteArray) : Bool := decide (s = ⟨#[]⟩) || wordB s
theorem named_f {s : ByteArray} (hs : s.size ≤ 9223372036854775807) : Fun Try.prog 144 [.v (.string s)] [] (.v (.bool (namedB s))) [] := by
  refine fun_intro 9 Try.func144 rfl rfl rfl (fun ι F S w => ?_)
  (repeat' (first | (apply v_cx; exact rfl; exact cbA rfl; (first | exact right_w hs); exact rfl; exact rfl) | (apply v_move; exact rfl; exact rfl) | (apply v_assign; exact rfl; exact rfl) | refine run_seq ?_ | refine run_region ?_ | refine runL_nil ?_ | (apply v_on; exact rfl) | (apply v_off; exact rfl; exact rfl) | (apply v_pick_t; exact rfl; exact rfl; exact rfl) | (apply v_pick_f; exact rfl; exact rfl; exact rfl) | (apply v_eqlS; exact rfl; exact rfl; exact rfl) | (apply v_gsplit; exact rfl; exact rfl; exact rfl; all_goals intro hb)))
  all_goals exact run_ret idN _ Try.func144 ⟨_, _, rfl, rfl, rfl⟩ (by simp_all [AV.ren, oneA, namedB]) trivial trivial rfl
def rightM (x : Nd) : Int :=
  if x.kind < 1 ∨ x.kind > 4 then 2
  else if (x.kind = 3) ≠ (x.mode = 1 ∨ x.mode = 2) ∨ (x.kind ≠ 3 ∧ x.mode ≠ 0) then 1
  else if ((x.slot = true ∨ x.want ≠ ⟨#[]⟩) ∧ x.kind ≠ 2) ∨ (x.name ≠ ⟨#[]⟩ ∧ x.slot = false) ∨ namedB x.name = false ∨ namedB x.want = false then 1
  else 0
theorem right_f {x : Nd} (h1 : x.name.size ≤ 9223372036854775807) (h2 : x.want.size ≤ 9223372036854775807) : Fun Try.prog 140 [.agg (nodeL x)] [] (.v (.int .i64 (rightM x))) [] := by
  refine fun_intro 66 Try.func140 rfl rfl rfl (fun ι F S w => ?_)
  (repeat' (first | (apply v_assign; exact rfl; exact rfl) | refine run_seq ?_ | refine run_region ?_ | refine runL_nil ?_ | (apply v_boxD; exact rfl; exact rfl; exact rfl; exact rfl; exact rfl; exact rfl; exact rfl)))
  refine run_draws (by kernel_rfl) (by kernel_rfl) ?_
  (repeat (first | (apply p_assign; exact rfl; exact rfl; exact rfl) | (apply p_fldP; exact flA rfl; exact rfl; exact rfl; exact rfl; exact rfl) | (apply p_loadB; exact tyA rfl; exact rfl; exact rfl; exact rfl; exact rfl; exact rfl; exact rfl; exact rfl) | (apply p_eql; exact rfl; exact rfl; exact rfl; exact rfl)))
  refine planL_nil (by kernel_rfl) ?_
  (repeat' (first | (apply v_cx; exact rfl; exact cbA rfl; (first | exact named_f h1 | exact named_f h2); exact rfl; exact rfl) | (apply v_move; exact rfl; exact rfl) | (apply v_assign; exact rfl; exact rfl) | refine run_seq ?_ | refine run_region ?_ | refine runL_nil ?_ | refine run_skip ?_ | refine run_block ?_ | refine run_inBlock ?_ | (apply v_fldP; exact flA rfl; exact rfl; exact rfl; exact rfl) | (apply v_loadB; exact tyA rfl; exact rfl; exact rfl; exact rfl; exact rfl; exact rfl; exact rfl) | (apply v_on; exact rfl) | (apply v_off; exact rfl; exact rfl) | (apply v_pick_t; exact rfl; exact rfl; exact rfl) | (apply v_pick_f; exact rfl; exact rfl; exact rfl) | (apply run_cond; exact rfl; rotate_left; (focus (intro hb; cases hb; done)); intro hb; clear hb) | (apply run_cond; exact rfl; (focus (intro hb; cases hb; done)); intro hb; clear hb) | (apply v_not; exact rfl; exact rfl) | (apply v_lss; exact rfl; exact rfl; exact rfl) | (apply v_eql; exact rfl; exact rfl; exact rfl) | (apply v_neq; exact rfl; exact rfl; exact rfl) | (apply v_gtr; exact rfl; exact rfl; exact rfl) | (apply v_neqS; exact rfl; exact rfl; exact rfl) | (apply v_neqB; exact boA rfl; exact rfl; exact rfl; exact rfl) | (apply v_gsplit; exact rfl; exact rfl; exact rfl; all_goals intro hb) | (apply run_cond; exact rfl; all_goals intro hb)))
  all_goals exact run_ret idN _ Try.func140 ⟨_, _, rfl, rfl, rfl⟩ (by first | (simp_all [AV.ren, oneA, rightM]; done) | (cases h3 : (x.kind == 3) <;> cases hm : (x.mode == 2) <;> cases hn : (x.mode == 1) <;> simp_all [AV.ren, oneA, rightM] <;> omega)) trivial trivial rfl
end Go.Proofs.Ytjkidecaciomgaa
