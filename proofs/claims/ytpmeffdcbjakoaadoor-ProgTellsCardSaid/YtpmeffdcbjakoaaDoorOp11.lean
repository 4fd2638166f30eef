/- prog.Copy: the same program, by itself. -/
import Derived.Test.YtpmeffdcbjakoaaDoorOp10
import Derived.Test.YtpmeffdcbjakoaaDoorNe3
namespace Go.Proofs.YtpmeffdcbjakoaaDoor
set_option linter.unusedVariables false
set_option linter.unusedSimpArgs false
set_option maxRecDepth 100000
open Go.RowKit

theorem cloneC_f {xs : List (List OpD)} (hm : xs.length ≤ 1000000) : Fun Tryd.prog 17 [.sem (listS callE xs)] [] (.res 0) [(0, .obj (ownS 22 callE xs))] := by
  refine fun_intro 8 Tryd.func17 rfl rfl rfl (fun ι F S w => ?_)
  (repeat (first | (apply v_move; exact rfl; exact rfl) | (apply v_assign; exact rfl; exact rfl) | refine run_seq ?_ | refine run_region ?_ | refine runL_nil ?_))
  refine v_sliceNil (slA rfl) rfl rfl (by decide) fun b hb => ?_
  refine runL_nil ?_
  refine run_cond rfl (fun h => ?_) (fun h => ?_)
  · obtain rfl := hb h
    (repeat (first | (apply v_assign; exact rfl; exact rfl) | refine run_seq ?_ | refine run_region ?_ | refine runL_nil ?_))
    refine run_own 2 2 22 callE rfl rfl rfl rfl ?_
    exact run_ret (mp [(0, 2)]) _ Tryd.func17 ⟨_, _, rfl, rfl, rfl⟩ rfl trivial ⟨rfl, trivial⟩ rfl
  · (repeat (first | refine run_seq ?_ | refine run_region ?_ | refine run_skip ?_))
    refine v_litO callE [] [] [] (slA rfl) (tyA rfl) rfl rfl trivial rfl rfl rfl rfl rfl rfl rfl rfl rfl rfl rfl rfl ?_
    (repeat (first | (apply v_move; exact rfl; exact rfl)))
    refine v_appendD (slA rfl) (tyA rfl) rfl rfl rfl rfl rfl rfl rfl (by simpa using hm) rfl rfl rfl rfl ?_
    (repeat (first | (apply v_assign; exact rfl; exact rfl) | refine runL_nil ?_))
    exact run_ret (mp [(0, 7)]) _ Tryd.func17 ⟨_, _, rfl, rfl, rfl⟩ rfl trivial ⟨rfl, trivial⟩ rfl
theorem copy_f {main : List OpD} {calls : List (List OpD)} (hm : main.length ≤ 1000000) (hl : calls.length ≤ 1000000) (hcs : ∀ l ∈ calls, l.length ≤ 1000000) : Fun Tryd.prog 12 [progA main calls] [] (.agg [.res 0, .res 1]) [(0, .obj (ownS 33 opE main)), (1, .obj (nestP 22 33 opE calls []))] := by
  have h1 := cloneOp_f hm
  have h2 := cloneC_f hl
  refine fun_intro 29 Tryd.func12 rfl rfl rfl (fun ι F S w => ?_)
  (repeat (first | refine run_seq ?_ | refine run_region ?_ | refine runL_nil ?_ | (apply v_allocD; exact tyA rfl; exact rfl; exact rfl; exact rfl; exact rfl) | (apply v_boxD; exact rfl; exact rfl; exact rfl; exact rfl; exact rfl; exact rfl; exact rfl)))
  refine run_draws (by kernel_rfl) (by kernel_rfl) ?_
  (repeat (first | (apply p_cOx; exact rfl; exact cbA rfl; (first | exact h1 | exact h2); exact rfl; exact rfl; exact rfl; exact rfl) | (apply p_allocD; exact tyA rfl; exact rfl; exact rfl; exact rfl) | (apply p_fldP; exact flA rfl; exact rfl; exact rfl; exact rfl; exact rfl) | (apply p_loadB; exact tyA rfl; exact rfl; exact rfl; exact rfl; exact rfl; exact rfl; exact rfl; exact rfl) | (apply p_storeW; exact tyA rfl; exact rfl; exact rfl; exact rfl; exact rfl; exact rfl; exact rfl; exact rfl; exact rfl) | (apply p_b; exact plA rfl; exact tyA rfl; exact rfl; exact rfl; exact rfl; exact rfl)))
  refine planL_nil (by kernel_rfl) ?_
  refine run_nest0 11 33 opE (ls := calls) rfl ?_
  (repeat (first | refine run_seq ?_ | refine run_region ?_ | (apply v_fldP; exact flA rfl; exact rfl; exact rfl; exact rfl) | (apply v_loadB; exact tyA rfl; exact rfl; exact rfl; exact rfl; exact rfl; exact rfl; exact rfl)))
  refine v_lenN' calls.length (slA rfl) rfl rfl (by simp) rfl ?_
  (repeat (first | (apply v_move; exact rfl; exact rfl) | refine runL_nil ?_ | refine run_block ?_))
  refine v_loop (fun i : Nat => ⟨[(2, .ptr 2 0), (3, .ptr 3 0), (14, .res 11), (15, .v (.int .i64 calls.length)), (16, .v (.int .i64 i))], [(2, .box 25 [.v (.slice none 0 0), .v (.slice none 0 0)]), (3, .box 25 [.res 8, .res 11]), (8, .obj (ownS 33 opE main)), (11, .obj (nestP 22 33 opE (calls.take i) (calls.drop i)))]⟩) (fun i => i ≤ calls.length) (fun i => calls.length - i) 0 idN trivial (by repeat (first | exact trivial | refine ⟨rfl, ?_⟩)) ⟨rfl, rfl, rfl, rfl, trivial⟩ rfl (by omega) fun i hi ih => ?_
  by_cases hb0 : i < calls.length
  · obtain ⟨l, hx⟩ : ∃ l, calls[i]? = some l := ⟨_, List.getElem?_eq_getElem hb0⟩
    have hd : calls.drop i = l :: calls.drop (i + 1) := by
      rw [List.drop_eq_getElem_cons hb0]
      congr 1
      exact (List.getElem?_eq_some_iff.1 hx).2
    have hst : calls.take (i + 1) = calls.take i ++ [l] := by rw [List.take_add_one, hx]; rfl
    have hln : (calls.take i).length = i := by rw [List.length_take]; omega
    have hrl : (l :: calls.drop (i + 1)).length = calls.length - i := by rw [← hd, List.length_drop]
    have hc := cloneOp_f (hcs l (List.mem_of_getElem? hx))
    rw [hd]
    (repeat (first | refine run_seq ?_ | refine run_region ?_ | refine runL_nil ?_ | (apply v_lss; exact rfl; exact rfl; exact rfl)))
    refine run_condY rfl (by simpa using hb0) ?_
    (repeat (first | (apply v_move; exact rfl; exact rfl) | refine run_seq ?_ | refine run_region ?_ | refine run_skip ?_ | refine run_block ?_))
    refine v_idxN (slA rfl) (tyA rfl) rfl rfl rfl rfl (by omega) (by omega) rfl ?_
    refine v_loadN (tyA rfl) rfl rfl rfl rfl (by omega) rfl ?_
    (repeat (first | (apply v_assign; exact rfl; exact rfl) | refine runL_nil ?_))
    refine run_draws (by kernel_rfl) (by kernel_rfl) ?_
    (repeat (first | (apply p_cOx; exact rfl; exact cbA rfl; (first | exact hc); exact rfl; exact rfl; exact rfl; exact rfl) | (refine p_idxN (slA rfl) (tyA rfl) rfl rfl rfl rfl (by omega) (by omega) rfl rfl ?_) | (refine p_storeN (tyA rfl) rfl rfl rfl rfl rfl rfl (by omega) rfl ?_) | (apply p_move; exact rfl; exact rfl; exact rfl) | (apply p_fldP; exact flA rfl; exact rfl; exact rfl; exact rfl; exact rfl) | (apply p_loadB; exact tyA rfl; exact rfl; exact rfl; exact rfl; exact rfl; exact rfl; exact rfl; exact rfl)))
    refine planL_nil (by kernel_rfl) ?_
    (repeat (first | (apply v_move; exact rfl; exact rfl) | refine run_region ?_ | refine runL_nil ?_ | refine run_inBlock ?_ | (apply v_add; exact rfl; exact rfl; exact rfl; exact (by omega))))
    exact v_again ih (i + 1) idN trivial (by repeat (first | exact trivial | refine ⟨rfl, ?_⟩)) ⟨rfl, rfl, rfl, by rw [hst]; rfl, trivial⟩ rfl (by omega) (by omega)
  · have hge : i = calls.length := by omega
    subst hge
    clear ih
    rw [List.take_length, List.drop_length]
    (repeat (first | refine run_seq ?_ | refine run_region ?_ | refine runL_nil ?_ | (apply v_lss; exact rfl; exact rfl; exact rfl)))
    refine run_condN rfl (by simp) ?_
    (repeat (first | refine run_seq ?_ | refine run_region ?_ | refine runL_nil ?_ | (apply run_exit; exact rfl) | (apply v_loadB; exact tyA rfl; exact rfl; exact rfl; exact rfl; exact rfl; exact rfl; exact rfl) | (apply v_storeW; exact tyA rfl; exact rfl; exact rfl; exact rfl; exact rfl; exact rfl; exact rfl; exact rfl)))
    exact run_ret (mp [(0, 8), (1, 11)]) _ Tryd.func12 ⟨_, _, _, _, _, _, rfl, rfl, rfl, tyA rfl, rfl, (fun h => by cases h), rfl, rfl⟩ rfl trivial ⟨rfl, rfl, trivial⟩ rfl
end Go.Proofs.YtpmeffdcbjakoaaDoor
