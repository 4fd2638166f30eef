/- Law 02: IdsGive. -/
import Derived.Test.YtpmeffdcbjakoaaIdV
import Derived.OpenShut
namespace Go.Proofs.Ytpmeffdcbjakoaa
set_option linter.unusedVariables false
set_option linter.unusedSimpArgs false
set_option maxRecDepth 100000
open Go.RowKit

theorem awake02 : Fun Try.prog 13 [] [] (.v (.bool true)) [] := by
  have h0 := new_v 2
  have h1 := next_v (n := 0) (l := 2) (by omega) (by omega)
  have h2 := next_v (n := 1) (l := 2) (by omega) (by omega)
  have h3 := next_v (n := 2) (l := 2) (by omega) (by omega)
  refine fun_intro 21 Try.func13 rfl rfl rfl (fun ι F S w => ?_)
  (repeat (first | (apply v_assign; exact rfl; exact rfl) | refine run_seq ?_ | refine run_region ?_ | refine runL_nil ?_))
  refine v_cR (mp [(0, 2)]) h0 rfl (cbA rfl) trivial (by kernel_rfl) (by kernel_rfl) (by kernel_rfl) (by kernel_rfl) (by kernel_rfl) (by kernel_rfl) (by kernel_rfl) (by kernel_rfl) rfl ?_
  (repeat (first | (apply v_move; exact rfl; exact rfl) | (apply v_assign; exact rfl; exact rfl) | refine run_seq ?_ | refine run_region ?_ | refine runL_nil ?_))
  refine v_cR (mp [(0, 2)]) h1 rfl (cbA rfl) ⟨rfl, trivial⟩ (by kernel_rfl) (by kernel_rfl) (by kernel_rfl) (by kernel_rfl) (by kernel_rfl) (by kernel_rfl) (by kernel_rfl) (by kernel_rfl) rfl ?_
  (repeat (first | (apply v_move; exact rfl; exact rfl) | (apply v_on; exact rfl) | (apply v_eql; exact rfl; exact rfl; exact rfl)))
  refine v_cR (mp [(0, 2)]) h2 rfl (cbA rfl) ⟨rfl, trivial⟩ (by kernel_rfl) (by kernel_rfl) (by kernel_rfl) (by kernel_rfl) (by kernel_rfl) (by kernel_rfl) (by kernel_rfl) (by kernel_rfl) rfl ?_
  (repeat (first | (apply v_move; exact rfl; exact rfl) | (apply v_on; exact rfl) | (apply v_pick_t; exact rfl; exact rfl; exact rfl) | (apply v_eql; exact rfl; exact rfl; exact rfl)))
  refine v_cR (mp [(0, 2)]) h3 rfl (cbA rfl) ⟨rfl, trivial⟩ (by kernel_rfl) (by kernel_rfl) (by kernel_rfl) (by kernel_rfl) (by kernel_rfl) (by kernel_rfl) (by kernel_rfl) (by kernel_rfl) rfl ?_
  (repeat (first | (apply v_move; exact rfl; exact rfl) | (apply v_on; exact rfl) | (apply v_pick_t; exact rfl; exact rfl; exact rfl) | (apply v_eql; exact rfl; exact rfl; exact rfl)))
  refine v_cR (mp [(0, 2)]) h3 rfl (cbA rfl) ⟨rfl, trivial⟩ (by kernel_rfl) (by kernel_rfl) (by kernel_rfl) (by kernel_rfl) (by kernel_rfl) (by kernel_rfl) (by kernel_rfl) (by kernel_rfl) rfl ?_
  (repeat (first | (apply v_assign; exact rfl; exact rfl) | refine runL_nil ?_ | (apply v_on; exact rfl) | (apply v_pick_t; exact rfl; exact rfl; exact rfl) | (apply v_eql; exact rfl; exact rfl; exact rfl)))
  exact run_ret idN _ Try.func13 ⟨_, _, rfl, rfl, rfl⟩ rfl trivial trivial rfl
theorem giveM_lim {n a : Int} (h : 0 ≤ n) : giveM n (limM a) = giveM n a ∧ lastM n (limM a) = lastM n a := by
  unfold giveM lastM limM
  by_cases h1 : 0 > a
  · rw [if_pos h1, if_neg (by omega), if_neg (by omega), if_neg (by omega), if_neg (by omega)]; exact ⟨rfl, rfl⟩
  · rw [if_neg h1]; exact ⟨rfl, rfl⟩
theorem idsGive_f (a0 a1 a2 : Int) (hb : a0 ≤ 9223372036854775807) : Fun Try.prog 4 [.v (.int .i64 a0), .v (.int .i64 a1), .v (.int .i64 a2)] [] (.v (.bool true)) [] := by
  have hz1 := next_v (n := 0) (l := 0) (by omega) (by omega)
  have hz2 := last_v 0 0
  have hz3 := is_v 0 0 a2
  rw [show isV 0 a2 = false by unfold isV; by_cases h : 1 ≤ a2 <;> simp [h]; omega] at hz3
  have hlm : limM a0 ≤ 9223372036854775807 := by unfold limM; split <;> omega
  refine fun_intro 90 Try.func4 rfl rfl rfl (fun ι F S w => ?_)
  (repeat (first | (apply v_cx; exact rfl; exact cbA rfl; (first | exact awake02); exact rfl; exact rfl) | (apply v_move; exact rfl; exact rfl) | (apply v_assign; exact rfl; exact rfl) | refine run_seq ?_ | refine run_region ?_ | refine runL_nil ?_ | refine run_skip ?_ | (apply run_cond; exact rfl; (focus (intro hb; cases hb; done)); intro hb; clear hb) | (apply v_not; exact rfl; exact rfl)))
  refine v_cR (mp [(0, 15)]) (new_v a0) rfl (cbA rfl) trivial (by kernel_rfl) (by kernel_rfl) (by kernel_rfl) (by kernel_rfl) (by kernel_rfl) (by kernel_rfl) (by kernel_rfl) (by kernel_rfl) rfl ?_
  (repeat (first | (apply v_move; exact rfl; exact rfl) | (apply v_assign; exact rfl; exact rfl) | refine run_seq ?_ | refine run_region ?_ | refine runL_nil ?_ | refine run_block ?_ | (apply v_boxD; exact rfl; exact rfl; exact rfl; exact rfl; exact rfl; exact rfl; exact rfl) | (apply v_b; exact plA rfl; exact tyA rfl; exact rfl; exact rfl; exact rfl)))
  refine v_loop (fun q : Nat × Int => ⟨[(1, .v (.int .i64 a1)), (2, .v (.int .i64 a2)), (7, .ptr 15 0), (8, .ptr 18 0), (9, .v (.int .i64 q.1))], [(15, .box 38 [.v (.int .i64 q.2), .v (.int .i64 (limM a0))]), (18, .box 30 [.v (.int .i64 q.2), .v (.int .i64 a0)])]⟩) (fun q => q.1 ≤ 500 ∧ 0 ≤ q.2) (fun q => 500 - q.1) (0, 0) idN trivial (by repeat (first | exact trivial | refine ⟨rfl, ?_⟩)) (by repeat (first | exact trivial | refine ⟨rfl, ?_⟩)) rfl ⟨by simp, by simp⟩ fun ⟨i, k⟩ ⟨hi, hk⟩ ih => ?_
  dsimp only at hi hk ⊢
  (repeat (first | (apply v_move; exact rfl; exact rfl) | refine run_seq ?_ | refine run_region ?_ | (apply v_lss; exact rfl; exact rfl; exact rfl)))
  by_cases h1 : (i : Int) < a1
  · refine v_is 22 true rfl (by simpa using h1) ?_
    (repeat (first | (apply v_move; exact rfl; exact rfl) | refine runL_nil ?_ | (apply v_on; exact rfl) | (apply v_pick_t; exact rfl; exact rfl; exact rfl) | (apply v_lss; exact rfl; exact rfl; exact rfl)))
    refine run_cond rfl (fun h2 => ?_) (fun h2 => ?_)
    · have hlt : i < 500 := by have := of_decide_eq_true h2; omega
      have hn := next_v hk hlm
      obtain ⟨e1, e2⟩ := giveM_lim (a := a0) hk
      rw [e1, e2] at hn
      have hr := refnext_v (n := k) (l := a0) hk hb
      have hk' : 0 ≤ lastM k a0 := by unfold lastM; split <;> omega
      have hla := last_v (lastM k a0) (limM a0)
      have his := is_v (lastM k a0) (limM a0) a2
      clear e1 e2 hz1 hz2 hz3
      generalize lastM k a0 = k' at *
      generalize giveM k a0 = g at *
      (repeat (first | refine run_seq ?_ | refine run_skip ?_ | refine run_block ?_))
      by_cases h3 : 1 ≤ a2
      · rw [isV, if_pos h3] at his
        refine run_draws (by kernel_rfl) (by kernel_rfl) ?_
        (repeat (first | (apply p_move; exact rfl; exact rfl; exact rfl)))
        refine p_cR (mp [(0, 15)]) hn rfl (cbA rfl) ⟨rfl, trivial⟩ (by kernel_rfl) (by kernel_rfl) (by kernel_rfl) (by kernel_rfl) (by kernel_rfl) (by kernel_rfl) (by kernel_rfl) rfl rfl ?_
        (repeat (first | (apply p_move; exact rfl; exact rfl; exact rfl)))
        refine p_cR (mp [(0, 18)]) hr rfl (cbA rfl) ⟨rfl, trivial⟩ (by kernel_rfl) (by kernel_rfl) (by kernel_rfl) (by kernel_rfl) (by kernel_rfl) (by kernel_rfl) (by kernel_rfl) rfl rfl ?_
        (repeat (first | (apply p_move; exact rfl; exact rfl; exact rfl) | (apply p_neq; exact rfl; exact rfl; exact rfl; exact rfl)))
        refine p_is 33 false rfl (bne_self_eq_false g) ?_
        (repeat (first | (apply p_move; exact rfl; exact rfl; exact rfl)))
        refine p_cR (mp [(0, 15)]) hla rfl (cbA rfl) ⟨rfl, trivial⟩ (by kernel_rfl) (by kernel_rfl) (by kernel_rfl) (by kernel_rfl) (by kernel_rfl) (by kernel_rfl) (by kernel_rfl) rfl rfl ?_
        (repeat (first | (apply p_move; exact rfl; exact rfl; exact rfl) | (apply p_fldP; exact flA rfl; exact rfl; exact rfl; exact rfl; exact rfl) | (apply p_loadB; exact tyA rfl; exact rfl; exact rfl; exact rfl; exact rfl; exact rfl; exact rfl; exact rfl) | (apply p_pick_f; exact rfl; exact rfl; exact rfl; exact rfl) | (apply p_neq; exact rfl; exact rfl; exact rfl; exact rfl) | (apply p_nilCheck; exact rfl; exact NNf.ptr; exact rfl; exact rfl)))
        refine p_is 42 false rfl (bne_self_eq_false k') ?_
        (repeat (first | (apply p_move; exact rfl; exact rfl; exact rfl)))
        refine p_cR (mp [(0, 15)]) his rfl (cbA rfl) ⟨rfl, trivial⟩ (by kernel_rfl) (by kernel_rfl) (by kernel_rfl) (by kernel_rfl) (by kernel_rfl) (by kernel_rfl) (by kernel_rfl) rfl rfl ?_
        (repeat (first | (apply p_move; exact rfl; exact rfl; exact rfl) | (apply p_geq; exact rfl; exact rfl; exact rfl; exact rfl)))
        refine p_is 48 true rfl (by simpa using h3) ?_
        (repeat (first | (apply p_move; exact rfl; exact rfl; exact rfl) | (apply p_fldP; exact flA rfl; exact rfl; exact rfl; exact rfl; exact rfl) | (apply p_loadB; exact tyA rfl; exact rfl; exact rfl; exact rfl; exact rfl; exact rfl; exact rfl; exact rfl) | (apply p_pick_t; exact rfl; exact rfl; exact rfl; exact rfl) | (apply p_pick_f; exact rfl; exact rfl; exact rfl; exact rfl) | (apply p_leq; exact rfl; exact rfl; exact rfl; exact rfl) | (apply p_nilCheck; exact rfl; exact NNf.ptr; exact rfl; exact rfl) | (apply p_neqB; exact boA rfl; exact rfl; exact rfl; exact rfl; exact rfl)))
        refine planL_nil (by kernel_rfl) ?_
        refine run_condN rfl (bne_self_eq_false (decide (a2 ≤ k'))) ?_
        (repeat (first | (apply v_move; exact rfl; exact rfl) | (apply v_assign; exact rfl; exact rfl) | refine run_region ?_ | refine runL_nil ?_ | refine run_skip ?_ | refine run_inBlock ?_ | (apply v_add; exact rfl; exact rfl; exact rfl; exact (by omega))))
        exact v_again ih (i + 1, k') idN trivial (by repeat (first | exact trivial | refine ⟨rfl, ?_⟩)) (by repeat (first | exact trivial | refine ⟨rfl, ?_⟩)) rfl ⟨by dsimp only; omega, hk'⟩ (by dsimp only; omega)
      · rw [isV, if_neg h3] at his
        refine run_draws (by kernel_rfl) (by kernel_rfl) ?_
        (repeat (first | (apply p_move; exact rfl; exact rfl; exact rfl)))
        refine p_cR (mp [(0, 15)]) hn rfl (cbA rfl) ⟨rfl, trivial⟩ (by kernel_rfl) (by kernel_rfl) (by kernel_rfl) (by kernel_rfl) (by kernel_rfl) (by kernel_rfl) (by kernel_rfl) rfl rfl ?_
        (repeat (first | (apply p_move; exact rfl; exact rfl; exact rfl)))
        refine p_cR (mp [(0, 18)]) hr rfl (cbA rfl) ⟨rfl, trivial⟩ (by kernel_rfl) (by kernel_rfl) (by kernel_rfl) (by kernel_rfl) (by kernel_rfl) (by kernel_rfl) (by kernel_rfl) rfl rfl ?_
        (repeat (first | (apply p_move; exact rfl; exact rfl; exact rfl) | (apply p_neq; exact rfl; exact rfl; exact rfl; exact rfl)))
        refine p_is 33 false rfl (bne_self_eq_false g) ?_
        (repeat (first | (apply p_move; exact rfl; exact rfl; exact rfl)))
        refine p_cR (mp [(0, 15)]) hla rfl (cbA rfl) ⟨rfl, trivial⟩ (by kernel_rfl) (by kernel_rfl) (by kernel_rfl) (by kernel_rfl) (by kernel_rfl) (by kernel_rfl) (by kernel_rfl) rfl rfl ?_
        (repeat (first | (apply p_move; exact rfl; exact rfl; exact rfl) | (apply p_fldP; exact flA rfl; exact rfl; exact rfl; exact rfl; exact rfl) | (apply p_loadB; exact tyA rfl; exact rfl; exact rfl; exact rfl; exact rfl; exact rfl; exact rfl; exact rfl) | (apply p_pick_f; exact rfl; exact rfl; exact rfl; exact rfl) | (apply p_neq; exact rfl; exact rfl; exact rfl; exact rfl) | (apply p_nilCheck; exact rfl; exact NNf.ptr; exact rfl; exact rfl)))
        refine p_is 42 false rfl (bne_self_eq_false k') ?_
        (repeat (first | (apply p_move; exact rfl; exact rfl; exact rfl)))
        refine p_cR (mp [(0, 15)]) his rfl (cbA rfl) ⟨rfl, trivial⟩ (by kernel_rfl) (by kernel_rfl) (by kernel_rfl) (by kernel_rfl) (by kernel_rfl) (by kernel_rfl) (by kernel_rfl) rfl rfl ?_
        (repeat (first | (apply p_move; exact rfl; exact rfl; exact rfl) | (apply p_geq; exact rfl; exact rfl; exact rfl; exact rfl)))
        refine p_is 48 false rfl (by simpa using h3) ?_
        (repeat (first | (apply p_off; exact rfl; exact rfl) | (apply p_pick_f; exact rfl; exact rfl; exact rfl; exact rfl) | (apply p_neqB; exact boA rfl; exact rfl; exact rfl; exact rfl; exact rfl)))
        refine planL_nil (by kernel_rfl) ?_
        (repeat (first | (apply v_move; exact rfl; exact rfl) | (apply v_assign; exact rfl; exact rfl) | refine run_region ?_ | refine runL_nil ?_ | refine run_skip ?_ | refine run_inBlock ?_ | (apply run_cond; exact rfl; (focus (intro hb; cases hb; done)); intro hb; clear hb) | (apply v_add; exact rfl; exact rfl; exact rfl; exact (by omega))))
        exact v_again ih (i + 1, k') idN trivial (by repeat (first | exact trivial | refine ⟨rfl, ?_⟩)) (by repeat (first | exact trivial | refine ⟨rfl, ?_⟩)) rfl ⟨by dsimp only; omega, hk'⟩ (by dsimp only; omega)
    · clear ih
      (repeat (first | (apply v_cx; exact rfl; exact cbA rfl; (first | exact next_n | exact last_n | exact is_n a2); exact rfl; exact rfl) | (apply v_move; exact rfl; exact rfl) | (apply v_assign; exact rfl; exact rfl) | refine run_seq ?_ | refine run_region ?_ | refine runL_nil ?_ | (apply run_exit; exact rfl) | (apply v_on; exact rfl) | (apply v_pick_t; exact rfl; exact rfl; exact rfl) | (apply v_not; exact rfl; exact rfl) | (apply v_eql; exact rfl; exact rfl; exact rfl) | (apply v_boxD; exact rfl; exact rfl; exact rfl; exact rfl; exact rfl; exact rfl; exact rfl) | (apply v_b; exact plA rfl; exact tyA rfl; exact rfl; exact rfl; exact rfl)))
      refine v_cR (mp [(0, 59)]) hz1 rfl (cbA rfl) ⟨rfl, trivial⟩ (by kernel_rfl) (by kernel_rfl) (by kernel_rfl) (by kernel_rfl) (by kernel_rfl) (by kernel_rfl) (by kernel_rfl) (by kernel_rfl) rfl ?_
      (repeat (first | (apply v_move; exact rfl; exact rfl) | (apply v_on; exact rfl) | (apply v_pick_t; exact rfl; exact rfl; exact rfl) | (apply v_eql; exact rfl; exact rfl; exact rfl)))
      refine v_cR (mp [(0, 59)]) hz2 rfl (cbA rfl) ⟨rfl, trivial⟩ (by kernel_rfl) (by kernel_rfl) (by kernel_rfl) (by kernel_rfl) (by kernel_rfl) (by kernel_rfl) (by kernel_rfl) (by kernel_rfl) rfl ?_
      (repeat (first | (apply v_move; exact rfl; exact rfl) | (apply v_on; exact rfl) | (apply v_pick_t; exact rfl; exact rfl; exact rfl) | (apply v_eql; exact rfl; exact rfl; exact rfl)))
      refine v_cR (mp [(0, 59)]) hz3 rfl (cbA rfl) ⟨rfl, trivial⟩ (by kernel_rfl) (by kernel_rfl) (by kernel_rfl) (by kernel_rfl) (by kernel_rfl) (by kernel_rfl) (by kernel_rfl) (by kernel_rfl) rfl ?_
      (repeat (first | (apply v_assign; exact rfl; exact rfl) | refine runL_nil ?_ | (apply v_on; exact rfl) | (apply v_pick_t; exact rfl; exact rfl; exact rfl) | (apply v_not; exact rfl; exact rfl)))
      exact run_ret idN _ Try.func4 ⟨_, _, rfl, rfl, rfl⟩ rfl trivial trivial rfl
  · refine v_is 22 false rfl (by simpa using h1) ?_
    clear ih
    (repeat (first | (apply v_cx; exact rfl; exact cbA rfl; (first | exact next_n | exact last_n | exact is_n a2); exact rfl; exact rfl) | (apply v_move; exact rfl; exact rfl) | (apply v_assign; exact rfl; exact rfl) | refine run_seq ?_ | refine run_region ?_ | refine runL_nil ?_ | (apply run_exit; exact rfl) | (apply v_on; exact rfl) | (apply v_off; exact rfl; exact rfl) | (apply v_pick_t; exact rfl; exact rfl; exact rfl) | (apply v_pick_f; exact rfl; exact rfl; exact rfl) | (apply run_cond; exact rfl; (focus (intro hb; cases hb; done)); intro hb; clear hb) | (apply v_not; exact rfl; exact rfl) | (apply v_eql; exact rfl; exact rfl; exact rfl) | (apply v_boxD; exact rfl; exact rfl; exact rfl; exact rfl; exact rfl; exact rfl; exact rfl) | (apply v_b; exact plA rfl; exact tyA rfl; exact rfl; exact rfl; exact rfl)))
    refine v_cR (mp [(0, 59)]) hz1 rfl (cbA rfl) ⟨rfl, trivial⟩ (by kernel_rfl) (by kernel_rfl) (by kernel_rfl) (by kernel_rfl) (by kernel_rfl) (by kernel_rfl) (by kernel_rfl) (by kernel_rfl) rfl ?_
    (repeat (first | (apply v_move; exact rfl; exact rfl) | (apply v_on; exact rfl) | (apply v_pick_t; exact rfl; exact rfl; exact rfl) | (apply v_eql; exact rfl; exact rfl; exact rfl)))
    refine v_cR (mp [(0, 59)]) hz2 rfl (cbA rfl) ⟨rfl, trivial⟩ (by kernel_rfl) (by kernel_rfl) (by kernel_rfl) (by kernel_rfl) (by kernel_rfl) (by kernel_rfl) (by kernel_rfl) (by kernel_rfl) rfl ?_
    (repeat (first | (apply v_move; exact rfl; exact rfl) | (apply v_on; exact rfl) | (apply v_pick_t; exact rfl; exact rfl; exact rfl) | (apply v_eql; exact rfl; exact rfl; exact rfl)))
    refine v_cR (mp [(0, 59)]) hz3 rfl (cbA rfl) ⟨rfl, trivial⟩ (by kernel_rfl) (by kernel_rfl) (by kernel_rfl) (by kernel_rfl) (by kernel_rfl) (by kernel_rfl) (by kernel_rfl) (by kernel_rfl) rfl ?_
    (repeat (first | (apply v_assign; exact rfl; exact rfl) | refine runL_nil ?_ | (apply v_on; exact rfl) | (apply v_pick_t; exact rfl; exact rfl; exact rfl) | (apply v_not; exact rfl; exact rfl)))
    exact run_ret idN _ Try.func4 ⟨_, _, rfl, rfl, rfl⟩ rfl trivial trivial rfl
theorem idsGive_walk (a0 a1 a2 : Int) (W : World) (w0 : (Lit.int .i64 a0).wf = true) (w1 : (Lit.int .i64 a1).wf = true) (w2 : (Lit.int .i64 a2).wf = true) : Calls Try.prog 4 #[.int .i64 a0, .int .i64 a1, .int .i64 a2] W fun e w' => e = .returned (.bool true) ∧ Below W.heap.size W w' :=
  (idsGive_f a0 a1 a2 (bounds_i64 w0).2).calls (AVRs_v [.int .i64 a0, .int .i64 a1, .int .i64 a2])
end Go.Proofs.Ytpmeffdcbjakoaa
