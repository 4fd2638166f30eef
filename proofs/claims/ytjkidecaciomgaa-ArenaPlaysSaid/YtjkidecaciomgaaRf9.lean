/- The reference 08: Attach. -/
import Derived.Test.YtjkidecaciomgaaRf8
namespace Go.Proofs.Ytjkidecaciomgaa
set_option linter.unusedVariables false
set_option linter.unusedSimpArgs false
set_option maxRecDepth 100000
open Go.RowKit

theorem attach8 {l : List Nd} (h : WF l) (host mode : Int) : Fun Try.prog 92 [.sem (listS nodeE l), .v (.int .i64 host), .v (.int .i64 mode)] [] (.tup [.sem (listS nodeE (attachM l host mode).1), .v (.int .i64 (attachM l host mode).2.1), .v (.int .i64 (attachM l host mode).2.2)]) [] := by
  cases hx : nodeAt l host with
  | none =>
    rw [show attachM l host mode = (l, 0, 1) by simp [attachM, hx]]
    refine fun_intro 64 Try.func92 rfl rfl rfl (fun ι F S w => ?_)
    (repeat (first | (apply v_cx; exact rfl; exact cbA rfl; (first | exact there_n hx); exact rfl; exact rfl) | (apply v_move; exact rfl; exact rfl) | (apply v_assign; exact rfl; exact rfl) | refine run_seq ?_ | refine run_region ?_ | refine runL_nil ?_ | (apply v_off; exact rfl; exact rfl) | (apply v_pick_t; exact rfl; exact rfl; exact rfl) | (apply run_cond; exact rfl; rotate_left; (focus (intro hb; cases hb; done)); intro hb; clear hb) | (apply v_not; exact rfl; exact rfl)))
    exact run_ret idN _ Try.func92 ⟨_, _, rfl, rfl, _, _, rfl, rfl, _, _, rfl, rfl, rfl⟩ rfl trivial trivial rfl
  | some x =>
    obtain ⟨x1, x2, x3⟩ := nodeAt_some hx
    have hlen := h.len
    by_cases hmo : mode ≠ 1 ∧ mode ≠ 2
    · rw [show attachM l host mode = (l, 0, 1) by simp [attachM, hx, hmo]]
      refine fun_intro 64 Try.func92 rfl rfl rfl (fun ι F S w => ?_)
      (repeat (first | (apply v_cx; exact rfl; exact cbA rfl; (first | exact there_s hx); exact rfl; exact rfl) | (apply v_move; exact rfl; exact rfl) | (apply v_assign; exact rfl; exact rfl) | refine run_seq ?_ | refine run_region ?_ | refine runL_nil ?_ | (apply v_on; exact rfl) | (apply v_not; exact rfl; exact rfl) | (apply v_neq; exact rfl; exact rfl; exact rfl)))
      refine v_is 19 true rfl (by simpa using hmo.1) ?_
      (repeat (first | (apply v_move; exact rfl; exact rfl) | refine runL_nil ?_ | (apply v_on; exact rfl) | (apply v_pick_t; exact rfl; exact rfl; exact rfl) | (apply v_pick_f; exact rfl; exact rfl; exact rfl) | (apply v_neq; exact rfl; exact rfl; exact rfl)))
      refine run_condY rfl (by simpa using hmo.2) ?_
      (repeat (first | (apply v_move; exact rfl; exact rfl) | (apply v_assign; exact rfl; exact rfl) | refine run_seq ?_ | refine run_region ?_ | refine runL_nil ?_))
      exact run_ret idN _ Try.func92 ⟨_, _, rfl, rfl, _, _, rfl, rfl, _, _, rfl, rfl, rfl⟩ rfl trivial trivial rfl
    · by_cases hk : x.kind ≠ 2 ∨ x.shadow ≠ 0
      · rw [show attachM l host mode = (l, 0, 5) by simp only [attachM, hx]; rw [if_neg hmo, if_pos hk]]
        rcases (show mode = 1 ∨ mode = 2 by omega) with rfl | rfl
        all_goals
          refine fun_intro 64 Try.func92 rfl rfl rfl (fun ι F S w => ?_)
          (repeat (first | (apply v_cx; exact rfl; exact cbA rfl; (first | exact there_s hx); exact rfl; exact rfl) | (apply v_idxL; exact slA rfl; exact tyA rfl; exact rfl; exact rfl; exact rfl; exact rfl; exact (by omega); (first | exact x3); exact rfl) | (apply v_move; exact rfl; exact rfl) | (apply v_assign; exact rfl; exact rfl) | refine run_seq ?_ | refine run_region ?_ | refine runL_nil ?_ | refine run_skip ?_ | (apply v_fldA; exact flA rfl; exact rfl; exact rfl; exact rfl) | (apply v_loadA; exact tyA rfl; exact rfl; exact rfl; exact rfl; exact rfl; exact rfl; exact rfl) | (apply v_on; exact rfl) | (apply v_off; exact rfl; exact rfl) | (apply v_pick_t; exact rfl; exact rfl; exact rfl) | (apply v_pick_f; exact rfl; exact rfl; exact rfl) | (apply run_cond; exact rfl; (focus (intro hb; cases hb; done)); intro hb; clear hb) | (apply v_not; exact rfl; exact rfl) | (apply v_neq; exact rfl; exact rfl; exact rfl) | (apply v_sub; exact rfl; exact rfl; exact rfl; exact (by omega))))
          by_cases hk1 : x.kind = 2
          · have hs : x.shadow ≠ 0 := hk.resolve_left fun e => e hk1
            refine v_is 32 false rfl (by simpa using hk1) ?_
            (repeat (first | (apply v_idxL; exact slA rfl; exact tyA rfl; exact rfl; exact rfl; exact rfl; exact rfl; exact (by omega); (first | exact x3); exact rfl) | (apply v_move; exact rfl; exact rfl) | refine runL_nil ?_ | (apply v_fldA; exact flA rfl; exact rfl; exact rfl; exact rfl) | (apply v_loadA; exact tyA rfl; exact rfl; exact rfl; exact rfl; exact rfl; exact rfl; exact rfl) | (apply v_on; exact rfl) | (apply v_pick_f; exact rfl; exact rfl; exact rfl) | (apply v_neq; exact rfl; exact rfl; exact rfl) | (apply v_sub; exact rfl; exact rfl; exact rfl; exact (by omega))))
            refine run_condY rfl (by simpa using hs) ?_
            (repeat (first | (apply v_move; exact rfl; exact rfl) | (apply v_assign; exact rfl; exact rfl) | refine run_seq ?_ | refine run_region ?_ | refine runL_nil ?_))
            exact run_ret idN _ Try.func92 ⟨_, _, rfl, rfl, _, _, rfl, rfl, _, _, rfl, rfl, rfl⟩ rfl trivial trivial rfl
          · refine v_is 32 true rfl (by simpa using hk1) ?_
            (repeat (first | (apply v_move; exact rfl; exact rfl) | (apply v_assign; exact rfl; exact rfl) | refine run_seq ?_ | refine run_region ?_ | refine runL_nil ?_ | (apply v_off; exact rfl; exact rfl) | (apply v_pick_t; exact rfl; exact rfl; exact rfl) | (apply run_cond; exact rfl; rotate_left; (focus (intro hb; cases hb; done)); intro hb; clear hb)))
            exact run_ret idN _ Try.func92 ⟨_, _, rfl, rfl, _, _, rfl, rfl, _, _, rfl, rfl, rfl⟩ rfl trivial trivial rfl
      · have hk1 : x.kind = 2 := by
          rcases Decidable.em (x.kind = 2) with e | e
          · exact e
          · exact absurd (.inl e) hk
        have hs : x.shadow = 0 := by
          rcases Decidable.em (x.shadow = 0) with e | e
          · exact e
          · exact absurd (.inr e) hk
        have hat : attachM l host mode = if (makeM l { nd0 with kind := 3, mode := mode }).2.2 ≠ 0 then (l, 0, (makeM l { nd0 with kind := 3, mode := mode }).2.2)
          else ((tieM (makeM l { nd0 with kind := 3, mode := mode }).1 host (makeM l { nd0 with kind := 3, mode := mode }).2.1).1, (makeM l { nd0 with kind := 3, mode := mode }).2.1, (tieM (makeM l { nd0 with kind := 3, mode := mode }).1 host (makeM l { nd0 with kind := 3, mode := mode }).2.1).2) := by
          simp only [attachM, hx]
          rw [if_neg hmo, if_neg hk]
        have hmk := make_r (l := l) (x := { nd0 with kind := 3, mode := mode }) (by show nd0.name.size ≤ _; decide) (by show nd0.want.size ≤ _; decide) h.len (kids_all h)
        have hw2 := wf_make h (n := { nd0 with kind := 3, mode := mode }) (by show nd0.name.size ≤ _; decide) (by show nd0.want.size ≤ _; decide)
        generalize hT : attachM l host mode = T at *
        generalize makeM l { nd0 with kind := 3, mode := mode } = M at *
        have ht := tie_r hw2 host M.2.1
        rcases (show mode = 1 ∨ mode = 2 by omega) with rfl | rfl
        all_goals
          refine fun_intro 64 Try.func92 rfl rfl rfl (fun ι F S w => ?_)
          (repeat (first | (apply v_cx; exact rfl; exact cbA rfl; (first | exact there_s hx); exact rfl; exact rfl) | (apply v_idxL; exact slA rfl; exact tyA rfl; exact rfl; exact rfl; exact rfl; exact rfl; exact (by omega); (first | exact x3); exact rfl) | (apply v_move; exact rfl; exact rfl) | (apply v_assign; exact rfl; exact rfl) | refine run_seq ?_ | refine run_region ?_ | refine runL_nil ?_ | refine run_skip ?_ | (apply v_fldA; exact flA rfl; exact rfl; exact rfl; exact rfl) | (apply v_loadA; exact tyA rfl; exact rfl; exact rfl; exact rfl; exact rfl; exact rfl; exact rfl) | (apply v_on; exact rfl) | (apply v_off; exact rfl; exact rfl) | (apply v_pick_t; exact rfl; exact rfl; exact rfl) | (apply v_pick_f; exact rfl; exact rfl; exact rfl) | (apply run_cond; exact rfl; (focus (intro hb; cases hb; done)); intro hb; clear hb) | (apply v_not; exact rfl; exact rfl) | (apply v_neq; exact rfl; exact rfl; exact rfl) | (apply v_sub; exact rfl; exact rfl; exact rfl; exact (by omega))))
          refine v_is 32 false rfl (by simpa using hk1) ?_
          (repeat (first | (apply v_idxL; exact slA rfl; exact tyA rfl; exact rfl; exact rfl; exact rfl; exact rfl; exact (by omega); (first | exact x3); exact rfl) | (apply v_move; exact rfl; exact rfl) | refine runL_nil ?_ | (apply v_fldA; exact flA rfl; exact rfl; exact rfl; exact rfl) | (apply v_loadA; exact tyA rfl; exact rfl; exact rfl; exact rfl; exact rfl; exact rfl; exact rfl) | (apply v_on; exact rfl) | (apply v_pick_f; exact rfl; exact rfl; exact rfl) | (apply v_neq; exact rfl; exact rfl; exact rfl) | (apply v_sub; exact rfl; exact rfl; exact rfl; exact (by omega))))
          refine run_condN rfl (by simpa using hs) ?_
          (repeat (first | (apply v_move; exact rfl; exact rfl) | refine run_seq ?_ | refine run_region ?_ | refine run_skip ?_ | (apply v_b; exact plA rfl; exact tyA rfl; exact rfl; exact rfl; exact rfl)))
          refine runL_le 45 rfl (y := .agg (nodeL { nd0 with kind := 3, mode := _ })) (Le.agg (by repeat (first | exact trivial | refine ⟨Le.refl, ?_⟩ | refine ⟨Le.nil, ?_⟩))) ?_
          (repeat (first | (apply v_cx; exact rfl; exact cbA rfl; (first | exact hmk); exact rfl; exact rfl) | (apply v_move; exact rfl; exact rfl) | (apply v_assign; exact rfl; exact rfl) | refine run_seq ?_ | refine run_region ?_ | refine runL_nil ?_ | (apply v_extract; exact rfl; exact rfl; exact rfl) | (apply v_neq; exact rfl; exact rfl; exact rfl)))
          refine run_cond rfl (fun hc => ?_) (fun hc => ?_)
          · have hc : M.2.2 ≠ 0 := by simpa using hc
            rw [if_pos hc] at hat
            subst hat
            (repeat (first | (apply v_move; exact rfl; exact rfl) | (apply v_assign; exact rfl; exact rfl) | refine run_seq ?_ | refine run_region ?_ | refine runL_nil ?_))
            exact run_ret idN _ Try.func92 ⟨_, _, rfl, rfl, _, _, rfl, rfl, _, _, rfl, rfl, rfl⟩ rfl trivial trivial rfl
          · have hc : ¬ M.2.2 ≠ 0 := by simpa using hc
            rw [if_neg hc] at hat
            subst hat
            (repeat (first | (apply v_cx; exact rfl; exact cbA rfl; (first | exact ht); exact rfl; exact rfl) | (apply v_move; exact rfl; exact rfl) | (apply v_assign; exact rfl; exact rfl) | refine run_seq ?_ | refine run_region ?_ | refine runL_nil ?_ | refine run_skip ?_ | (apply v_extract; exact rfl; exact rfl; exact rfl)))
            exact run_ret idN _ Try.func92 ⟨_, _, rfl, rfl, _, _, rfl, rfl, _, _, rfl, rfl, rfl⟩ rfl trivial trivial rfl
end Go.Proofs.Ytjkidecaciomgaa
