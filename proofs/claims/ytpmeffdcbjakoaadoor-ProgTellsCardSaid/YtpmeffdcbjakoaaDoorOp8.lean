/- ref19.Right. -/
import Derived.Test.YtpmeffdcbjakoaaDoorOp7
import Derived.Test.YtpmeffdcbjakoaaDoorRf2
namespace Go.Proofs.YtpmeffdcbjakoaaDoor
set_option linter.unusedVariables false
set_option linter.unusedSimpArgs false
set_option maxRecDepth 100000
open Go.RowKit

theorem refword_f {s : ByteArray} (hs : s.size ≤ 9223372036854775807) : Fun Tryd.prog 24 [.v (.string s)] [] (.v (.bool (wordB s))) [] := fun_of_calls (l := [.string s]) fun w => (ref_word s w hs).mono fun e w' ⟨he, hw⟩ => ⟨he, by rw [← hw]; exact Below.refl _ _⟩
def intE : Enc Int where
  sz := 1
  f := fun n => [.v (.int .i64 n)]
  len := fun _ => rfl
  leaf := fun _ => rfl
set_option maxHeartbeats 4000000 in
theorem right19_f {x : OpD} (hs : x.s.size ≤ 9223372036854775807) : Fun Tryd.prog 15 [.agg (opL x)] [] (.v (.bool (rightO x))) [] := by
  have hwd := refword_f hs
  by_cases hc : 1 ≤ x.code ∧ x.code < 18
  · obtain ⟨s, hne, hn0⟩ := name_in hc.1 hc.2
    have hn := hn0.arg (l' := [.sem (codeS x.code)]) ⟨codeS_le x.code, trivial⟩
    have hnum := (num19_f hc.1 hc.2).arg (l' := [.sem (codeS x.code)]) ⟨codeS_le x.code, trivial⟩
    have hwor := (wor19_f hc.1 hc.2).arg (l' := [.sem (codeS x.code)]) ⟨codeS_le x.code, trivial⟩
    refine fun_intro 61 Tryd.func15 rfl rfl rfl (fun ι F S w => ?_)
    (repeat (first | (apply v_cx; exact rfl; exact cbA rfl; (first | exact hn); exact rfl; exact rfl) | (apply v_assign; exact rfl; exact rfl) | refine run_seq ?_ | refine run_region ?_ | refine runL_nil ?_ | (apply v_fldP; exact flA rfl; exact rfl; exact rfl; exact rfl) | (apply v_loadB; exact tyA rfl; exact rfl; exact rfl; exact rfl; exact rfl; exact rfl; exact rfl) | (apply v_boxD; exact rfl; exact rfl; exact rfl; exact rfl; exact rfl; exact rfl; exact rfl) | (apply v_eqlS; exact rfl; exact rfl; exact rfl)))
    refine run_condN rfl (by simpa using hne) ?_
    (repeat (first | refine run_seq ?_ | refine run_region ?_ | refine run_skip ?_ | (apply v_fldP; exact flA rfl; exact rfl; exact rfl; exact rfl) | (apply v_loadB; exact tyA rfl; exact rfl; exact rfl; exact rfl; exact rfl; exact rfl; exact rfl)))
    refine v_l intE (fourL x) (slA rfl) (tyA rfl) rfl rfl rfl rfl rfl rfl rfl rfl rfl rfl ?_
    (repeat (first | (apply v_assign; exact rfl; exact rfl) | refine run_seq ?_ | refine run_region ?_ | refine runL_nil ?_ | refine run_block ?_))
    refine v_loop (fun i : Nat => ⟨[(1, .ptr 1 0), (3, .sem (listS intE (fourL x))), (4, .v (.int .i64 i))], [(1, .box 33 (opL x))]⟩) (fun i => i ≤ 4 ∧ okTo x i = true) (fun i => 4 - i) 0 idN trivial (by repeat (first | exact trivial | refine ⟨rfl, ?_⟩)) (by repeat (first | exact trivial | refine ⟨rfl, ?_⟩)) rfl ⟨by omega, rfl⟩ fun i ⟨hi, ho⟩ ih => ?_
    (repeat (first | (apply v_move; exact rfl; exact rfl) | refine run_seq ?_ | refine run_region ?_ | refine runL_nil ?_ | (apply v_lss; exact rfl; exact rfl; exact rfl)))
    refine run_cond rfl (fun hb => ?_) (fun hb => ?_)
    · have hlt : i < 4 := by have : (i : Int) < 4 := (by simpa using hb); omega
      obtain ⟨n, hn⟩ : ∃ n, (fourL x)[i]? = some n := ⟨_, List.getElem?_eq_getElem (show i < (fourL x).length from hlt)⟩
      have hn' : (fourL x)[((i : Int)).toNat]? = some n := by rw [show ((i : Int)).toNat = i by omega]; exact hn
      have hst := okTo_succ hn
      have hfin := okTo_false (x := x) (i := i) (n := n) hlt hn
      (repeat (first | (apply v_idxL; exact slA rfl; exact tyA rfl; exact rfl; exact rfl; exact rfl; exact rfl; exact (by omega); (first | exact hn'); exact rfl) | (apply v_move; exact rfl; exact rfl) | refine run_seq ?_ | refine run_region ?_ | refine run_skip ?_ | refine run_block ?_ | (apply v_loadA; exact tyA rfl; exact rfl; exact rfl; exact rfl; exact rfl; exact rfl; exact rfl) | (apply v_lss; exact rfl; exact rfl; exact rfl)))
      by_cases h2 : n < -1000000
      · have hbad := hfin (.inr (.inl (by omega)))
        rw [rightO_bad hbad]
        refine v_is 27 true rfl (by simpa using h2) ?_
        (repeat (first | (apply v_move; exact rfl; exact rfl) | (apply v_assign; exact rfl; exact rfl) | refine run_seq ?_ | refine run_region ?_ | refine runL_nil ?_ | (apply v_off; exact rfl; exact rfl) | (apply v_pick_t; exact rfl; exact rfl; exact rfl) | (apply run_cond; exact rfl; rotate_left; (focus (intro hb; cases hb; done)); intro hb; clear hb)))
        exact run_ret idN _ Tryd.func15 ⟨_, _, rfl, rfl, rfl⟩ rfl trivial trivial rfl
      · refine v_is 27 false rfl (by simpa using h2) ?_
        by_cases h1 : n > 1000000
        · have hbad := hfin (.inl (by omega))
          rw [rightO_bad hbad]
          (repeat (first | (apply v_idxL; exact slA rfl; exact tyA rfl; exact rfl; exact rfl; exact rfl; exact rfl; exact (by omega); (first | exact hn'); exact rfl) | (apply v_move; exact rfl; exact rfl) | (apply v_loadA; exact tyA rfl; exact rfl; exact rfl; exact rfl; exact rfl; exact rfl; exact rfl) | (apply v_on; exact rfl) | (apply v_pick_f; exact rfl; exact rfl; exact rfl) | (apply v_gtr; exact rfl; exact rfl; exact rfl)))
          refine v_is 34 true rfl (by simpa using h1) ?_
          (repeat (first | (apply v_assign; exact rfl; exact rfl) | refine run_seq ?_ | refine run_region ?_ | refine runL_nil ?_ | (apply v_off; exact rfl; exact rfl) | (apply v_pick_t; exact rfl; exact rfl; exact rfl) | (apply run_cond; exact rfl; rotate_left; (focus (intro hb; cases hb; done)); intro hb; clear hb)))
          exact run_ret idN _ Tryd.func15 ⟨_, _, rfl, rfl, rfl⟩ rfl trivial trivial rfl
        · (repeat (first | (apply v_idxL; exact slA rfl; exact tyA rfl; exact rfl; exact rfl; exact rfl; exact rfl; exact (by omega); (first | exact hn'); exact rfl) | (apply v_move; exact rfl; exact rfl) | (apply v_loadA; exact tyA rfl; exact rfl; exact rfl; exact rfl; exact rfl; exact rfl; exact rfl) | (apply v_on; exact rfl) | (apply v_pick_f; exact rfl; exact rfl; exact rfl) | (apply v_gtr; exact rfl; exact rfl; exact rfl)))
          refine v_is 34 false rfl (by simpa using h1) ?_
          by_cases h3 : numM x.code ≤ (i : Int)
          · by_cases h4 : n = 0
            · subst h4
              (repeat (first | (apply v_cx; exact rfl; exact cbA rfl; (first | exact hnum); exact rfl; exact rfl) | (apply v_move; exact rfl; exact rfl) | (apply v_fldP; exact flA rfl; exact rfl; exact rfl; exact rfl) | (apply v_loadB; exact tyA rfl; exact rfl; exact rfl; exact rfl; exact rfl; exact rfl; exact rfl) | (apply v_on; exact rfl) | (apply v_geq; exact rfl; exact rfl; exact rfl)))
              refine v_is 40 true rfl (by simpa using h3) ?_
              (repeat (first | (apply v_idxL; exact slA rfl; exact tyA rfl; exact rfl; exact rfl; exact rfl; exact rfl; exact (by omega); (first | exact hn'); exact rfl) | (apply v_move; exact rfl; exact rfl) | (apply v_assign; exact rfl; exact rfl) | refine run_region ?_ | refine runL_nil ?_ | refine run_skip ?_ | refine run_inBlock ?_ | (apply v_loadA; exact tyA rfl; exact rfl; exact rfl; exact rfl; exact rfl; exact rfl; exact rfl) | (apply v_on; exact rfl) | (apply v_pick_t; exact rfl; exact rfl; exact rfl) | (apply v_pick_f; exact rfl; exact rfl; exact rfl) | (apply run_cond; exact rfl; (focus (intro hb; cases hb; done)); intro hb; clear hb) | (apply v_neq; exact rfl; exact rfl; exact rfl) | (apply v_add; exact rfl; exact rfl; exact rfl; exact (by omega))))
              exact v_again ih (i + 1) idN trivial (by repeat (first | exact trivial | refine ⟨rfl, ?_⟩)) (by repeat (first | exact trivial | refine ⟨rfl, ?_⟩)) rfl ⟨by omega, hst.trans (by rw [ho]; simp [okN])⟩ (by omega)
            · have hbad := hfin (.inr (.inr ⟨h3, h4⟩))
              rw [rightO_bad hbad]
              (repeat (first | (apply v_cx; exact rfl; exact cbA rfl; (first | exact hnum); exact rfl; exact rfl) | (apply v_move; exact rfl; exact rfl) | (apply v_fldP; exact flA rfl; exact rfl; exact rfl; exact rfl) | (apply v_loadB; exact tyA rfl; exact rfl; exact rfl; exact rfl; exact rfl; exact rfl; exact rfl) | (apply v_on; exact rfl) | (apply v_geq; exact rfl; exact rfl; exact rfl)))
              refine v_is 40 true rfl (by simpa using h3) ?_
              (repeat (first | (apply v_idxL; exact slA rfl; exact tyA rfl; exact rfl; exact rfl; exact rfl; exact rfl; exact (by omega); (first | exact hn'); exact rfl) | (apply v_move; exact rfl; exact rfl) | refine runL_nil ?_ | (apply v_loadA; exact tyA rfl; exact rfl; exact rfl; exact rfl; exact rfl; exact rfl; exact rfl) | (apply v_on; exact rfl) | (apply v_pick_t; exact rfl; exact rfl; exact rfl) | (apply v_pick_f; exact rfl; exact rfl; exact rfl) | (apply v_neq; exact rfl; exact rfl; exact rfl)))
              refine run_condY rfl (by simpa using h4) ?_
              (repeat (first | (apply v_assign; exact rfl; exact rfl) | refine run_seq ?_ | refine run_region ?_ | refine runL_nil ?_))
              exact run_ret idN _ Tryd.func15 ⟨_, _, rfl, rfl, rfl⟩ rfl trivial trivial rfl
          · (repeat (first | (apply v_cx; exact rfl; exact cbA rfl; (first | exact hnum); exact rfl; exact rfl) | (apply v_move; exact rfl; exact rfl) | (apply v_fldP; exact flA rfl; exact rfl; exact rfl; exact rfl) | (apply v_loadB; exact tyA rfl; exact rfl; exact rfl; exact rfl; exact rfl; exact rfl; exact rfl) | (apply v_on; exact rfl) | (apply v_geq; exact rfl; exact rfl; exact rfl)))
            refine v_is 40 false rfl (by simpa using h3) ?_
            (repeat (first | (apply v_move; exact rfl; exact rfl) | (apply v_assign; exact rfl; exact rfl) | refine run_region ?_ | refine runL_nil ?_ | refine run_skip ?_ | refine run_inBlock ?_ | (apply v_on; exact rfl) | (apply v_off; exact rfl; exact rfl) | (apply v_pick_f; exact rfl; exact rfl; exact rfl) | (apply run_cond; exact rfl; (focus (intro hb; cases hb; done)); intro hb; clear hb) | (apply v_add; exact rfl; exact rfl; exact rfl; exact (by omega))))
            exact v_again ih (i + 1) idN trivial (by repeat (first | exact trivial | refine ⟨rfl, ?_⟩)) (by repeat (first | exact trivial | refine ⟨rfl, ?_⟩)) rfl ⟨by omega, hst.trans (by rw [ho]; simp only [okN, Bool.true_and]; rw [decide_eq_true (show n ≤ 1000000 by omega), decide_eq_true (show -1000000 ≤ n by omega), decide_eq_true (show (i : Int) < numM x.code by omega)]; rfl)⟩ (by omega)
    · have hge : i = 4 := by have : (4 : Int) ≤ (i : Int) := (by simpa using hb); omega
      subst hge
      clear ih
      rw [rightO, codeB_of hc.1 hc.2, ho, sB, Bool.and_true, Bool.true_and]
      by_cases he : x.s = ⟨#[]⟩
      · rw [decide_eq_true he, Bool.true_or]
        (repeat (first | (apply v_move; exact rfl; exact rfl) | refine run_seq ?_ | refine run_region ?_ | (apply run_exit; exact rfl) | (apply v_fldP; exact flA rfl; exact rfl; exact rfl; exact rfl) | (apply v_loadB; exact tyA rfl; exact rfl; exact rfl; exact rfl; exact rfl; exact rfl; exact rfl) | (apply v_eqlS; exact rfl; exact rfl; exact rfl)))
        refine v_is 51 true rfl (by simpa using he) ?_
        (repeat (first | (apply v_assign; exact rfl; exact rfl) | refine runL_nil ?_ | (apply v_off; exact rfl; exact rfl) | (apply v_pick_t; exact rfl; exact rfl; exact rfl)))
        exact run_ret idN _ Tryd.func15 ⟨_, _, rfl, rfl, rfl⟩ rfl trivial trivial rfl
      · rw [decide_eq_false he, Bool.false_or]
        (repeat (first | (apply v_move; exact rfl; exact rfl) | refine run_seq ?_ | refine run_region ?_ | (apply run_exit; exact rfl) | (apply v_fldP; exact flA rfl; exact rfl; exact rfl; exact rfl) | (apply v_loadB; exact tyA rfl; exact rfl; exact rfl; exact rfl; exact rfl; exact rfl; exact rfl) | (apply v_eqlS; exact rfl; exact rfl; exact rfl)))
        refine v_is 51 false rfl (by simpa using he) ?_
        cases hw1 : worM x.code with
        | false =>
          rw [hw1] at hwor
          (repeat (first | (apply v_cx; exact rfl; exact cbA rfl; (first | exact hwor); exact rfl; exact rfl) | (apply v_move; exact rfl; exact rfl) | (apply v_assign; exact rfl; exact rfl) | refine runL_nil ?_ | (apply v_fldP; exact flA rfl; exact rfl; exact rfl; exact rfl) | (apply v_loadB; exact tyA rfl; exact rfl; exact rfl; exact rfl; exact rfl; exact rfl; exact rfl) | (apply v_on; exact rfl) | (apply v_off; exact rfl; exact rfl) | (apply v_pick_f; exact rfl; exact rfl; exact rfl)))
          exact run_ret idN _ Tryd.func15 ⟨_, _, rfl, rfl, rfl⟩ rfl trivial trivial rfl
        | true =>
          rw [hw1] at hwor
          rw [Bool.true_and]
          (repeat (first | (apply v_cx; exact rfl; exact cbA rfl; (first | exact hwor | exact hwd); exact rfl; exact rfl) | (apply v_move; exact rfl; exact rfl) | (apply v_assign; exact rfl; exact rfl) | refine runL_nil ?_ | (apply v_fldP; exact flA rfl; exact rfl; exact rfl; exact rfl) | (apply v_loadB; exact tyA rfl; exact rfl; exact rfl; exact rfl; exact rfl; exact rfl; exact rfl) | (apply v_on; exact rfl) | (apply v_pick_t; exact rfl; exact rfl; exact rfl) | (apply v_pick_f; exact rfl; exact rfl; exact rfl)))
          exact run_ret idN _ Tryd.func15 ⟨_, _, rfl, rfl, rfl⟩ rfl trivial trivial rfl
  · have hn := (name_out hc).arg (l' := [.sem (codeS x.code)]) ⟨codeS_le x.code, trivial⟩
    rw [show rightO x = false by
      rw [rightO, codeB]
      by_cases h : 1 ≤ x.code
      · rw [decide_eq_false (show ¬ x.code < 18 by omega)]; simp
      · rw [decide_eq_false h]; simp]
    refine fun_intro 61 Tryd.func15 rfl rfl rfl (fun ι F S w => ?_)
    (repeat (first | (apply v_cx; exact rfl; exact cbA rfl; (first | exact hn); exact rfl; exact rfl) | (apply v_assign; exact rfl; exact rfl) | refine run_seq ?_ | refine run_region ?_ | refine runL_nil ?_ | (apply v_fldP; exact flA rfl; exact rfl; exact rfl; exact rfl) | (apply v_loadB; exact tyA rfl; exact rfl; exact rfl; exact rfl; exact rfl; exact rfl; exact rfl) | (apply run_cond; exact rfl; rotate_left; (focus (intro hb; cases hb; done)); intro hb; clear hb) | (apply v_boxD; exact rfl; exact rfl; exact rfl; exact rfl; exact rfl; exact rfl; exact rfl) | (apply v_eqlS; exact rfl; exact rfl; exact rfl)))
    exact run_ret idN _ Tryd.func15 ⟨_, _, rfl, rfl, rfl⟩ rfl trivial trivial rfl
end Go.Proofs.YtpmeffdcbjakoaaDoor
