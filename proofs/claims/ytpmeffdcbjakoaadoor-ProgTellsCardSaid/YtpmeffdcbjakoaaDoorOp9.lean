/- ref20.Check; prog.Call; Clone. -/
import Derived.Test.YtpmeffdcbjakoaaDoorOp8
namespace Go.Proofs.YtpmeffdcbjakoaaDoor
set_option linter.unusedVariables false
set_option linter.unusedSimpArgs false
set_option maxRecDepth 100000
open Go.RowKit

theorem check20_f {main : List OpD} {calls : List (List OpD)} (hc : calls.length ≤ 100 → countM main calls ≤ 9223372036854775807) (hl : calls.length ≤ 9223372036854775807) (hm : OpsOk main) (hcs : ∀ l ∈ calls, OpsOk l) : Fun Tryd.prog 8 [progA main calls] [] (.tup [.v (.int .i64 (checkM main calls).1), .v (.int .i64 (checkM main calls).2.1), .v (.int .i64 (checkM main calls).2.2)]) [] := by
  by_cases h1 : 64 < calls.length
  · rw [show checkM main calls = (0, 0, 9) by rw [checkM, if_pos (.inl h1)]]
    refine fun_intro 48 Tryd.func8 rfl rfl rfl (fun ι F S w => ?_)
    (repeat (first | (apply v_move; exact rfl; exact rfl) | (apply v_assign; exact rfl; exact rfl) | refine run_seq ?_ | refine run_region ?_ | refine runL_nil ?_ | (apply v_fldP; exact flA rfl; exact rfl; exact rfl; exact rfl) | (apply v_loadB; exact tyA rfl; exact rfl; exact rfl; exact rfl; exact rfl; exact rfl; exact rfl) | (apply v_gtr; exact rfl; exact rfl; exact rfl) | (apply v_lenL; exact slA rfl; exact rfl; exact rfl) | (apply v_boxD; exact rfl; exact rfl; exact rfl; exact rfl; exact rfl; exact rfl; exact rfl)))
    refine v_is 12 true rfl (by simp; omega) ?_
    (repeat (first | (apply v_assign; exact rfl; exact rfl) | refine run_seq ?_ | refine run_region ?_ | refine runL_nil ?_ | (apply v_off; exact rfl; exact rfl) | (apply v_pick_t; exact rfl; exact rfl; exact rfl) | (apply run_cond; exact rfl; rotate_left; (focus (intro hb; cases hb; done)); intro hb; clear hb)))
    exact run_ret idN _ Tryd.func8 ⟨_, _, rfl, rfl, _, _, rfl, rfl, _, _, rfl, rfl, rfl⟩ rfl trivial trivial rfl
  · have hcf := count20_f (hc (by omega)) hl
    by_cases h2 : 4096 < countM main calls
    · rw [show checkM main calls = (0, 0, 9) by rw [checkM, if_pos (.inr h2)]]
      refine fun_intro 48 Tryd.func8 rfl rfl rfl (fun ι F S w => ?_)
      (repeat (first | (apply v_move; exact rfl; exact rfl) | (apply v_assign; exact rfl; exact rfl) | refine run_seq ?_ | refine run_region ?_ | refine runL_nil ?_ | (apply v_fldP; exact flA rfl; exact rfl; exact rfl; exact rfl) | (apply v_loadB; exact tyA rfl; exact rfl; exact rfl; exact rfl; exact rfl; exact rfl; exact rfl) | (apply v_gtr; exact rfl; exact rfl; exact rfl) | (apply v_lenL; exact slA rfl; exact rfl; exact rfl) | (apply v_boxD; exact rfl; exact rfl; exact rfl; exact rfl; exact rfl; exact rfl; exact rfl)))
      refine v_is 12 false rfl (by simp; omega) ?_
      (repeat (first | (apply v_cx; exact rfl; exact cbA rfl; (first | exact hcf); exact rfl; exact rfl) | refine runL_nil ?_ | (apply v_loadB; exact tyA rfl; exact rfl; exact rfl; exact rfl; exact rfl; exact rfl; exact rfl) | (apply v_on; exact rfl) | (apply v_pick_f; exact rfl; exact rfl; exact rfl) | (apply v_gtr; exact rfl; exact rfl; exact rfl)))
      refine run_condY rfl (by simp; omega) ?_
      (repeat (first | (apply v_assign; exact rfl; exact rfl) | refine run_seq ?_ | refine run_region ?_ | refine runL_nil ?_))
      exact run_ret idN _ Tryd.func8 ⟨_, _, rfl, rfl, _, _, rfl, rfl, _, _, rfl, rfl, rfl⟩ rfl trivial trivial rfl
    · obtain ⟨R, hR⟩ : ∃ R, checkM main calls = R := ⟨_, rfl⟩
      have hgo : R = goC (main :: calls) (-1) := by
        rw [← hR, checkM, if_neg (by omega), goC]
        rfl
      rw [hR]
      clear hR
      refine fun_intro 48 Tryd.func8 rfl rfl rfl (fun ι F S w => ?_)
      (repeat (first | (apply v_move; exact rfl; exact rfl) | (apply v_assign; exact rfl; exact rfl) | refine run_seq ?_ | refine run_region ?_ | refine runL_nil ?_ | (apply v_fldP; exact flA rfl; exact rfl; exact rfl; exact rfl) | (apply v_loadB; exact tyA rfl; exact rfl; exact rfl; exact rfl; exact rfl; exact rfl; exact rfl) | (apply v_gtr; exact rfl; exact rfl; exact rfl) | (apply v_lenL; exact slA rfl; exact rfl; exact rfl) | (apply v_boxD; exact rfl; exact rfl; exact rfl; exact rfl; exact rfl; exact rfl; exact rfl)))
      refine v_is 12 false rfl (by simp; omega) ?_
      (repeat (first | (apply v_cx; exact rfl; exact cbA rfl; (first | exact hcf); exact rfl; exact rfl) | refine runL_nil ?_ | (apply v_loadB; exact tyA rfl; exact rfl; exact rfl; exact rfl; exact rfl; exact rfl; exact rfl) | (apply v_on; exact rfl) | (apply v_pick_f; exact rfl; exact rfl; exact rfl) | (apply v_gtr; exact rfl; exact rfl; exact rfl)))
      refine run_condN rfl (by simp; omega) ?_
      (repeat (first | (apply v_assign; exact rfl; exact rfl) | refine run_seq ?_ | refine run_region ?_ | refine runL_nil ?_ | refine run_skip ?_ | refine run_block ?_))
      refine v_loop (fun c : Nat => ⟨[(1, .ptr 1 0), (5, .v (.int .i64 c))], [(1, .box 25 [.sem (listS opE main), .sem (listS callE calls)])]⟩) (fun c => c ≤ calls.length + 1 ∧ R = goC ((main :: calls).drop c) ((c : Int) - 1)) (fun c => calls.length + 1 - c) 0 idN trivial (by repeat (first | exact trivial | refine ⟨rfl, ?_⟩)) (by repeat (first | exact trivial | refine ⟨rfl, ?_⟩)) rfl ⟨by omega, hgo⟩ fun c ⟨hcl, hg⟩ ih => ?_
      (repeat (first | (apply v_move; exact rfl; exact rfl) | refine run_seq ?_ | refine run_region ?_ | refine runL_nil ?_ | (apply v_fldP; exact flA rfl; exact rfl; exact rfl; exact rfl) | (apply v_loadB; exact tyA rfl; exact rfl; exact rfl; exact rfl; exact rfl; exact rfl; exact rfl) | (apply v_leq; exact rfl; exact rfl; exact rfl) | (apply v_lenL; exact slA rfl; exact rfl; exact rfl)))
      refine run_cond rfl (fun hb => ?_) (fun hb => ?_)
      · have hle : c ≤ calls.length := by have : (c : Int) ≤ (calls.length : Int) := (by simpa using hb); omega
        obtain ⟨l, hx⟩ : ∃ l, (main :: calls)[c]? = some l := ⟨_, List.getElem?_eq_getElem (show c < (main :: calls).length by simp; omega)⟩
        have hd : (main :: calls).drop c = l :: (main :: calls).drop (c + 1) := by
          rw [List.drop_eq_getElem_cons (show c < (main :: calls).length by simp; omega)]
          congr 1
          exact (List.getElem?_eq_some_iff.1 hx).2
        have hok : OpsOk l := by
          cases c with
          | zero => simp at hx; rw [← hx]; exact hm
          | succ c => simp at hx; exact hcs l (List.mem_of_getElem? hx)
        rw [hd, goC, show (c : Int) - 1 + 1 = c by omega] at hg
        have hll := hok.1
        by_cases h0 : c = 0
        · subst h0
          have hx0 : l = main := by simp at hx; exact hx.symm
          subst hx0
          (repeat (first | (apply v_move; exact rfl; exact rfl) | (apply v_assign; exact rfl; exact rfl) | refine run_seq ?_ | refine run_region ?_ | refine runL_nil ?_ | refine run_skip ?_ | refine run_block ?_ | (apply v_fldP; exact flA rfl; exact rfl; exact rfl; exact rfl) | (apply v_loadB; exact tyA rfl; exact rfl; exact rfl; exact rfl; exact rfl; exact rfl; exact rfl) | (apply run_cond; exact rfl; (focus (intro hb; cases hb; done)); intro hb; clear hb) | (apply v_gtr; exact rfl; exact rfl; exact rfl)))
          refine v_loop (fun i : Nat => ⟨[(1, .ptr 1 0), (5, .v (.int .i64 0)), (6, .sem (listS opE l)), (7, .v (.int .i64 i))], [(1, .box 25 [.sem (listS opE l), .sem (listS callE calls)])]⟩) (fun i => i ≤ l.length ∧ ∀ x ∈ l.take i, notR x = false) (fun i => l.length - i) 0 idN trivial (by repeat (first | exact trivial | refine ⟨rfl, ?_⟩)) (by repeat (first | exact trivial | refine ⟨rfl, ?_⟩)) rfl ⟨by omega, fun x hx => by simp at hx⟩ fun i ⟨hi, hp⟩ ih2 => ?_
          (repeat (first | (apply v_move; exact rfl; exact rfl) | refine run_seq ?_ | refine run_region ?_ | refine runL_nil ?_ | (apply v_lss; exact rfl; exact rfl; exact rfl) | (apply v_lenL; exact slA rfl; exact rfl; exact rfl)))
          refine run_cond rfl (fun hb2 => ?_) (fun hb2 => ?_)
          · have hlt : i < l.length := by simpa using hb2
            obtain ⟨x, hxi⟩ : ∃ x, l[i]? = some x := ⟨_, List.getElem?_eq_getElem hlt⟩
            have hxi2 : l[((i : Int)).toNat]? = some x := by rw [show ((i : Int)).toNat = i by omega]; exact hxi
            have hr := right19_f (hok.2 x (List.mem_of_getElem? hxi))
            have hst : l.take (i + 1) = l.take i ++ [x] := by rw [List.take_add_one, hxi]; rfl
            have hbad : notR x = true → wrongM l = (i : Int) := fun h => idxG_at hxi h hp
            obtain ⟨u, hu⟩ : ∃ u, rightO x = u := ⟨_, rfl⟩
            rw [hu] at hr
            cases u with
            | true =>
              (repeat (first | (apply v_idxL; exact slA rfl; exact tyA rfl; exact rfl; exact rfl; exact rfl; exact rfl; exact (by omega); (first | exact hxi2); exact rfl) | (apply v_cx; exact rfl; exact cbA rfl; (first | exact hr); exact rfl; exact rfl) | (apply v_move; exact rfl; exact rfl) | (apply v_assign; exact rfl; exact rfl) | refine run_seq ?_ | refine run_region ?_ | refine runL_nil ?_ | refine run_skip ?_ | refine run_block ?_ | refine run_inBlock ?_ | (apply v_loadA; exact tyA rfl; exact rfl; exact rfl; exact rfl; exact rfl; exact rfl; exact rfl) | (apply run_cond; exact rfl; (focus (intro hb; cases hb; done)); intro hb; clear hb) | (apply v_not; exact rfl; exact rfl) | (apply v_add; exact rfl; exact rfl; exact rfl; exact (by omega))))
              exact v_again ih2 (i + 1) idN trivial (by repeat (first | exact trivial | refine ⟨rfl, ?_⟩)) (by repeat (first | exact trivial | refine ⟨rfl, ?_⟩)) rfl ⟨by omega, fun y hy => by
                rw [hst] at hy
                rcases List.mem_append.1 hy with hy | hy
                · exact hp y hy
                · rw [List.mem_singleton] at hy; rw [hy, notR, hu]; rfl⟩ (by omega)
            | false =>
              have hw := hbad (by rw [notR, hu]; rfl)
              rw [hw, if_pos (by omega)] at hg
              rw [hg]
              (repeat (first | (apply v_idxL; exact slA rfl; exact tyA rfl; exact rfl; exact rfl; exact rfl; exact rfl; exact (by omega); (first | exact hxi2); exact rfl) | (apply v_cx; exact rfl; exact cbA rfl; (first | exact hr); exact rfl; exact rfl) | (apply v_move; exact rfl; exact rfl) | (apply v_assign; exact rfl; exact rfl) | refine run_seq ?_ | refine run_region ?_ | refine runL_nil ?_ | refine run_skip ?_ | refine run_block ?_ | (apply v_loadA; exact tyA rfl; exact rfl; exact rfl; exact rfl; exact rfl; exact rfl; exact rfl) | (apply run_cond; exact rfl; rotate_left; (focus (intro hb; cases hb; done)); intro hb; clear hb) | (apply v_not; exact rfl; exact rfl)))
              exact run_ret idN _ Tryd.func8 ⟨_, _, rfl, rfl, _, _, rfl, rfl, _, _, rfl, rfl, rfl⟩ rfl trivial trivial rfl
          · have hge : i = l.length := by have : ¬ i < l.length := (by simpa using hb2); omega
            subst hge
            clear ih2
            rw [List.take_length] at hp
            rw [show wrongM l = -1 from idxG_none hp, if_neg (by omega)] at hg
            (repeat (first | (apply v_move; exact rfl; exact rfl) | (apply v_assign; exact rfl; exact rfl) | refine run_region ?_ | refine runL_nil ?_ | refine run_inBlock ?_ | (apply run_exit; exact rfl) | (apply v_add; exact rfl; exact rfl; exact rfl; exact (by omega))))
            exact v_again ih (0 + 1) idN trivial (by repeat (first | exact trivial | refine ⟨rfl, ?_⟩)) (by repeat (first | exact trivial | refine ⟨rfl, ?_⟩)) rfl ⟨by omega, hg.trans (by first | (congr 1; done) | (congr 1; omega))⟩ (by omega)
        · obtain ⟨c', rfl⟩ : ∃ c', c = c' + 1 := ⟨c - 1, by omega⟩
          have hx1 : calls[(((c' + 1 : Nat) : Int) - 1).toNat]? = some l := by
            rw [show (((c' + 1 : Nat) : Int) - 1).toNat = c' by omega]
            simpa using hx
          (repeat (first | (apply v_move; exact rfl; exact rfl) | (apply v_assign; exact rfl; exact rfl) | refine run_seq ?_ | refine run_region ?_ | refine runL_nil ?_ | refine run_skip ?_ | refine run_block ?_ | (apply v_fldP; exact flA rfl; exact rfl; exact rfl; exact rfl) | (apply v_loadB; exact tyA rfl; exact rfl; exact rfl; exact rfl; exact rfl; exact rfl; exact rfl) | (apply v_gtr; exact rfl; exact rfl; exact rfl)))
          refine run_condY rfl (by simp) ?_
          (repeat (first | (apply v_idxL; exact slA rfl; exact tyA rfl; exact rfl; exact rfl; exact rfl; exact rfl; exact (by omega); (first | exact hx1); exact rfl) | (apply v_move; exact rfl; exact rfl) | (apply v_assign; exact rfl; exact rfl) | refine run_seq ?_ | refine run_region ?_ | refine runL_nil ?_ | refine run_block ?_ | (apply v_fldP; exact flA rfl; exact rfl; exact rfl; exact rfl) | (apply v_loadB; exact tyA rfl; exact rfl; exact rfl; exact rfl; exact rfl; exact rfl; exact rfl) | (apply v_loadA; exact tyA rfl; exact rfl; exact rfl; exact rfl; exact rfl; exact rfl; exact rfl) | (apply v_sub; exact rfl; exact rfl; exact rfl; exact (by omega))))
          refine v_loop (fun i : Nat => ⟨[(1, .ptr 1 0), (5, .v (.int .i64 ((c' + 1 : Nat) : Int))), (6, .sem (listS opE l)), (7, .v (.int .i64 i))], [(1, .box 25 [.sem (listS opE main), .sem (listS callE calls)])]⟩) (fun i => i ≤ l.length ∧ ∀ x ∈ l.take i, notR x = false) (fun i => l.length - i) 0 idN trivial (by repeat (first | exact trivial | refine ⟨rfl, ?_⟩)) (by repeat (first | exact trivial | refine ⟨rfl, ?_⟩)) rfl ⟨by omega, fun x hx => by simp at hx⟩ fun i ⟨hi, hp⟩ ih2 => ?_
          (repeat (first | (apply v_move; exact rfl; exact rfl) | refine run_seq ?_ | refine run_region ?_ | refine runL_nil ?_ | (apply v_lss; exact rfl; exact rfl; exact rfl) | (apply v_lenL; exact slA rfl; exact rfl; exact rfl)))
          refine run_cond rfl (fun hb2 => ?_) (fun hb2 => ?_)
          · have hlt : i < l.length := by simpa using hb2
            obtain ⟨x, hxi⟩ : ∃ x, l[i]? = some x := ⟨_, List.getElem?_eq_getElem hlt⟩
            have hxi2 : l[((i : Int)).toNat]? = some x := by rw [show ((i : Int)).toNat = i by omega]; exact hxi
            have hr := right19_f (hok.2 x (List.mem_of_getElem? hxi))
            have hst : l.take (i + 1) = l.take i ++ [x] := by rw [List.take_add_one, hxi]; rfl
            have hbad : notR x = true → wrongM l = (i : Int) := fun h => idxG_at hxi h hp
            obtain ⟨u, hu⟩ : ∃ u, rightO x = u := ⟨_, rfl⟩
            rw [hu] at hr
            cases u with
            | true =>
              (repeat (first | (apply v_idxL; exact slA rfl; exact tyA rfl; exact rfl; exact rfl; exact rfl; exact rfl; exact (by omega); (first | exact hxi2); exact rfl) | (apply v_cx; exact rfl; exact cbA rfl; (first | exact hr); exact rfl; exact rfl) | (apply v_move; exact rfl; exact rfl) | (apply v_assign; exact rfl; exact rfl) | refine run_seq ?_ | refine run_region ?_ | refine runL_nil ?_ | refine run_skip ?_ | refine run_block ?_ | refine run_inBlock ?_ | (apply v_loadA; exact tyA rfl; exact rfl; exact rfl; exact rfl; exact rfl; exact rfl; exact rfl) | (apply run_cond; exact rfl; (focus (intro hb; cases hb; done)); intro hb; clear hb) | (apply v_not; exact rfl; exact rfl) | (apply v_add; exact rfl; exact rfl; exact rfl; exact (by omega))))
              exact v_again ih2 (i + 1) idN trivial (by repeat (first | exact trivial | refine ⟨rfl, ?_⟩)) (by repeat (first | exact trivial | refine ⟨rfl, ?_⟩)) rfl ⟨by omega, fun y hy => by
                rw [hst] at hy
                rcases List.mem_append.1 hy with hy | hy
                · exact hp y hy
                · rw [List.mem_singleton] at hy; rw [hy, notR, hu]; rfl⟩ (by omega)
            | false =>
              have hw := hbad (by rw [notR, hu]; rfl)
              rw [hw, if_pos (by omega)] at hg
              rw [hg]
              (repeat (first | (apply v_idxL; exact slA rfl; exact tyA rfl; exact rfl; exact rfl; exact rfl; exact rfl; exact (by omega); (first | exact hxi2); exact rfl) | (apply v_cx; exact rfl; exact cbA rfl; (first | exact hr); exact rfl; exact rfl) | (apply v_move; exact rfl; exact rfl) | (apply v_assign; exact rfl; exact rfl) | refine run_seq ?_ | refine run_region ?_ | refine runL_nil ?_ | refine run_skip ?_ | refine run_block ?_ | (apply v_loadA; exact tyA rfl; exact rfl; exact rfl; exact rfl; exact rfl; exact rfl; exact rfl) | (apply run_cond; exact rfl; rotate_left; (focus (intro hb; cases hb; done)); intro hb; clear hb) | (apply v_not; exact rfl; exact rfl)))
              exact run_ret idN _ Tryd.func8 ⟨_, _, rfl, rfl, _, _, rfl, rfl, _, _, rfl, rfl, rfl⟩ rfl trivial trivial rfl
          · have hge : i = l.length := by have : ¬ i < l.length := (by simpa using hb2); omega
            subst hge
            clear ih2
            rw [List.take_length] at hp
            rw [show wrongM l = -1 from idxG_none hp, if_neg (by omega)] at hg
            (repeat (first | (apply v_move; exact rfl; exact rfl) | (apply v_assign; exact rfl; exact rfl) | refine run_region ?_ | refine runL_nil ?_ | refine run_inBlock ?_ | (apply run_exit; exact rfl) | (apply v_add; exact rfl; exact rfl; exact rfl; exact (by omega))))
            exact v_again ih (c' + 1 + 1) idN trivial (by repeat (first | exact trivial | refine ⟨rfl, ?_⟩)) (by repeat (first | exact trivial | refine ⟨rfl, ?_⟩)) rfl ⟨by omega, hg.trans (by first | (congr 1; done) | (congr 1; omega))⟩ (by omega)
      · have hge : c = calls.length + 1 := by have : (calls.length : Int) < (c : Int) := (by simpa using hb); omega
        subst hge
        rw [show (main :: calls).drop (calls.length + 1) = [] from List.drop_length (l := main :: calls), goC] at hg
        rw [hg]
        clear ih
        (repeat (first | (apply v_assign; exact rfl; exact rfl) | refine run_seq ?_ | refine run_region ?_ | refine runL_nil ?_ | (apply run_exit; exact rfl)))
        exact run_ret idN _ Tryd.func8 ⟨_, _, rfl, rfl, _, _, rfl, rfl, _, _, rfl, rfl, rfl⟩ rfl trivial trivial rfl
end Go.Proofs.YtpmeffdcbjakoaaDoor
