/- op.Right. -/
import Derived.Test.YtpmeffdcbjakoaaDoorOp1
import Derived.Test.YtpmeffdcbjakoaaDoorWord
namespace Go.Proofs.YtpmeffdcbjakoaaDoor
set_option linter.unusedVariables false
set_option linter.unusedSimpArgs false
set_option maxRecDepth 100000
open Go.RowKit

theorem right_w {s : ByteArray} (hs : s.size ≤ 9223372036854775807) : Fun Tryd.prog 27 [.v (.string s)] [] (.v (.bool (wordB s))) [] := fun_of_calls (l := [.string s]) fun w => word_right s w hs
/-- One of the four is right, of an operation of k numbers. -/
def okN (k : Int) (i : Nat) (n : Int) : Bool := decide (n ≤ 1000000) && (decide (-1000000 ≤ n) && (decide ((i : Int) < k) || decide (n = 0)))
def okTo (x : OpD) : Nat → Bool
  | 0 => true
  | i + 1 => okTo x i && (match (fourL x)[i]? with | some n => okN (numM x.code) i n | none => true)
def sB (x : OpD) : Bool := decide (x.s = ⟨#[]⟩) || (worM x.code && wordB x.s)
def rightO (x : OpD) : Bool := codeB x.code && (sB x && okTo x 4)
theorem okTo_succ {x : OpD} {i : Nat} {n : Int} (h : (fourL x)[i]? = some n) : okTo x (i + 1) = (okTo x i && okN (numM x.code) i n) := by
  rw [okTo, h]
theorem okTo_le {x : OpD} : ∀ {i j : Nat}, i ≤ j → okTo x i = false → okTo x j = false
  | i, 0, h, h0 => by rw [show i = 0 by omega] at h0; exact h0
  | i, j + 1, h, h0 => by
    rcases Nat.lt_or_ge i (j + 1) with hl | hl
    · rw [okTo, okTo_le (by omega) h0, Bool.false_and]
    · rw [show j + 1 = i by omega]; exact h0
theorem okTo_false {x : OpD} {i : Nat} {n : Int} (hi : i < 4) (h : (fourL x)[i]? = some n) (hb : 1000000 < n ∨ n < -1000000 ∨ (numM x.code ≤ (i : Int) ∧ n ≠ 0)) : okTo x 4 = false := by
  refine okTo_le (i := i + 1) (by omega) ?_
  rw [okTo_succ h]
  have : okN (numM x.code) i n = false := by
    rw [okN]
    rcases hb with h1 | h1 | ⟨h1, h2⟩
    · rw [decide_eq_false (show ¬ n ≤ 1000000 by omega), Bool.false_and]
    · rw [decide_eq_false (show ¬ -1000000 ≤ n by omega), Bool.false_and, Bool.and_false]
    · rw [decide_eq_false (show ¬ (i : Int) < numM x.code by omega), decide_eq_false h2, Bool.or_false, Bool.and_false, Bool.and_false]
  rw [this, Bool.and_false]
theorem rightO_bad {x : OpD} (h : okTo x 4 = false) : rightO x = false := by rw [rightO, h, Bool.and_false, Bool.and_false]
set_option maxHeartbeats 4000000 in
theorem right_o {x : OpD} (hs : x.s.size ≤ 9223372036854775807) : Fun Tryd.prog 20 [.agg (opL x)] [] (.v (.bool (rightO x))) [] := by
  have hth := there_c x.code
  have hli := list_f x
  have hwd := right_w hs
  by_cases hc : 1 ≤ x.code ∧ x.code < 18
  · have hnum := numbers_f hc.1 hc.2
    have hwor := worded_f hc.1 hc.2
    rw [codeB_of hc.1 hc.2] at hth
    by_cases he : x.s = ⟨#[]⟩
    · have hS : sB x = true := by rw [sB, decide_eq_true he, Bool.true_or]
      refine fun_intro 49 Tryd.func20 rfl rfl rfl (fun ι F S w => ?_)
      (repeat (first | (apply v_cx; exact rfl; exact cbA rfl; (first | exact hth); exact rfl; exact rfl) | (apply v_move; exact rfl; exact rfl) | (apply v_assign; exact rfl; exact rfl) | refine run_seq ?_ | refine run_region ?_ | refine runL_nil ?_ | (apply v_fldP; exact flA rfl; exact rfl; exact rfl; exact rfl) | (apply v_loadB; exact tyA rfl; exact rfl; exact rfl; exact rfl; exact rfl; exact rfl; exact rfl) | (apply v_on; exact rfl) | (apply v_not; exact rfl; exact rfl) | (apply v_boxD; exact rfl; exact rfl; exact rfl; exact rfl; exact rfl; exact rfl; exact rfl) | (apply v_neqS; exact rfl; exact rfl; exact rfl)))
      refine v_is 13 false rfl (by simpa using he) ?_
      (repeat (first | (apply v_cx; exact rfl; exact cbA rfl; (first | exact hli); exact rfl; exact rfl) | (apply v_move; exact rfl; exact rfl) | refine run_seq ?_ | refine run_region ?_ | refine runL_nil ?_ | refine run_skip ?_ | refine run_block ?_ | (apply v_loadB; exact tyA rfl; exact rfl; exact rfl; exact rfl; exact rfl; exact rfl; exact rfl) | (apply v_on; exact rfl) | (apply v_off; exact rfl; exact rfl) | (apply v_pick_f; exact rfl; exact rfl; exact rfl) | (apply run_cond; exact rfl; (focus (intro hb; cases hb; done)); intro hb; clear hb)))
      refine v_loop (fun i : Nat => ⟨[(1, .ptr 1 0), (26, .agg ((fourL x).map fun n => .v (.int .i64 n))), (27, .v (.int .i64 i))], [(1, .box 33 (opL x))]⟩) (fun i => i ≤ 4 ∧ okTo x i = true) (fun i => 4 - i) 0 idN trivial (by repeat (first | exact trivial | refine ⟨rfl, ?_⟩)) (by repeat (first | exact trivial | refine ⟨rfl, ?_⟩)) rfl ⟨by omega, rfl⟩ fun i ⟨hi, ho⟩ ih => ?_
      (repeat (first | refine run_seq ?_ | refine run_region ?_ | refine runL_nil ?_ | (apply v_lss; exact rfl; exact rfl; exact rfl)))
      refine run_cond rfl (fun hb => ?_) (fun hb => ?_)
      · have hlt : i < 4 := by have : (i : Int) < 4 := (by simpa using hb); omega
        obtain ⟨n, hn⟩ : ∃ n, (fourL x)[i]? = some n := ⟨_, List.getElem?_eq_getElem (show i < (fourL x).length from hlt)⟩
        have hn' : (fourL x)[((i : Int)).toNat]? = some n := by rw [show ((i : Int)).toNat = i by omega]; exact hn
        have hst := okTo_succ hn
        have hfin := okTo_false (x := x) (i := i) (n := n) hlt hn
        (repeat (first | (apply v_move; exact rfl; exact rfl) | refine run_seq ?_ | refine run_region ?_ | refine run_skip ?_ | refine run_block ?_))
        refine v_four rfl rfl rfl (by omega) hn' rfl ?_
        by_cases h1 : n > 1000000
        · have hbad := hfin (.inl (by omega))
          rw [rightO_bad hbad]
          (repeat (first | (apply v_move; exact rfl; exact rfl) | (apply v_assign; exact rfl; exact rfl) | refine run_seq ?_ | refine run_region ?_ | refine runL_nil ?_ | (apply v_gtr; exact rfl; exact rfl; exact rfl)))
          refine v_is 33 true rfl (by simpa using h1) ?_
          (repeat (first | (apply v_move; exact rfl; exact rfl) | (apply v_assign; exact rfl; exact rfl) | refine run_seq ?_ | refine run_region ?_ | refine runL_nil ?_ | (apply v_off; exact rfl; exact rfl) | (apply v_pick_t; exact rfl; exact rfl; exact rfl) | (apply run_cond; exact rfl; rotate_left; (focus (intro hb; cases hb; done)); intro hb; clear hb)))
          exact run_ret idN _ Tryd.func20 ⟨_, _, rfl, rfl, rfl⟩ rfl trivial trivial rfl
        · (repeat (first | (apply v_move; exact rfl; exact rfl) | (apply v_assign; exact rfl; exact rfl) | refine run_seq ?_ | refine run_region ?_ | refine runL_nil ?_ | (apply v_gtr; exact rfl; exact rfl; exact rfl)))
          refine v_is 33 false rfl (by simpa using h1) ?_
          by_cases h2 : n < -1000000
          · have hbad := hfin (.inr (.inl (by omega)))
            rw [rightO_bad hbad]
            (repeat (first | (apply v_move; exact rfl; exact rfl) | (apply v_on; exact rfl) | (apply v_pick_f; exact rfl; exact rfl; exact rfl) | (apply v_lss; exact rfl; exact rfl; exact rfl)))
            refine v_is 37 true rfl (by simpa using h2) ?_
            (repeat (first | (apply v_assign; exact rfl; exact rfl) | refine run_seq ?_ | refine run_region ?_ | refine runL_nil ?_ | (apply v_off; exact rfl; exact rfl) | (apply v_pick_t; exact rfl; exact rfl; exact rfl) | (apply run_cond; exact rfl; rotate_left; (focus (intro hb; cases hb; done)); intro hb; clear hb)))
            exact run_ret idN _ Tryd.func20 ⟨_, _, rfl, rfl, rfl⟩ rfl trivial trivial rfl
          · (repeat (first | (apply v_move; exact rfl; exact rfl) | (apply v_on; exact rfl) | (apply v_pick_f; exact rfl; exact rfl; exact rfl) | (apply v_lss; exact rfl; exact rfl; exact rfl)))
            refine v_is 37 false rfl (by simpa using h2) ?_
            by_cases h3 : numM x.code ≤ (i : Int)
            · by_cases h4 : n = 0
              · subst h4
                (repeat (first | (apply v_cx; exact rfl; exact cbA rfl; (first | exact hnum); exact rfl; exact rfl) | (apply v_move; exact rfl; exact rfl) | (apply v_fldP; exact flA rfl; exact rfl; exact rfl; exact rfl) | (apply v_loadB; exact tyA rfl; exact rfl; exact rfl; exact rfl; exact rfl; exact rfl; exact rfl) | (apply v_on; exact rfl) | (apply v_geq; exact rfl; exact rfl; exact rfl)))
                refine v_is 43 true rfl (by simpa using h3) ?_
                (repeat (first | (apply v_move; exact rfl; exact rfl) | refine run_region ?_ | refine runL_nil ?_ | refine run_skip ?_ | refine run_inBlock ?_ | (apply v_on; exact rfl) | (apply v_pick_t; exact rfl; exact rfl; exact rfl) | (apply v_pick_f; exact rfl; exact rfl; exact rfl) | (apply run_cond; exact rfl; (focus (intro hb; cases hb; done)); intro hb; clear hb) | (apply v_neq; exact rfl; exact rfl; exact rfl) | (apply v_add; exact rfl; exact rfl; exact rfl; exact (by omega))))
                exact v_again ih (i + 1) idN trivial (by repeat (first | exact trivial | refine ⟨rfl, ?_⟩)) (by repeat (first | exact trivial | refine ⟨rfl, ?_⟩)) rfl ⟨by omega, hst.trans (by rw [ho]; simp [okN])⟩ (by omega)
              · have hbad := hfin (.inr (.inr ⟨h3, h4⟩))
                rw [rightO_bad hbad]
                (repeat (first | (apply v_cx; exact rfl; exact cbA rfl; (first | exact hnum); exact rfl; exact rfl) | (apply v_move; exact rfl; exact rfl) | (apply v_fldP; exact flA rfl; exact rfl; exact rfl; exact rfl) | (apply v_loadB; exact tyA rfl; exact rfl; exact rfl; exact rfl; exact rfl; exact rfl; exact rfl) | (apply v_on; exact rfl) | (apply v_geq; exact rfl; exact rfl; exact rfl)))
                refine v_is 43 true rfl (by simpa using h3) ?_
                (repeat (first | (apply v_move; exact rfl; exact rfl) | refine runL_nil ?_ | (apply v_on; exact rfl) | (apply v_pick_t; exact rfl; exact rfl; exact rfl) | (apply v_pick_f; exact rfl; exact rfl; exact rfl) | (apply v_neq; exact rfl; exact rfl; exact rfl)))
                refine run_condY rfl (by simpa using h4) ?_
                (repeat (first | (apply v_assign; exact rfl; exact rfl) | refine run_seq ?_ | refine run_region ?_ | refine runL_nil ?_))
                exact run_ret idN _ Tryd.func20 ⟨_, _, rfl, rfl, rfl⟩ rfl trivial trivial rfl
            · (repeat (first | (apply v_cx; exact rfl; exact cbA rfl; (first | exact hnum); exact rfl; exact rfl) | (apply v_move; exact rfl; exact rfl) | (apply v_fldP; exact flA rfl; exact rfl; exact rfl; exact rfl) | (apply v_loadB; exact tyA rfl; exact rfl; exact rfl; exact rfl; exact rfl; exact rfl; exact rfl) | (apply v_on; exact rfl) | (apply v_geq; exact rfl; exact rfl; exact rfl)))
              refine v_is 43 false rfl (by simpa using h3) ?_
              (repeat (first | (apply v_move; exact rfl; exact rfl) | refine run_region ?_ | refine runL_nil ?_ | refine run_skip ?_ | refine run_inBlock ?_ | (apply v_on; exact rfl) | (apply v_off; exact rfl; exact rfl) | (apply v_pick_f; exact rfl; exact rfl; exact rfl) | (apply run_cond; exact rfl; (focus (intro hb; cases hb; done)); intro hb; clear hb) | (apply v_add; exact rfl; exact rfl; exact rfl; exact (by omega))))
              exact v_again ih (i + 1) idN trivial (by repeat (first | exact trivial | refine ⟨rfl, ?_⟩)) (by repeat (first | exact trivial | refine ⟨rfl, ?_⟩)) rfl ⟨by omega, hst.trans (by rw [ho]; simp only [okN, Bool.true_and]; rw [decide_eq_true (show n ≤ 1000000 by omega), decide_eq_true (show -1000000 ≤ n by omega), decide_eq_true (show (i : Int) < numM x.code by omega)]; rfl)⟩ (by omega)
      · have hge : i = 4 := by have : (4 : Int) ≤ (i : Int) := (by simpa using hb); omega
        subst hge
        clear ih
        rw [rightO, codeB_of hc.1 hc.2, hS, ho]
        (repeat (first | (apply v_assign; exact rfl; exact rfl) | refine run_seq ?_ | refine run_region ?_ | refine runL_nil ?_ | (apply run_exit; exact rfl)))
        exact run_ret idN _ Tryd.func20 ⟨_, _, rfl, rfl, rfl⟩ rfl trivial trivial rfl
    · cases hw1 : worM x.code with
      | false =>
        rw [hw1] at hwor
        rw [show rightO x = false by rw [rightO, sB, decide_eq_false he, hw1]; simp]
        refine fun_intro 49 Tryd.func20 rfl rfl rfl (fun ι F S w => ?_)
        (repeat (first | (apply v_cx; exact rfl; exact cbA rfl; (first | exact hth); exact rfl; exact rfl) | (apply v_move; exact rfl; exact rfl) | (apply v_assign; exact rfl; exact rfl) | refine run_seq ?_ | refine run_region ?_ | refine runL_nil ?_ | (apply v_fldP; exact flA rfl; exact rfl; exact rfl; exact rfl) | (apply v_loadB; exact tyA rfl; exact rfl; exact rfl; exact rfl; exact rfl; exact rfl; exact rfl) | (apply v_on; exact rfl) | (apply v_not; exact rfl; exact rfl) | (apply v_boxD; exact rfl; exact rfl; exact rfl; exact rfl; exact rfl; exact rfl; exact rfl) | (apply v_neqS; exact rfl; exact rfl; exact rfl)))
        refine v_is 13 true rfl (by simpa using he) ?_
        (repeat (first | (apply v_cx; exact rfl; exact cbA rfl; (first | exact hwor); exact rfl; exact rfl) | (apply v_move; exact rfl; exact rfl) | (apply v_assign; exact rfl; exact rfl) | refine run_seq ?_ | refine run_region ?_ | refine runL_nil ?_ | (apply v_fldP; exact flA rfl; exact rfl; exact rfl; exact rfl) | (apply v_loadB; exact tyA rfl; exact rfl; exact rfl; exact rfl; exact rfl; exact rfl; exact rfl) | (apply v_on; exact rfl) | (apply v_off; exact rfl; exact rfl) | (apply v_pick_t; exact rfl; exact rfl; exact rfl) | (apply v_pick_f; exact rfl; exact rfl; exact rfl) | (apply run_cond; exact rfl; rotate_left; (focus (intro hb; cases hb; done)); intro hb; clear hb) | (apply v_not; exact rfl; exact rfl)))
        exact run_ret idN _ Tryd.func20 ⟨_, _, rfl, rfl, rfl⟩ rfl trivial trivial rfl
      | true =>
        rw [hw1] at hwor
        cases hw2 : wordB x.s with
        | false =>
          rw [hw2] at hwd
          rw [show rightO x = false by rw [rightO, sB, decide_eq_false he, hw2]; simp]
          refine fun_intro 49 Tryd.func20 rfl rfl rfl (fun ι F S w => ?_)
          (repeat (first | (apply v_cx; exact rfl; exact cbA rfl; (first | exact hth); exact rfl; exact rfl) | (apply v_move; exact rfl; exact rfl) | (apply v_assign; exact rfl; exact rfl) | refine run_seq ?_ | refine run_region ?_ | refine runL_nil ?_ | (apply v_fldP; exact flA rfl; exact rfl; exact rfl; exact rfl) | (apply v_loadB; exact tyA rfl; exact rfl; exact rfl; exact rfl; exact rfl; exact rfl; exact rfl) | (apply v_on; exact rfl) | (apply v_not; exact rfl; exact rfl) | (apply v_boxD; exact rfl; exact rfl; exact rfl; exact rfl; exact rfl; exact rfl; exact rfl) | (apply v_neqS; exact rfl; exact rfl; exact rfl)))
          refine v_is 13 true rfl (by simpa using he) ?_
          (repeat (first | (apply v_cx; exact rfl; exact cbA rfl; (first | exact hwor | exact hwd); exact rfl; exact rfl) | (apply v_move; exact rfl; exact rfl) | (apply v_assign; exact rfl; exact rfl) | refine run_seq ?_ | refine run_region ?_ | refine runL_nil ?_ | (apply v_fldP; exact flA rfl; exact rfl; exact rfl; exact rfl) | (apply v_loadB; exact tyA rfl; exact rfl; exact rfl; exact rfl; exact rfl; exact rfl; exact rfl) | (apply v_on; exact rfl) | (apply v_pick_t; exact rfl; exact rfl; exact rfl) | (apply v_pick_f; exact rfl; exact rfl; exact rfl) | (apply run_cond; exact rfl; rotate_left; (focus (intro hb; cases hb; done)); intro hb; clear hb) | (apply v_not; exact rfl; exact rfl)))
          exact run_ret idN _ Tryd.func20 ⟨_, _, rfl, rfl, rfl⟩ rfl trivial trivial rfl
        | true =>
          rw [hw2] at hwd
          have hS : sB x = true := by rw [sB, hw1, hw2]; simp
          refine fun_intro 49 Tryd.func20 rfl rfl rfl (fun ι F S w => ?_)
          (repeat (first | (apply v_cx; exact rfl; exact cbA rfl; (first | exact hth); exact rfl; exact rfl) | (apply v_move; exact rfl; exact rfl) | (apply v_assign; exact rfl; exact rfl) | refine run_seq ?_ | refine run_region ?_ | refine runL_nil ?_ | (apply v_fldP; exact flA rfl; exact rfl; exact rfl; exact rfl) | (apply v_loadB; exact tyA rfl; exact rfl; exact rfl; exact rfl; exact rfl; exact rfl; exact rfl) | (apply v_on; exact rfl) | (apply v_not; exact rfl; exact rfl) | (apply v_boxD; exact rfl; exact rfl; exact rfl; exact rfl; exact rfl; exact rfl; exact rfl) | (apply v_neqS; exact rfl; exact rfl; exact rfl)))
          refine v_is 13 true rfl (by simpa using he) ?_
          (repeat (first | (apply v_cx; exact rfl; exact cbA rfl; (first | exact hwor | exact hwd | exact hli); exact rfl; exact rfl) | (apply v_move; exact rfl; exact rfl) | refine run_seq ?_ | refine run_region ?_ | refine runL_nil ?_ | refine run_skip ?_ | refine run_block ?_ | (apply v_fldP; exact flA rfl; exact rfl; exact rfl; exact rfl) | (apply v_loadB; exact tyA rfl; exact rfl; exact rfl; exact rfl; exact rfl; exact rfl; exact rfl) | (apply v_on; exact rfl) | (apply v_pick_t; exact rfl; exact rfl; exact rfl) | (apply v_pick_f; exact rfl; exact rfl; exact rfl) | (apply run_cond; exact rfl; (focus (intro hb; cases hb; done)); intro hb; clear hb) | (apply v_not; exact rfl; exact rfl)))
          refine v_loop (fun i : Nat => ⟨[(1, .ptr 1 0), (26, .agg ((fourL x).map fun n => .v (.int .i64 n))), (27, .v (.int .i64 i))], [(1, .box 33 (opL x))]⟩) (fun i => i ≤ 4 ∧ okTo x i = true) (fun i => 4 - i) 0 idN trivial (by repeat (first | exact trivial | refine ⟨rfl, ?_⟩)) (by repeat (first | exact trivial | refine ⟨rfl, ?_⟩)) rfl ⟨by omega, rfl⟩ fun i ⟨hi, ho⟩ ih => ?_
          (repeat (first | refine run_seq ?_ | refine run_region ?_ | refine runL_nil ?_ | (apply v_lss; exact rfl; exact rfl; exact rfl)))
          refine run_cond rfl (fun hb => ?_) (fun hb => ?_)
          · have hlt : i < 4 := by have : (i : Int) < 4 := (by simpa using hb); omega
            obtain ⟨n, hn⟩ : ∃ n, (fourL x)[i]? = some n := ⟨_, List.getElem?_eq_getElem (show i < (fourL x).length from hlt)⟩
            have hn' : (fourL x)[((i : Int)).toNat]? = some n := by rw [show ((i : Int)).toNat = i by omega]; exact hn
            have hst := okTo_succ hn
            have hfin := okTo_false (x := x) (i := i) (n := n) hlt hn
            (repeat (first | (apply v_move; exact rfl; exact rfl) | refine run_seq ?_ | refine run_region ?_ | refine run_skip ?_ | refine run_block ?_))
            refine v_four rfl rfl rfl (by omega) hn' rfl ?_
            by_cases h1 : n > 1000000
            · have hbad := hfin (.inl (by omega))
              rw [rightO_bad hbad]
              (repeat (first | (apply v_move; exact rfl; exact rfl) | (apply v_assign; exact rfl; exact rfl) | refine run_seq ?_ | refine run_region ?_ | refine runL_nil ?_ | (apply v_gtr; exact rfl; exact rfl; exact rfl)))
              refine v_is 33 true rfl (by simpa using h1) ?_
              (repeat (first | (apply v_move; exact rfl; exact rfl) | (apply v_assign; exact rfl; exact rfl) | refine run_seq ?_ | refine run_region ?_ | refine runL_nil ?_ | (apply v_off; exact rfl; exact rfl) | (apply v_pick_t; exact rfl; exact rfl; exact rfl) | (apply run_cond; exact rfl; rotate_left; (focus (intro hb; cases hb; done)); intro hb; clear hb)))
              exact run_ret idN _ Tryd.func20 ⟨_, _, rfl, rfl, rfl⟩ rfl trivial trivial rfl
            · (repeat (first | (apply v_move; exact rfl; exact rfl) | (apply v_assign; exact rfl; exact rfl) | refine run_seq ?_ | refine run_region ?_ | refine runL_nil ?_ | (apply v_gtr; exact rfl; exact rfl; exact rfl)))
              refine v_is 33 false rfl (by simpa using h1) ?_
              by_cases h2 : n < -1000000
              · have hbad := hfin (.inr (.inl (by omega)))
                rw [rightO_bad hbad]
                (repeat (first | (apply v_move; exact rfl; exact rfl) | (apply v_on; exact rfl) | (apply v_pick_f; exact rfl; exact rfl; exact rfl) | (apply v_lss; exact rfl; exact rfl; exact rfl)))
                refine v_is 37 true rfl (by simpa using h2) ?_
                (repeat (first | (apply v_assign; exact rfl; exact rfl) | refine run_seq ?_ | refine run_region ?_ | refine runL_nil ?_ | (apply v_off; exact rfl; exact rfl) | (apply v_pick_t; exact rfl; exact rfl; exact rfl) | (apply run_cond; exact rfl; rotate_left; (focus (intro hb; cases hb; done)); intro hb; clear hb)))
                exact run_ret idN _ Tryd.func20 ⟨_, _, rfl, rfl, rfl⟩ rfl trivial trivial rfl
              · (repeat (first | (apply v_move; exact rfl; exact rfl) | (apply v_on; exact rfl) | (apply v_pick_f; exact rfl; exact rfl; exact rfl) | (apply v_lss; exact rfl; exact rfl; exact rfl)))
                refine v_is 37 false rfl (by simpa using h2) ?_
                by_cases h3 : numM x.code ≤ (i : Int)
                · by_cases h4 : n = 0
                  · subst h4
                    (repeat (first | (apply v_cx; exact rfl; exact cbA rfl; (first | exact hnum); exact rfl; exact rfl) | (apply v_move; exact rfl; exact rfl) | (apply v_fldP; exact flA rfl; exact rfl; exact rfl; exact rfl) | (apply v_loadB; exact tyA rfl; exact rfl; exact rfl; exact rfl; exact rfl; exact rfl; exact rfl) | (apply v_on; exact rfl) | (apply v_geq; exact rfl; exact rfl; exact rfl)))
                    refine v_is 43 true rfl (by simpa using h3) ?_
                    (repeat (first | (apply v_move; exact rfl; exact rfl) | refine run_region ?_ | refine runL_nil ?_ | refine run_skip ?_ | refine run_inBlock ?_ | (apply v_on; exact rfl) | (apply v_pick_t; exact rfl; exact rfl; exact rfl) | (apply v_pick_f; exact rfl; exact rfl; exact rfl) | (apply run_cond; exact rfl; (focus (intro hb; cases hb; done)); intro hb; clear hb) | (apply v_neq; exact rfl; exact rfl; exact rfl) | (apply v_add; exact rfl; exact rfl; exact rfl; exact (by omega))))
                    exact v_again ih (i + 1) idN trivial (by repeat (first | exact trivial | refine ⟨rfl, ?_⟩)) (by repeat (first | exact trivial | refine ⟨rfl, ?_⟩)) rfl ⟨by omega, hst.trans (by rw [ho]; simp [okN])⟩ (by omega)
                  · have hbad := hfin (.inr (.inr ⟨h3, h4⟩))
                    rw [rightO_bad hbad]
                    (repeat (first | (apply v_cx; exact rfl; exact cbA rfl; (first | exact hnum); exact rfl; exact rfl) | (apply v_move; exact rfl; exact rfl) | (apply v_fldP; exact flA rfl; exact rfl; exact rfl; exact rfl) | (apply v_loadB; exact tyA rfl; exact rfl; exact rfl; exact rfl; exact rfl; exact rfl; exact rfl) | (apply v_on; exact rfl) | (apply v_geq; exact rfl; exact rfl; exact rfl)))
                    refine v_is 43 true rfl (by simpa using h3) ?_
                    (repeat (first | (apply v_move; exact rfl; exact rfl) | refine runL_nil ?_ | (apply v_on; exact rfl) | (apply v_pick_t; exact rfl; exact rfl; exact rfl) | (apply v_pick_f; exact rfl; exact rfl; exact rfl) | (apply v_neq; exact rfl; exact rfl; exact rfl)))
                    refine run_condY rfl (by simpa using h4) ?_
                    (repeat (first | (apply v_assign; exact rfl; exact rfl) | refine run_seq ?_ | refine run_region ?_ | refine runL_nil ?_))
                    exact run_ret idN _ Tryd.func20 ⟨_, _, rfl, rfl, rfl⟩ rfl trivial trivial rfl
                · (repeat (first | (apply v_cx; exact rfl; exact cbA rfl; (first | exact hnum); exact rfl; exact rfl) | (apply v_move; exact rfl; exact rfl) | (apply v_fldP; exact flA rfl; exact rfl; exact rfl; exact rfl) | (apply v_loadB; exact tyA rfl; exact rfl; exact rfl; exact rfl; exact rfl; exact rfl; exact rfl) | (apply v_on; exact rfl) | (apply v_geq; exact rfl; exact rfl; exact rfl)))
                  refine v_is 43 false rfl (by simpa using h3) ?_
                  (repeat (first | (apply v_move; exact rfl; exact rfl) | refine run_region ?_ | refine runL_nil ?_ | refine run_skip ?_ | refine run_inBlock ?_ | (apply v_on; exact rfl) | (apply v_off; exact rfl; exact rfl) | (apply v_pick_f; exact rfl; exact rfl; exact rfl) | (apply run_cond; exact rfl; (focus (intro hb; cases hb; done)); intro hb; clear hb) | (apply v_add; exact rfl; exact rfl; exact rfl; exact (by omega))))
                  exact v_again ih (i + 1) idN trivial (by repeat (first | exact trivial | refine ⟨rfl, ?_⟩)) (by repeat (first | exact trivial | refine ⟨rfl, ?_⟩)) rfl ⟨by omega, hst.trans (by rw [ho]; simp only [okN, Bool.true_and]; rw [decide_eq_true (show n ≤ 1000000 by omega), decide_eq_true (show -1000000 ≤ n by omega), decide_eq_true (show (i : Int) < numM x.code by omega)]; rfl)⟩ (by omega)
          · have hge : i = 4 := by have : (4 : Int) ≤ (i : Int) := (by simpa using hb); omega
            subst hge
            clear ih
            rw [rightO, codeB_of hc.1 hc.2, hS, ho]
            (repeat (first | (apply v_assign; exact rfl; exact rfl) | refine run_seq ?_ | refine run_region ?_ | refine runL_nil ?_ | (apply run_exit; exact rfl)))
            exact run_ret idN _ Tryd.func20 ⟨_, _, rfl, rfl, rfl⟩ rfl trivial trivial rfl
  · rw [show rightO x = false by
      rw [rightO, codeB]
      by_cases h : 1 ≤ x.code
      · rw [decide_eq_false (show ¬ x.code < 18 by omega)]; simp
      · rw [decide_eq_false h]; simp]
    rw [show codeB x.code = false by
      rw [codeB]
      by_cases h : 1 ≤ x.code
      · rw [decide_eq_false (show ¬ x.code < 18 by omega)]; simp
      · rw [decide_eq_false h]; simp] at hth
    refine fun_intro 49 Tryd.func20 rfl rfl rfl (fun ι F S w => ?_)
    (repeat (first | (apply v_cx; exact rfl; exact cbA rfl; (first | exact hth); exact rfl; exact rfl) | (apply v_move; exact rfl; exact rfl) | (apply v_assign; exact rfl; exact rfl) | refine run_seq ?_ | refine run_region ?_ | refine runL_nil ?_ | (apply v_fldP; exact flA rfl; exact rfl; exact rfl; exact rfl) | (apply v_loadB; exact tyA rfl; exact rfl; exact rfl; exact rfl; exact rfl; exact rfl; exact rfl) | (apply v_off; exact rfl; exact rfl) | (apply v_pick_t; exact rfl; exact rfl; exact rfl) | (apply run_cond; exact rfl; rotate_left; (focus (intro hb; cases hb; done)); intro hb; clear hb) | (apply v_not; exact rfl; exact rfl) | (apply v_boxD; exact rfl; exact rfl; exact rfl; exact rfl; exact rfl; exact rfl; exact rfl)))
    exact run_ret idN _ Tryd.func20 ⟨_, _, rfl, rfl, rfl⟩ rfl trivial trivial rfl
end Go.Proofs.YtpmeffdcbjakoaaDoor
