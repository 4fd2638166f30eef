/- The reference 14: Parent, Up, ClosedRoot, Make. -/
import Derived.Test.YtjkidecaciomgaaRf11
import Derived.Test.YtjkidecaciomgaaBP
namespace Go.Proofs.Ytjkidecaciomgaa
set_option linter.unusedVariables false
set_option linter.unusedSimpArgs false
set_option maxRecDepth 100000
open Go.RowKit

theorem evp14 {l : List Nd} (h : WF l) (id first : Int) (comp : Bool) : Fun Try.prog 126 [.sem (listS nodeE l), .v (.int .i64 id), .v (.int .i64 first), .v (.bool comp)] [] (.v (.int .i64 (evP l first comp id))) [] := by
  have hlen := h.len
  cases hx : nodeAt l id with
  | none =>
    rw [show evP l first comp id = 0 by rw [evP, hx]]
    refine fun_intro 48 Try.func126 rfl rfl rfl (fun ι F S w => ?_)
    (repeat (first | (apply v_cx; exact rfl; exact cbA rfl; (first | exact there_n hx); exact rfl; exact rfl) | (apply v_move; exact rfl; exact rfl) | (apply v_assign; exact rfl; exact rfl) | refine run_seq ?_ | refine run_region ?_ | refine runL_nil ?_ | (apply run_cond; exact rfl; rotate_left; (focus (intro hb; cases hb; done)); intro hb; clear hb) | (apply v_not; exact rfl; exact rfl)))
    exact run_ret idN _ Try.func126 ⟨_, _, rfl, rfl, rfl⟩ rfl trivial trivial rfl
  | some n =>
    have ho : evP l first comp id = if ofM l id ≠ 0 then ofM l id else if n.kind ≠ 3 then n.parent else if comp = false ∧ rootM l first = id then 0 else n.host := by rw [evP, hx]
    have hof := of9 h id
    have hrt := root5 h first
    obtain ⟨n1, n2, n3⟩ := nodeAt_some hx
    generalize ofM l id = s at *
    generalize rootM l first = r at *
    generalize evP l first comp id = v at *
    by_cases h0 : s ≠ 0
    · rw [if_pos h0] at ho
      subst ho
      refine fun_intro 48 Try.func126 rfl rfl rfl (fun ι F S w => ?_)
      (repeat (first | (apply v_cx; exact rfl; exact cbA rfl; (first | exact there_s hx | exact hof); exact rfl; exact rfl) | (apply v_move; exact rfl; exact rfl) | (apply v_assign; exact rfl; exact rfl) | refine run_seq ?_ | refine run_region ?_ | refine runL_nil ?_ | refine run_skip ?_ | (apply run_cond; exact rfl; (focus (intro hb; cases hb; done)); intro hb; clear hb) | (apply v_not; exact rfl; exact rfl) | (apply v_neq; exact rfl; exact rfl; exact rfl)))
      refine run_condY rfl (by simpa using h0) ?_
      (repeat (first | (apply v_move; exact rfl; exact rfl) | (apply v_assign; exact rfl; exact rfl) | refine run_seq ?_ | refine run_region ?_ | refine runL_nil ?_))
      exact run_ret idN _ Try.func126 ⟨_, _, rfl, rfl, rfl⟩ rfl trivial trivial rfl
    · rw [if_neg h0] at ho
      by_cases h1 : n.kind ≠ 3
      · rw [if_pos h1] at ho
        subst ho
        refine fun_intro 48 Try.func126 rfl rfl rfl (fun ι F S w => ?_)
        (repeat (first | (apply v_cx; exact rfl; exact cbA rfl; (first | exact there_s hx | exact hof); exact rfl; exact rfl) | (apply v_move; exact rfl; exact rfl) | (apply v_assign; exact rfl; exact rfl) | refine run_seq ?_ | refine run_region ?_ | refine runL_nil ?_ | refine run_skip ?_ | (apply run_cond; exact rfl; (focus (intro hb; cases hb; done)); intro hb; clear hb) | (apply v_not; exact rfl; exact rfl) | (apply v_neq; exact rfl; exact rfl; exact rfl)))
        refine run_condN rfl (by simpa using h0) ?_
        (repeat (first | (apply v_idxL; exact slA rfl; exact tyA rfl; exact rfl; exact rfl; exact rfl; exact rfl; exact (by omega); (first | exact n3); exact rfl) | (apply v_move; exact rfl; exact rfl) | refine run_seq ?_ | refine run_region ?_ | refine runL_nil ?_ | refine run_skip ?_ | (apply v_fldA; exact flA rfl; exact rfl; exact rfl; exact rfl) | (apply v_loadA; exact tyA rfl; exact rfl; exact rfl; exact rfl; exact rfl; exact rfl; exact rfl) | (apply v_eql; exact rfl; exact rfl; exact rfl) | (apply v_sub; exact rfl; exact rfl; exact rfl; exact (by omega))))
        refine run_condN rfl (by simpa using h1) ?_
        (repeat (first | (apply v_idxL; exact slA rfl; exact tyA rfl; exact rfl; exact rfl; exact rfl; exact rfl; exact (by omega); (first | exact n3); exact rfl) | (apply v_move; exact rfl; exact rfl) | (apply v_assign; exact rfl; exact rfl) | refine run_seq ?_ | refine run_region ?_ | refine runL_nil ?_ | refine run_skip ?_ | (apply v_fldA; exact flA rfl; exact rfl; exact rfl; exact rfl) | (apply v_loadA; exact tyA rfl; exact rfl; exact rfl; exact rfl; exact rfl; exact rfl; exact rfl) | (apply v_sub; exact rfl; exact rfl; exact rfl; exact (by omega))))
        exact run_ret idN _ Try.func126 ⟨_, _, rfl, rfl, rfl⟩ rfl trivial trivial rfl
      · rw [if_neg h1] at ho
        cases comp with
        | true =>
          rw [if_neg (by simp)] at ho
          subst ho
          refine fun_intro 48 Try.func126 rfl rfl rfl (fun ι F S w => ?_)
          (repeat (first | (apply v_cx; exact rfl; exact cbA rfl; (first | exact there_s hx | exact hof); exact rfl; exact rfl) | (apply v_move; exact rfl; exact rfl) | (apply v_assign; exact rfl; exact rfl) | refine run_seq ?_ | refine run_region ?_ | refine runL_nil ?_ | refine run_skip ?_ | (apply run_cond; exact rfl; (focus (intro hb; cases hb; done)); intro hb; clear hb) | (apply v_not; exact rfl; exact rfl) | (apply v_neq; exact rfl; exact rfl; exact rfl)))
          refine run_condN rfl (by simpa using h0) ?_
          (repeat (first | (apply v_idxL; exact slA rfl; exact tyA rfl; exact rfl; exact rfl; exact rfl; exact rfl; exact (by omega); (first | exact n3); exact rfl) | (apply v_move; exact rfl; exact rfl) | refine run_seq ?_ | refine run_region ?_ | refine runL_nil ?_ | refine run_skip ?_ | (apply v_fldA; exact flA rfl; exact rfl; exact rfl; exact rfl) | (apply v_loadA; exact tyA rfl; exact rfl; exact rfl; exact rfl; exact rfl; exact rfl; exact rfl) | (apply v_eql; exact rfl; exact rfl; exact rfl) | (apply v_sub; exact rfl; exact rfl; exact rfl; exact (by omega))))
          refine run_condY rfl (by simpa using h1) ?_
          (repeat (first | (apply v_idxL; exact slA rfl; exact tyA rfl; exact rfl; exact rfl; exact rfl; exact rfl; exact (by omega); (first | exact n3); exact rfl) | (apply v_move; exact rfl; exact rfl) | (apply v_assign; exact rfl; exact rfl) | refine run_seq ?_ | refine run_region ?_ | refine runL_nil ?_ | refine run_skip ?_ | (apply v_fldA; exact flA rfl; exact rfl; exact rfl; exact rfl) | (apply v_loadA; exact tyA rfl; exact rfl; exact rfl; exact rfl; exact rfl; exact rfl; exact rfl) | (apply v_off; exact rfl; exact rfl) | (apply v_pick_f; exact rfl; exact rfl; exact rfl) | (apply run_cond; exact rfl; (focus (intro hb; cases hb; done)); intro hb; clear hb) | (apply v_not; exact rfl; exact rfl) | (apply v_sub; exact rfl; exact rfl; exact rfl; exact (by omega))))
          exact run_ret idN _ Try.func126 ⟨_, _, rfl, rfl, rfl⟩ rfl trivial trivial rfl
        | false =>
          by_cases h2 : r = id
          · rw [if_pos ⟨rfl, h2⟩] at ho
            subst ho
            refine fun_intro 48 Try.func126 rfl rfl rfl (fun ι F S w => ?_)
            (repeat (first | (apply v_cx; exact rfl; exact cbA rfl; (first | exact there_s hx | exact hof); exact rfl; exact rfl) | (apply v_move; exact rfl; exact rfl) | (apply v_assign; exact rfl; exact rfl) | refine run_seq ?_ | refine run_region ?_ | refine runL_nil ?_ | refine run_skip ?_ | (apply run_cond; exact rfl; (focus (intro hb; cases hb; done)); intro hb; clear hb) | (apply v_not; exact rfl; exact rfl) | (apply v_neq; exact rfl; exact rfl; exact rfl)))
            refine run_condN rfl (by simpa using h0) ?_
            (repeat (first | (apply v_idxL; exact slA rfl; exact tyA rfl; exact rfl; exact rfl; exact rfl; exact rfl; exact (by omega); (first | exact n3); exact rfl) | (apply v_move; exact rfl; exact rfl) | refine run_seq ?_ | refine run_region ?_ | refine runL_nil ?_ | refine run_skip ?_ | (apply v_fldA; exact flA rfl; exact rfl; exact rfl; exact rfl) | (apply v_loadA; exact tyA rfl; exact rfl; exact rfl; exact rfl; exact rfl; exact rfl; exact rfl) | (apply v_eql; exact rfl; exact rfl; exact rfl) | (apply v_sub; exact rfl; exact rfl; exact rfl; exact (by omega))))
            refine run_condY rfl (by simpa using h1) ?_
            (repeat (first | (apply v_cx; exact rfl; exact cbA rfl; (first | exact hrt); exact rfl; exact rfl) | (apply v_move; exact rfl; exact rfl) | refine run_seq ?_ | refine run_region ?_ | refine runL_nil ?_ | (apply v_on; exact rfl) | (apply v_pick_t; exact rfl; exact rfl; exact rfl) | (apply v_not; exact rfl; exact rfl) | (apply v_eql; exact rfl; exact rfl; exact rfl)))
            refine run_condY rfl (by simpa using h2) ?_
            (repeat (first | (apply v_assign; exact rfl; exact rfl) | refine run_seq ?_ | refine run_region ?_ | refine runL_nil ?_))
            exact run_ret idN _ Try.func126 ⟨_, _, rfl, rfl, rfl⟩ rfl trivial trivial rfl
          · rw [if_neg (fun e => h2 e.2)] at ho
            subst ho
            refine fun_intro 48 Try.func126 rfl rfl rfl (fun ι F S w => ?_)
            (repeat (first | (apply v_cx; exact rfl; exact cbA rfl; (first | exact there_s hx | exact hof); exact rfl; exact rfl) | (apply v_move; exact rfl; exact rfl) | (apply v_assign; exact rfl; exact rfl) | refine run_seq ?_ | refine run_region ?_ | refine runL_nil ?_ | refine run_skip ?_ | (apply run_cond; exact rfl; (focus (intro hb; cases hb; done)); intro hb; clear hb) | (apply v_not; exact rfl; exact rfl) | (apply v_neq; exact rfl; exact rfl; exact rfl)))
            refine run_condN rfl (by simpa using h0) ?_
            (repeat (first | (apply v_idxL; exact slA rfl; exact tyA rfl; exact rfl; exact rfl; exact rfl; exact rfl; exact (by omega); (first | exact n3); exact rfl) | (apply v_move; exact rfl; exact rfl) | refine run_seq ?_ | refine run_region ?_ | refine runL_nil ?_ | refine run_skip ?_ | (apply v_fldA; exact flA rfl; exact rfl; exact rfl; exact rfl) | (apply v_loadA; exact tyA rfl; exact rfl; exact rfl; exact rfl; exact rfl; exact rfl; exact rfl) | (apply v_eql; exact rfl; exact rfl; exact rfl) | (apply v_sub; exact rfl; exact rfl; exact rfl; exact (by omega))))
            refine run_condY rfl (by simpa using h1) ?_
            (repeat (first | (apply v_cx; exact rfl; exact cbA rfl; (first | exact hrt); exact rfl; exact rfl) | (apply v_move; exact rfl; exact rfl) | refine run_seq ?_ | refine run_region ?_ | refine runL_nil ?_ | (apply v_on; exact rfl) | (apply v_pick_t; exact rfl; exact rfl; exact rfl) | (apply v_not; exact rfl; exact rfl) | (apply v_eql; exact rfl; exact rfl; exact rfl)))
            refine run_condN rfl (by simpa using h2) ?_
            (repeat (first | (apply v_idxL; exact slA rfl; exact tyA rfl; exact rfl; exact rfl; exact rfl; exact rfl; exact (by omega); (first | exact n3); exact rfl) | (apply v_move; exact rfl; exact rfl) | (apply v_assign; exact rfl; exact rfl) | refine run_seq ?_ | refine run_region ?_ | refine runL_nil ?_ | refine run_skip ?_ | (apply v_fldA; exact flA rfl; exact rfl; exact rfl; exact rfl) | (apply v_loadA; exact tyA rfl; exact rfl; exact rfl; exact rfl; exact rfl; exact rfl; exact rfl) | (apply v_sub; exact rfl; exact rfl; exact rfl; exact (by omega))))
            exact run_ret idN _ Try.func126 ⟨_, _, rfl, rfl, rfl⟩ rfl trivial trivial rfl
theorem closed14 {l : List Nd} (h : WF l) {id : Int} {n : Nd} (hx : nodeAt l id = some n) : Fun Try.prog 171 [.sem (listS nodeE l), .v (.int .i64 id)] [] (.v (.bool (isClosed l id))) [] := by
  have hlen := h.len
  obtain ⟨n1, n2, n3⟩ := nodeAt_some hx
  have ho : isClosed l id = (decide (n.kind = 3) && decide (n.mode = 2)) := by rw [isClosed, nodeR_some hx]
  rw [ho]
  clear ho
  by_cases hk : n.kind = 3
  · rw [decide_eq_true hk, Bool.true_and]
    refine fun_intro 21 Try.func171 rfl rfl rfl (fun ι F S w => ?_)
    (repeat (first | (apply v_idxL; exact slA rfl; exact tyA rfl; exact rfl; exact rfl; exact rfl; exact rfl; exact (by omega); (first | exact n3); exact rfl) | (apply v_move; exact rfl; exact rfl) | (apply v_assign; exact rfl; exact rfl) | refine run_seq ?_ | refine run_region ?_ | refine runL_nil ?_ | (apply v_fldA; exact flA rfl; exact rfl; exact rfl; exact rfl) | (apply v_loadA; exact tyA rfl; exact rfl; exact rfl; exact rfl; exact rfl; exact rfl; exact rfl) | (apply v_eql; exact rfl; exact rfl; exact rfl) | (apply v_sub; exact rfl; exact rfl; exact rfl; exact (by omega))))
    refine v_is 12 true rfl (by simpa using hk) ?_
    (repeat (first | (apply v_idxL; exact slA rfl; exact tyA rfl; exact rfl; exact rfl; exact rfl; exact rfl; exact (by omega); (first | exact n3); exact rfl) | (apply v_move; exact rfl; exact rfl) | (apply v_assign; exact rfl; exact rfl) | refine runL_nil ?_ | (apply v_fldA; exact flA rfl; exact rfl; exact rfl; exact rfl) | (apply v_loadA; exact tyA rfl; exact rfl; exact rfl; exact rfl; exact rfl; exact rfl; exact rfl) | (apply v_on; exact rfl) | (apply v_pick_t; exact rfl; exact rfl; exact rfl) | (apply v_eql; exact rfl; exact rfl; exact rfl) | (apply v_sub; exact rfl; exact rfl; exact rfl; exact (by omega))))
    exact run_ret idN _ Try.func171 ⟨_, _, rfl, rfl, rfl⟩ rfl trivial trivial rfl
  · rw [decide_eq_false hk, Bool.false_and]
    refine fun_intro 21 Try.func171 rfl rfl rfl (fun ι F S w => ?_)
    (repeat (first | (apply v_idxL; exact slA rfl; exact tyA rfl; exact rfl; exact rfl; exact rfl; exact rfl; exact (by omega); (first | exact n3); exact rfl) | (apply v_move; exact rfl; exact rfl) | (apply v_assign; exact rfl; exact rfl) | refine run_seq ?_ | refine run_region ?_ | refine runL_nil ?_ | (apply v_fldA; exact flA rfl; exact rfl; exact rfl; exact rfl) | (apply v_loadA; exact tyA rfl; exact rfl; exact rfl; exact rfl; exact rfl; exact rfl; exact rfl) | (apply v_eql; exact rfl; exact rfl; exact rfl) | (apply v_sub; exact rfl; exact rfl; exact rfl; exact (by omega))))
    refine v_is 12 false rfl (by simpa using hk) ?_
    (repeat (first | (apply v_assign; exact rfl; exact rfl) | refine runL_nil ?_ | (apply v_off; exact rfl; exact rfl) | (apply v_pick_f; exact rfl; exact rfl; exact rfl)))
    exact run_ret idN _ Try.func171 ⟨_, _, rfl, rfl, rfl⟩ rfl trivial trivial rfl
def upM (l : List Nd) (first : Int) (comp : Bool) : List Int := if nodeAt l first = none then [] else wayN (evP l first comp) 129 first
theorem wayN_zero (f : Int → Int) (n : Nat) : wayN f n 0 = [] := by cases n <;> simp [wayN]
theorem wayN_succ (f : Int → Int) (n : Nat) {a : Int} (h : a ≠ 0) : wayN f (n + 1) a = a :: wayN f n (f a) := by
  show (if a = 0 then [] else _) = _
  rw [if_neg h]
theorem upM_len {l : List Nd} (h : WF l) (first : Int) (comp : Bool) : (upM l first comp).length ≤ l.length := by
  unfold upM
  cases hx : nodeAt l first with
  | none => rw [if_pos rfl]; simp
  | some y => rw [if_neg (by simp)]; exact wayM_len h first comp (.inr ⟨y, hx⟩) 129
theorem up14 {l : List Nd} (h : WF l) (first : Int) (comp : Bool) : Fun Try.prog 170 [.sem (listS nodeE l), .v (.int .i64 first), .v (.bool comp)] [] (.sem (listS intE (upM l first comp))) [] := by
  refine Fun.freeze (e := 3) ?_
  have hlen := h.len
  have hul := upM_len h first comp
  cases hx : nodeAt l first with
  | none =>
    rw [show upM l first comp = [] by rw [upM, if_pos hx]]
    refine fun_intro 32 Try.func170 rfl rfl rfl (fun ι F S w => ?_)
    (repeat (first | (apply v_move; exact rfl; exact rfl) | (apply v_assign; exact rfl; exact rfl) | refine run_seq ?_ | refine run_region ?_ | refine runL_nil ?_ | refine run_block ?_))
    refine run_own 7 7 3 intE rfl rfl rfl rfl ?_
    refine v_loop (fun u : Unit => ⟨[(0, .sem (listS nodeE l)), (7, .res 7), (8, .v (.int .i64 first)), (9, .v (.int .i64 0))], [(7, .obj (ownS 3 intE []))]⟩) (fun _ => True) (fun _ => 0) () idN trivial (by repeat (first | exact trivial | refine ⟨rfl, ?_⟩)) (by repeat (first | exact trivial | refine ⟨rfl, ?_⟩)) rfl trivial fun _ _ ih => ?_
    (repeat (first | (apply v_move; exact rfl; exact rfl) | refine run_seq ?_ | refine run_region ?_ | (apply v_on; exact rfl) | (apply v_leq; exact rfl; exact rfl; exact rfl) | (apply v_lenL; exact slA rfl; exact rfl; exact rfl)))
    refine v_is 15 true rfl (by simp) ?_
    (repeat (first | (apply v_cx; exact rfl; exact cbA rfl; (first | exact there_n hx); exact rfl; exact rfl) | (apply v_move; exact rfl; exact rfl) | (apply v_assign; exact rfl; exact rfl) | refine run_seq ?_ | refine run_region ?_ | refine runL_nil ?_ | (apply run_exit; exact rfl) | (apply v_pick_t; exact rfl; exact rfl; exact rfl) | (apply run_cond; exact rfl; (focus (intro hb; cases hb; done)); intro hb; clear hb)))
    exact run_ret (mp [(0, 7)]) _ Try.func170 ⟨_, _, rfl, rfl, rfl⟩ rfl trivial ⟨rfl, trivial⟩ rfl
  | some y =>
    have hu : upM l first comp = wayN (evP l first comp) 129 first := by rw [upM, if_neg (by rw [hx]; simp)]
    have hz := ev_129 h first comp (.inr ⟨y, hx⟩)
    have hev := fun a => evp14 h a first comp
    have hth := fun a => ev_there h first comp a
    generalize upM l first comp = u at *
    refine fun_intro 32 Try.func170 rfl rfl rfl (fun ι F S w => ?_)
    (repeat (first | (apply v_move; exact rfl; exact rfl) | (apply v_assign; exact rfl; exact rfl) | refine run_seq ?_ | refine run_region ?_ | refine runL_nil ?_ | refine run_block ?_))
    refine run_own 7 7 3 intE rfl rfl rfl rfl ?_
    refine v_loop (fun q : Nat × Int × List Int => ⟨[(0, .sem (listS nodeE l)), (1, .v (.int .i64 first)), (2, .v (.bool comp)), (7, .res 7), (8, .v (.int .i64 q.2.1)), (9, .v (.int .i64 q.2.2.length))], [(7, .obj (ownS 3 intE q.2.2))]⟩) (fun q => q.2.2 ++ wayN (evP l first comp) q.1 q.2.1 = u ∧ itF (evP l first comp) q.1 q.2.1 = 0 ∧ (q.2.1 = 0 ∨ ∃ y, nodeAt l q.2.1 = some y)) (fun q => q.1) (129, first, []) idN trivial (by repeat (first | exact trivial | refine ⟨rfl, ?_⟩)) (by repeat (first | exact trivial | refine ⟨rfl, ?_⟩)) rfl ⟨hu.symm, hz, .inr ⟨y, hx⟩⟩ fun ⟨n, c, out⟩ ⟨hq, hc, hc2⟩ ih => ?_
    dsimp only at hq hc hc2 ⊢
    have htot := congrArg List.length hq
    rw [List.length_append] at htot
    (repeat (first | (apply v_move; exact rfl; exact rfl) | refine run_seq ?_ | refine run_region ?_ | (apply v_leq; exact rfl; exact rfl; exact rfl) | (apply v_lenL; exact slA rfl; exact rfl; exact rfl)))
    refine v_is 15 true rfl (by simp; omega) ?_
    by_cases h0 : c = 0
    · rw [h0, wayN_zero, List.append_nil] at hq
      (repeat (first | (apply v_cx; exact rfl; exact cbA rfl; (first | exact there_n (h0 ▸ nodeAt_zero)); exact rfl; exact rfl) | (apply v_move; exact rfl; exact rfl) | (apply v_assign; exact rfl; exact rfl) | refine run_seq ?_ | refine run_region ?_ | refine runL_nil ?_ | (apply run_exit; exact rfl) | (apply v_on; exact rfl) | (apply v_pick_t; exact rfl; exact rfl; exact rfl) | (apply run_cond; exact rfl; (focus (intro hb; cases hb; done)); intro hb; clear hb)))
      exact run_ret (mp [(0, 7)]) _ Try.func170 ⟨_, _, rfl, rfl, rfl⟩ rfl trivial ⟨by rw [← hq]; rfl, trivial⟩ rfl
    · obtain ⟨x, hx2⟩ := hc2.resolve_left h0
      cases n with
      | zero => exact absurd hc h0
      | succ n =>
        have hc' : itF (evP l first comp) n (evP l first comp c) = 0 := hc
        have hth2 := hth c
        have hev2 := hev c
        rw [wayN_succ _ _ h0] at hq htot
        simp only [List.length_cons] at htot
        generalize evP l first comp c = nx at *
        (repeat (first | (apply v_cx; exact rfl; exact cbA rfl; (first | exact there_s hx2); exact rfl; exact rfl) | (apply v_move; exact rfl; exact rfl) | refine run_seq ?_ | refine run_region ?_ | refine runL_nil ?_ | refine run_skip ?_ | refine run_block ?_ | (apply v_on; exact rfl) | (apply v_pick_t; exact rfl; exact rfl; exact rfl) | (apply run_cond; exact rfl; rotate_left; (focus (intro hb; cases hb; done)); intro hb; clear hb)))
        refine v_l intE [c] (slA rfl) (tyA rfl) rfl rfl rfl rfl rfl rfl rfl rfl rfl rfl ?_
        refine v_appendD (slA rfl) (tyA rfl) rfl rfl rfl rfl rfl rfl rfl (by simp only [List.length_singleton]; omega) rfl rfl rfl rfl ?_
        (repeat (first | (apply v_cx; exact rfl; exact cbA rfl; (first | exact hev2); exact rfl; exact rfl) | (apply v_move; exact rfl; exact rfl) | (apply v_assign; exact rfl; exact rfl) | refine run_region ?_ | refine runL_nil ?_ | refine run_inBlock ?_ | (apply v_add; exact rfl; exact rfl; exact rfl; exact (by omega))))
        exact v_again ih (n, nx, out ++ [c]) (mp [(7, 25)]) trivial ⟨rfl, rfl, rfl, rfl, rfl, by simp only [List.length_append, List.length_singleton]; rfl, trivial⟩ (by repeat (first | exact trivial | refine ⟨rfl, ?_⟩)) rfl ⟨by rw [← hq]; simp, hc', hth2⟩ (by simp)
end Go.Proofs.Ytjkidecaciomgaa
