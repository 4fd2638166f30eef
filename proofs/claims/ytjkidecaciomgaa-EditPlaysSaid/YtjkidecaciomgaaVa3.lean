/- The reference 06: Host, Check. -/
import Derived.Test.YtjkidecaciomgaaVa2
namespace Go.Proofs.Ytjkidecaciomgaa
set_option linter.unusedVariables false
set_option linter.unusedSimpArgs false
set_option maxRecDepth 100000
open Go.RowKit

theorem host6 {l : List Nd} (h : WF l) (a b : Int) : Fun Try.prog 87 [.sem (listS nodeE l), .v (.int .i64 a), .v (.int .i64 b)] [] (.v (.bool (decide (a ∈ ch l upX b)))) [] := by
  have hlen := h.len
  refine fun_intro 39 Try.func87 rfl rfl rfl (fun ι F S w => ?_)
  (repeat (first | (apply v_assign; exact rfl; exact rfl) | refine run_seq ?_ | refine run_region ?_ | refine runL_nil ?_ | refine run_block ?_))
  refine v_loop (fun q : Nat × Int => ⟨[(0, .sem (listS nodeE l)), (1, .v (.int .i64 a)), (2, .v (.int .i64 q.2)), (7, .v (.int .i64 q.1))], []⟩) (fun q => (a ∈ ch l upX q.2 ↔ a ∈ ch l upX b) ∧ q.1 + (hs l q.2).length ≤ l.length) (fun q => (hs l q.2).length) (0, b) idN trivial (by repeat (first | exact trivial | refine ⟨rfl, ?_⟩)) (by repeat (first | exact trivial | refine ⟨rfl, ?_⟩)) rfl ⟨Iff.rfl, by have := hs_le h b; simpa using this⟩ fun ⟨i, c⟩ ⟨hc, hi⟩ ih => ?_
  dsimp only at hc hi ⊢
  (repeat (first | (apply v_move; exact rfl; exact rfl) | refine run_seq ?_ | refine run_region ?_ | refine runL_nil ?_ | (apply v_leq; exact rfl; exact rfl; exact rfl) | (apply v_lenL; exact slA rfl; exact rfl; exact rfl)))
  refine run_condY rfl (by simp; omega) ?_
  have hab := above5 h a c
  by_cases hm : a ∈ ch l Nd.parent c
  · have hd : decide (a ∈ ch l upX b) = true := decide_eq_true (hc.1 (par_up h hm))
    rw [decide_eq_true hm] at hab
    rw [hd]
    (repeat (first | (apply v_cx; exact rfl; exact cbA rfl; (first | exact hab); exact rfl; exact rfl) | (apply v_move; exact rfl; exact rfl) | (apply v_assign; exact rfl; exact rfl) | refine run_seq ?_ | refine run_region ?_ | refine runL_nil ?_ | refine run_skip ?_ | refine run_block ?_ | (apply run_cond; exact rfl; rotate_left; (focus (intro hb; cases hb; done)); intro hb; clear hb)))
    exact run_ret idN _ Try.func87 ⟨_, _, rfl, rfl, rfl⟩ rfl trivial trivial rfl
  · rw [decide_eq_false hm] at hab
    have hrt := root5 h c
    have hsp := up_split h c
    cases hx : nodeAt l c with
    | none =>
      have hd : decide (a ∈ ch l upX b) = false := decide_eq_false fun e => by
        have := hc.2 e
        rw [ch_none hx] at this
        cases this
      rw [root_none h hx] at hrt
      rw [hd]
      (repeat (first | (apply v_cx; exact rfl; exact cbA rfl; (first | exact hab | exact hrt); exact rfl; exact rfl) | (apply v_move; exact rfl; exact rfl) | (apply v_assign; exact rfl; exact rfl) | refine run_seq ?_ | refine run_region ?_ | refine runL_nil ?_ | refine run_skip ?_ | refine run_block ?_ | (apply v_off; exact rfl; exact rfl) | (apply v_pick_t; exact rfl; exact rfl; exact rfl) | (apply run_cond; exact rfl; rotate_left; (focus (intro hb; cases hb; done)); intro hb; clear hb) | (apply run_cond; exact rfl; (focus (intro hb; cases hb; done)); intro hb; clear hb) | (apply v_eql; exact rfl; exact rfl; exact rfl)))
      exact run_ret idN _ Try.func87 ⟨_, _, rfl, rfl, rfl⟩ rfl trivial trivial rfl
    | some x =>
      obtain ⟨r, hr, _⟩ := root_some h hx
      have hhr : hostM l c = r.host := by rw [hostM, nodeR_some hr]
      have hh : (hs l c).length = (hs l (hostM l c)).length + 1 := by rw [hs_step h hx, List.length_cons]
      have hne := root_ne h hx
      obtain ⟨r1, r2, r3⟩ := nodeAt_some hr
      rw [hhr] at hsp hh
      have hiff : a ∈ ch l upX r.host ↔ a ∈ ch l upX c := by
        rw [hsp, List.mem_append]
        exact ⟨fun e => .inr e, fun e => e.resolve_left hm⟩
      generalize rootM l c = r0 at *
      (repeat (first | (apply v_cx; exact rfl; exact cbA rfl; (first | exact hab | exact hrt); exact rfl; exact rfl) | (apply v_move; exact rfl; exact rfl) | (apply v_assign; exact rfl; exact rfl) | refine run_seq ?_ | refine run_region ?_ | refine runL_nil ?_ | refine run_skip ?_ | refine run_block ?_ | (apply run_cond; exact rfl; (focus (intro hb; cases hb; done)); intro hb; clear hb) | (apply v_eql; exact rfl; exact rfl; exact rfl)))
      refine v_is 24 false rfl (by simpa using hne) ?_
      (repeat (first | (apply v_idxL; exact slA rfl; exact tyA rfl; exact rfl; exact rfl; exact rfl; exact rfl; exact (by omega); (first | exact r3); exact rfl) | (apply v_move; exact rfl; exact rfl) | refine runL_nil ?_ | (apply v_fldA; exact flA rfl; exact rfl; exact rfl; exact rfl) | (apply v_loadA; exact tyA rfl; exact rfl; exact rfl; exact rfl; exact rfl; exact rfl; exact rfl) | (apply v_on; exact rfl) | (apply v_pick_f; exact rfl; exact rfl; exact rfl) | (apply v_eql; exact rfl; exact rfl; exact rfl) | (apply v_sub; exact rfl; exact rfl; exact rfl; exact (by omega))))
      refine run_cond rfl (fun hb => ?_) (fun hb => ?_)
      · have h0 : r.host = 0 := by simpa using hb
        have hd : decide (a ∈ ch l upX b) = false := decide_eq_false fun e => by
          have := hiff.2 (hc.2 e)
          rw [h0, ch_none nodeAt_zero] at this
          cases this
        rw [hd]
        (repeat (first | (apply v_assign; exact rfl; exact rfl) | refine run_seq ?_ | refine run_region ?_ | refine runL_nil ?_))
        exact run_ret idN _ Try.func87 ⟨_, _, rfl, rfl, rfl⟩ rfl trivial trivial rfl
      · (repeat (first | (apply v_idxL; exact slA rfl; exact tyA rfl; exact rfl; exact rfl; exact rfl; exact rfl; exact (by omega); (first | exact r3); exact rfl) | (apply v_move; exact rfl; exact rfl) | (apply v_assign; exact rfl; exact rfl) | refine run_region ?_ | refine runL_nil ?_ | refine run_skip ?_ | refine run_inBlock ?_ | (apply v_fldA; exact flA rfl; exact rfl; exact rfl; exact rfl) | (apply v_loadA; exact tyA rfl; exact rfl; exact rfl; exact rfl; exact rfl; exact rfl; exact rfl) | (apply v_add; exact rfl; exact rfl; exact rfl; exact (by omega)) | (apply v_sub; exact rfl; exact rfl; exact rfl; exact (by omega))))
        exact v_again ih (i + 1, r.host) idN trivial (by repeat (first | exact trivial | refine ⟨rfl, ?_⟩)) (by repeat (first | exact trivial | refine ⟨rfl, ?_⟩)) rfl ⟨hiff.trans hc, by dsimp only; omega⟩ (by dsimp only; omega)
theorem check6 {l : List Nd} (h : WF l) (hkd : Kd l) (node parent child : Int) : Fun Try.prog 88 [.sem (listS nodeE l), .v (.int .i64 node), .v (.int .i64 parent), .v (.int .i64 child)] [] (.v (.int .i64 (checkM l node parent child))) [] := by
  have hho := host6 h node parent
  have hlen := h.len
  generalize hR : checkM l node parent child = R
  cases hn : nodeAt l node with
  | none =>
    obtain rfl : R = 1 := by rw [← hR]; simp [checkM, hn]
    refine fun_intro 85 Try.func88 rfl rfl rfl (fun ι F S w => ?_)
    (repeat (first | (apply v_cx; exact rfl; exact cbA rfl; (first | exact there_n hn); exact rfl; exact rfl) | (apply v_move; exact rfl; exact rfl) | (apply v_assign; exact rfl; exact rfl) | refine run_seq ?_ | refine run_region ?_ | refine runL_nil ?_ | (apply v_off; exact rfl; exact rfl) | (apply v_pick_t; exact rfl; exact rfl; exact rfl) | (apply run_cond; exact rfl; rotate_left; (focus (intro hb; cases hb; done)); intro hb; clear hb) | (apply v_not; exact rfl; exact rfl)))
    exact run_ret idN _ Try.func88 ⟨_, _, rfl, rfl, rfl⟩ rfl trivial trivial rfl
  | some n =>
    cases hp : nodeAt l parent with
    | none =>
      obtain rfl : R = 1 := by rw [← hR]; simp [checkM, hn, hp]
      refine fun_intro 85 Try.func88 rfl rfl rfl (fun ι F S w => ?_)
      (repeat (first | (apply v_cx; exact rfl; exact cbA rfl; (first | exact there_s hn | exact there_n hp); exact rfl; exact rfl) | (apply v_move; exact rfl; exact rfl) | (apply v_assign; exact rfl; exact rfl) | refine run_seq ?_ | refine run_region ?_ | refine runL_nil ?_ | (apply v_on; exact rfl) | (apply v_off; exact rfl; exact rfl) | (apply v_pick_t; exact rfl; exact rfl; exact rfl) | (apply v_pick_f; exact rfl; exact rfl; exact rfl) | (apply run_cond; exact rfl; rotate_left; (focus (intro hb; cases hb; done)); intro hb; clear hb) | (apply v_not; exact rfl; exact rfl)))
      exact run_ret idN _ Try.func88 ⟨_, _, rfl, rfl, rfl⟩ rfl trivial trivial rfl
    | some p =>
      obtain ⟨n1, n2, n3⟩ := nodeAt_some hn
      obtain ⟨p1, p2, p3⟩ := nodeAt_some hp
      have hk4 := kd_at hkd hn
      have hcp := count5 h parent 2
      have hcn := count5 h node 2
      have hdb : docB l n.kind node parent = if n.kind = 2 then decide (cntM l parent 2 = 0) else if n.kind = 4 then decide (cntM l node 2 = 0) || (decide (cntM l node 2 = 1) && decide (cntM l parent 2 = 0)) else true := rfl
      have hnk : n.kind = 1 ∨ n.kind = 2 ∨ n.kind = 3 ∨ n.kind = 4 := by omega
      cases hc : nodeAt l child with
      | none =>
        have hR2 : R = if child ≠ 0 then 1 else if decide (node ∈ ch l upX parent) = true then 3 else if n.kind = 1 ∨ n.kind = 3 then 3 else if p.kind = 1 ∧ docB l n.kind node parent = false then 3 else 0 := by
          rw [← hR]; simp only [checkM, hn, hp, hc]
        rw [hdb] at hR2
        clear hR hdb
        generalize decide (node ∈ ch l upX parent) = hb0 at *
        generalize cntM l parent 2 = cp at *
        generalize cntM l node 2 = cn at *
        by_cases hz : child = 0
        · rw [if_neg (by simpa using hz)] at hR2
          refine fun_intro 85 Try.func88 rfl rfl rfl (fun ι F S w => ?_)
          (repeat (first | (apply v_cx; exact rfl; exact cbA rfl; (first | exact there_s hn | exact there_s hp); exact rfl; exact rfl) | (apply v_move; exact rfl; exact rfl) | (apply v_assign; exact rfl; exact rfl) | refine run_seq ?_ | refine run_region ?_ | refine runL_nil ?_ | (apply v_on; exact rfl) | (apply v_pick_f; exact rfl; exact rfl; exact rfl) | (apply v_not; exact rfl; exact rfl) | (apply v_neq; exact rfl; exact rfl; exact rfl)))
          refine v_is 25 false rfl (by simpa using hz) ?_
          (repeat (first | (apply v_cx; exact rfl; exact cbA rfl; (first | exact hho); exact rfl; exact rfl) | (apply v_move; exact rfl; exact rfl) | refine run_seq ?_ | refine run_region ?_ | refine runL_nil ?_ | refine run_skip ?_ | (apply v_on; exact rfl) | (apply v_off; exact rfl; exact rfl) | (apply v_pick_f; exact rfl; exact rfl; exact rfl) | (apply run_cond; exact rfl; (focus (intro hb; cases hb; done)); intro hb; clear hb)))
          refine run_cond rfl (fun hb => ?_) (fun hb => ?_)
          · (repeat (first | (apply v_assign; exact rfl; exact rfl) | refine run_seq ?_ | refine run_region ?_ | refine runL_nil ?_))
            exact run_ret idN _ Try.func88 ⟨_, _, rfl, rfl, rfl⟩ (by subst hR2; simp_all [AV.ren, oneA]) trivial trivial rfl
          have hb' : hb0 = false := hb
          rw [hb', if_neg (by simp)] at hR2
          clear hb
          (repeat (first | (apply v_move; exact rfl; exact rfl) | refine run_seq ?_ | refine run_region ?_ | refine run_skip ?_ | (apply v_neq; exact rfl; exact rfl; exact rfl)))
          refine v_is 38 false rfl (by simpa using hz) ?_
          rcases hnk with hk | hk | hk | hk
          all_goals
            (repeat' (first | (apply v_idxL; exact slA rfl; exact tyA rfl; exact rfl; exact rfl; exact rfl; exact rfl; exact (by omega); (first | exact n3 | exact p3); exact rfl) | (apply v_cx; exact rfl; exact cbA rfl; (first | exact hcp | exact hcn); exact rfl; exact rfl) | (apply v_move; exact rfl; exact rfl) | (apply v_assign; exact rfl; exact rfl) | refine run_seq ?_ | refine run_region ?_ | refine runL_nil ?_ | refine run_skip ?_ | (apply v_fldA; exact flA rfl; exact rfl; exact rfl; exact rfl) | (apply v_loadA; exact tyA rfl; exact rfl; exact rfl; exact rfl; exact rfl; exact rfl; exact rfl) | (apply v_on; exact rfl) | (apply v_off; exact rfl; exact rfl) | (apply v_pick_t; exact rfl; exact rfl; exact rfl) | (apply v_pick_f; exact rfl; exact rfl; exact rfl) | (apply run_cond; exact rfl; rotate_left; (focus (intro hb; cases hb; done)); intro hb; clear hb) | (apply run_cond; exact rfl; (focus (intro hb; cases hb; done)); intro hb; clear hb) | (apply v_eql; exact rfl; exact rfl; exact rfl) | (apply v_gtr; exact rfl; exact rfl; exact rfl) | (apply v_sub; exact rfl; exact rfl; exact rfl; exact (by omega)) | (apply v_gsplit; exact rfl; exact rfl; exact rfl; all_goals intro hb) | (apply run_cond; exact rfl; all_goals intro hb)))
            all_goals first
              | (refine run_ret idN _ Try.func88 ⟨_, _, rfl, rfl, rfl⟩ ?_ trivial trivial rfl; subst hR2; simp_all [AV.ren, oneA]; done)
              | (exfalso; simp_all; done)
              | (refine run_ret idN _ Try.func88 ⟨_, _, rfl, rfl, rfl⟩ ?_ trivial trivial rfl; subst hR2; simp_all [AV.ren, oneA]; omega)
              | (exfalso; simp_all; omega)
              | skip
        · rw [if_pos hz] at hR2
          subst hR2
          refine fun_intro 85 Try.func88 rfl rfl rfl (fun ι F S w => ?_)
          (repeat (first | (apply v_cx; exact rfl; exact cbA rfl; (first | exact there_s hn | exact there_s hp); exact rfl; exact rfl) | (apply v_move; exact rfl; exact rfl) | (apply v_assign; exact rfl; exact rfl) | refine run_seq ?_ | refine run_region ?_ | refine runL_nil ?_ | (apply v_on; exact rfl) | (apply v_pick_f; exact rfl; exact rfl; exact rfl) | (apply v_not; exact rfl; exact rfl) | (apply v_neq; exact rfl; exact rfl; exact rfl)))
          refine v_is 25 true rfl (by simpa using hz) ?_
          (repeat (first | (apply v_cx; exact rfl; exact cbA rfl; (first | exact there_n hc); exact rfl; exact rfl) | (apply v_move; exact rfl; exact rfl) | (apply v_assign; exact rfl; exact rfl) | refine run_seq ?_ | refine run_region ?_ | refine runL_nil ?_ | (apply v_on; exact rfl) | (apply v_pick_t; exact rfl; exact rfl; exact rfl) | (apply v_pick_f; exact rfl; exact rfl; exact rfl) | (apply run_cond; exact rfl; rotate_left; (focus (intro hb; cases hb; done)); intro hb; clear hb) | (apply v_not; exact rfl; exact rfl)))
          exact run_ret idN _ Try.func88 ⟨_, _, rfl, rfl, rfl⟩ rfl trivial trivial rfl
      | some c =>
        obtain ⟨c1, c2, c3⟩ := nodeAt_some hc
        have hz : child ≠ 0 := by omega
        have hR2 : R = if decide (node ∈ ch l upX parent) = true then 3 else if c.parent ≠ parent then 4 else if n.kind = 1 ∨ n.kind = 3 then 3 else if p.kind = 1 ∧ docB l n.kind node parent = false then 3 else 0 := by
          rw [← hR]; simp only [checkM, hn, hp, hc]
        rw [hdb] at hR2
        clear hR hdb
        generalize decide (node ∈ ch l upX parent) = hb0 at *
        generalize cntM l parent 2 = cp at *
        generalize cntM l node 2 = cn at *
        refine fun_intro 85 Try.func88 rfl rfl rfl (fun ι F S w => ?_)
        (repeat (first | (apply v_cx; exact rfl; exact cbA rfl; (first | exact there_s hn | exact there_s hp); exact rfl; exact rfl) | (apply v_move; exact rfl; exact rfl) | (apply v_assign; exact rfl; exact rfl) | refine run_seq ?_ | refine run_region ?_ | refine runL_nil ?_ | (apply v_on; exact rfl) | (apply v_pick_f; exact rfl; exact rfl; exact rfl) | (apply v_not; exact rfl; exact rfl) | (apply v_neq; exact rfl; exact rfl; exact rfl)))
        refine v_is 25 true rfl (by simpa using hz) ?_
        (repeat (first | (apply v_cx; exact rfl; exact cbA rfl; (first | exact there_s hc | exact hho); exact rfl; exact rfl) | (apply v_move; exact rfl; exact rfl) | refine run_seq ?_ | refine run_region ?_ | refine runL_nil ?_ | refine run_skip ?_ | (apply v_on; exact rfl) | (apply v_pick_t; exact rfl; exact rfl; exact rfl) | (apply v_pick_f; exact rfl; exact rfl; exact rfl) | (apply run_cond; exact rfl; (focus (intro hb; cases hb; done)); intro hb; clear hb) | (apply v_not; exact rfl; exact rfl)))
        refine run_cond rfl (fun hb => ?_) (fun hb => ?_)
        · (repeat (first | (apply v_assign; exact rfl; exact rfl) | refine run_seq ?_ | refine run_region ?_ | refine runL_nil ?_))
          exact run_ret idN _ Try.func88 ⟨_, _, rfl, rfl, rfl⟩ (by subst hR2; simp_all [AV.ren, oneA]) trivial trivial rfl
        have hb' : hb0 = false := hb
        rw [hb', if_neg (by simp)] at hR2
        clear hb
        (repeat (first | (apply v_move; exact rfl; exact rfl) | refine run_seq ?_ | refine run_region ?_ | refine run_skip ?_ | (apply v_neq; exact rfl; exact rfl; exact rfl)))
        refine v_is 38 true rfl (by simpa using hz) ?_
        (repeat (first | (apply v_idxL; exact slA rfl; exact tyA rfl; exact rfl; exact rfl; exact rfl; exact rfl; exact (by omega); (first | exact c3); exact rfl) | (apply v_move; exact rfl; exact rfl) | refine runL_nil ?_ | (apply v_fldA; exact flA rfl; exact rfl; exact rfl; exact rfl) | (apply v_loadA; exact tyA rfl; exact rfl; exact rfl; exact rfl; exact rfl; exact rfl; exact rfl) | (apply v_on; exact rfl) | (apply v_pick_t; exact rfl; exact rfl; exact rfl) | (apply v_neq; exact rfl; exact rfl; exact rfl) | (apply v_sub; exact rfl; exact rfl; exact rfl; exact (by omega))))
        refine run_cond rfl (fun hb => ?_) (fun hb => ?_)
        · have hpp : c.parent ≠ parent := by simpa using hb
          rw [if_pos hpp] at hR2
          subst hR2
          (repeat (first | (apply v_assign; exact rfl; exact rfl) | refine run_seq ?_ | refine run_region ?_ | refine runL_nil ?_))
          exact run_ret idN _ Try.func88 ⟨_, _, rfl, rfl, rfl⟩ rfl trivial trivial rfl
        · have hpp : ¬ c.parent ≠ parent := by simpa using hb
          rw [if_neg hpp] at hR2
          clear hb
          rcases hnk with hk | hk | hk | hk
          all_goals
            (repeat' (first | (apply v_idxL; exact slA rfl; exact tyA rfl; exact rfl; exact rfl; exact rfl; exact rfl; exact (by omega); (first | exact n3 | exact p3); exact rfl) | (apply v_cx; exact rfl; exact cbA rfl; (first | exact hcp | exact hcn); exact rfl; exact rfl) | (apply v_move; exact rfl; exact rfl) | (apply v_assign; exact rfl; exact rfl) | refine run_seq ?_ | refine run_region ?_ | refine runL_nil ?_ | refine run_skip ?_ | (apply v_fldA; exact flA rfl; exact rfl; exact rfl; exact rfl) | (apply v_loadA; exact tyA rfl; exact rfl; exact rfl; exact rfl; exact rfl; exact rfl; exact rfl) | (apply v_on; exact rfl) | (apply v_off; exact rfl; exact rfl) | (apply v_pick_t; exact rfl; exact rfl; exact rfl) | (apply v_pick_f; exact rfl; exact rfl; exact rfl) | (apply run_cond; exact rfl; rotate_left; (focus (intro hb; cases hb; done)); intro hb; clear hb) | (apply run_cond; exact rfl; (focus (intro hb; cases hb; done)); intro hb; clear hb) | (apply v_eql; exact rfl; exact rfl; exact rfl) | (apply v_gtr; exact rfl; exact rfl; exact rfl) | (apply v_sub; exact rfl; exact rfl; exact rfl; exact (by omega)) | (apply v_gsplit; exact rfl; exact rfl; exact rfl; all_goals intro hb) | (apply run_cond; exact rfl; all_goals intro hb)))
            all_goals first
              | (refine run_ret idN _ Try.func88 ⟨_, _, rfl, rfl, rfl⟩ ?_ trivial trivial rfl; subst hR2; simp_all [AV.ren, oneA]; done)
              | (exfalso; simp_all; done)
              | (refine run_ret idN _ Try.func88 ⟨_, _, rfl, rfl, rfl⟩ ?_ trivial trivial rfl; subst hR2; simp_all [AV.ren, oneA]; omega)
              | (exfalso; simp_all; omega)
              | skip
end Go.Proofs.Ytjkidecaciomgaa
