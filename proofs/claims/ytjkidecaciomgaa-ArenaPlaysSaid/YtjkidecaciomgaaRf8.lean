/- The references 05 (Root, Above), 08, 10. -/
import Derived.Test.YtjkidecaciomgaaBE
import Derived.Test.YtjkidecaciomgaaSh2
namespace Go.Proofs.Ytjkidecaciomgaa
set_option linter.unusedVariables false
set_option linter.unusedSimpArgs false
set_option maxRecDepth 100000
open Go.RowKit

theorem root5 {l : List Nd} (h : WF l) (id : Int) : Fun Try.prog 60 [.sem (listS nodeE l), .v (.int .i64 id)] [] (.v (.int .i64 (rootM l id))) [] := by
  have hcl := ch_len (desc_par h) id
  have hlen := h.len
  have hup := up_r h id
  have hr : rootM l id = (ch l Nd.parent id).getLastD 0 := rfl
  rw [hr]
  generalize ch l Nd.parent id = u at *
  refine fun_intro 18 Try.func60 rfl rfl rfl (fun ι F S w => ?_)
  (repeat (first | (apply v_cx; exact rfl; exact cbA rfl; (first | exact hup); exact rfl; exact rfl) | (apply v_move; exact rfl; exact rfl) | (apply v_assign; exact rfl; exact rfl) | refine run_seq ?_ | refine run_region ?_ | refine runL_nil ?_ | (apply v_eql; exact rfl; exact rfl; exact rfl) | (apply v_lenL; exact slA rfl; exact rfl; exact rfl)))
  refine run_cond rfl (fun hc => ?_) (fun hc => ?_)
  · have h0 : u = [] := by simpa using hc
    subst h0
    (repeat (first | (apply v_assign; exact rfl; exact rfl) | refine run_seq ?_ | refine run_region ?_ | refine runL_nil ?_))
    exact run_ret idN _ Try.func60 ⟨_, _, rfl, rfl, rfl⟩ rfl trivial trivial rfl
  · have h0 : u ≠ [] := by simpa using hc
    have hpos : 0 < u.length := List.length_pos_iff.2 h0
    have hx : u[((u.length : Int) - 1).toNat]? = some (u.getLastD 0) := by
      rw [show ((u.length : Int) - 1).toNat = u.length - 1 by omega, ← List.getLast?_eq_getElem?, List.getLastD_eq_getLast?]
      cases he : u.getLast? with
      | none => rw [List.getLast?_eq_none_iff] at he; exact absurd he h0
      | some v => rfl
    (repeat (first | (apply v_idxL; exact slA rfl; exact tyA rfl; exact rfl; exact rfl; exact rfl; exact rfl; exact (by omega); (first | exact hx); exact rfl) | (apply v_move; exact rfl; exact rfl) | (apply v_assign; exact rfl; exact rfl) | refine run_seq ?_ | refine run_region ?_ | refine runL_nil ?_ | refine run_skip ?_ | (apply v_loadA; exact tyA rfl; exact rfl; exact rfl; exact rfl; exact rfl; exact rfl; exact rfl) | (apply v_lenL; exact slA rfl; exact rfl; exact rfl) | (apply v_sub; exact rfl; exact rfl; exact rfl; exact (by omega))))
    exact run_ret idN _ Try.func60 ⟨_, _, rfl, rfl, rfl⟩ rfl trivial trivial rfl
theorem above5 {l : List Nd} (h : WF l) (a b : Int) : Fun Try.prog 63 [.sem (listS nodeE l), .v (.int .i64 a), .v (.int .i64 b)] [] (.v (.bool (decide (a ∈ ch l Nd.parent b)))) [] := by
  have hcl := ch_len (desc_par h) b
  have hlen := h.len
  refine fun_intro 12 Try.func63 rfl rfl rfl (fun ι F S w => ?_)
  (repeat (first | (apply v_cx; exact rfl; exact cbA rfl; (first | exact up_r h b | exact has_r a (by omega)); exact rfl; exact rfl) | (apply v_move; exact rfl; exact rfl) | (apply v_assign; exact rfl; exact rfl) | refine run_seq ?_ | refine run_region ?_ | refine runL_nil ?_))
  exact run_ret idN _ Try.func63 ⟨_, _, rfl, rfl, rfl⟩ rfl trivial trivial rfl
theorem root_ne {l : List Nd} (h : WF l) {id : Int} {x : Nd} (hx : nodeAt l id = some x) : rootM l id ≠ 0 := fun e => by
  obtain ⟨r, hr, _⟩ := root_some h hx
  rw [e, nodeAt_zero] at hr
  cases hr
theorem host8 {l : List Nd} (h : WF l) (id : Int) : Fun Try.prog 148 [.sem (listS nodeE l), .v (.int .i64 id)] [] (.v (.int .i64 (hostM l id))) [] := by
  have hlen := h.len
  have hr := root5 h id
  cases hx : nodeAt l id with
  | none =>
    rw [root_none h hx] at hr
    rw [host_none h hx]
    refine fun_intro 26 Try.func148 rfl rfl rfl (fun ι F S w => ?_)
    (repeat (first | (apply v_cx; exact rfl; exact cbA rfl; (first | exact hr); exact rfl; exact rfl) | (apply v_move; exact rfl; exact rfl) | (apply v_assign; exact rfl; exact rfl) | refine run_seq ?_ | refine run_region ?_ | refine runL_nil ?_ | (apply v_off; exact rfl; exact rfl) | (apply v_pick_t; exact rfl; exact rfl; exact rfl) | (apply run_cond; exact rfl; rotate_left; (focus (intro hb; cases hb; done)); intro hb; clear hb) | (apply v_eql; exact rfl; exact rfl; exact rfl)))
    exact run_ret idN _ Try.func148 ⟨_, _, rfl, rfl, rfl⟩ rfl trivial trivial rfl
  | some x =>
    obtain ⟨y, hy, _⟩ := root_some h hx
    have hne := root_ne h hx
    have hhy : hostM l id = y.host := by rw [hostM, nodeR_some hy]
    have hho := h.host hy
    rw [hhy]
    obtain ⟨y1, y2, y3⟩ := nodeAt_some hy
    generalize rootM l id = r0 at *
    refine fun_intro 26 Try.func148 rfl rfl rfl (fun ι F S w => ?_)
    (repeat (first | (apply v_cx; exact rfl; exact cbA rfl; (first | exact hr); exact rfl; exact rfl) | (apply v_move; exact rfl; exact rfl) | (apply v_assign; exact rfl; exact rfl) | refine run_seq ?_ | refine run_region ?_ | refine runL_nil ?_ | (apply v_eql; exact rfl; exact rfl; exact rfl)))
    refine v_is 11 false rfl (by simpa using hne) ?_
    (repeat (first | (apply v_idxL; exact slA rfl; exact tyA rfl; exact rfl; exact rfl; exact rfl; exact rfl; exact (by omega); (first | exact y3); exact rfl) | (apply v_move; exact rfl; exact rfl) | refine runL_nil ?_ | (apply v_fldA; exact flA rfl; exact rfl; exact rfl; exact rfl) | (apply v_loadA; exact tyA rfl; exact rfl; exact rfl; exact rfl; exact rfl; exact rfl; exact rfl) | (apply v_on; exact rfl) | (apply v_pick_f; exact rfl; exact rfl; exact rfl) | (apply v_neq; exact rfl; exact rfl; exact rfl) | (apply v_sub; exact rfl; exact rfl; exact rfl; exact (by omega))))
    refine run_cond rfl (fun hb => ?_) (fun hb => ?_)
    · have hk : y.kind ≠ 3 := by simpa using hb
      rw [hho.resolve_right fun e => hk e.1]
      (repeat (first | (apply v_assign; exact rfl; exact rfl) | refine run_seq ?_ | refine run_region ?_ | refine runL_nil ?_))
      exact run_ret idN _ Try.func148 ⟨_, _, rfl, rfl, rfl⟩ rfl trivial trivial rfl
    · (repeat (first | (apply v_idxL; exact slA rfl; exact tyA rfl; exact rfl; exact rfl; exact rfl; exact rfl; exact (by omega); (first | exact y3); exact rfl) | (apply v_move; exact rfl; exact rfl) | (apply v_assign; exact rfl; exact rfl) | refine run_seq ?_ | refine run_region ?_ | refine runL_nil ?_ | refine run_skip ?_ | (apply v_fldA; exact flA rfl; exact rfl; exact rfl; exact rfl) | (apply v_loadA; exact tyA rfl; exact rfl; exact rfl; exact rfl; exact rfl; exact rfl; exact rfl) | (apply v_sub; exact rfl; exact rfl; exact rfl; exact (by omega))))
      exact run_ret idN _ Try.func148 ⟨_, _, rfl, rfl, rfl⟩ rfl trivial trivial rfl
theorem holds8 {l : List Nd} (h : WF l) (a b : Int) : Fun Try.prog 97 [.sem (listS nodeE l), .v (.int .i64 a), .v (.int .i64 b)] [] (.v (.bool (decide (a ∈ ch l upX b)))) [] := by
  have hlen := h.len
  refine fun_intro 25 Try.func97 rfl rfl rfl (fun ι F S w => ?_)
  (repeat (first | (apply v_assign; exact rfl; exact rfl) | refine run_seq ?_ | refine run_region ?_ | refine runL_nil ?_ | refine run_block ?_))
  refine v_loop (fun q : Nat × Int => ⟨[(0, .sem (listS nodeE l)), (1, .v (.int .i64 a)), (2, .v (.int .i64 q.2)), (7, .v (.int .i64 q.1))], []⟩) (fun q => (a ∈ ch l upX q.2 ↔ a ∈ ch l upX b) ∧ (q.2 = 0 ∨ q.1 + (hs l q.2).length ≤ l.length)) (fun q => (hs l q.2).length + (if q.2 = 0 then 0 else 1)) (0, b) idN trivial (by repeat (first | exact trivial | refine ⟨rfl, ?_⟩)) (by repeat (first | exact trivial | refine ⟨rfl, ?_⟩)) rfl ⟨Iff.rfl, .inr (by have := hs_le h b; simpa using this)⟩ fun ⟨i, c⟩ ⟨hc, hi⟩ ih => ?_
  dsimp only at hc hi ⊢
  by_cases h0 : c = 0
  · have hd : decide (a ∈ ch l upX b) = false := decide_eq_false fun e => by
      have := hc.2 e
      rw [h0, ch_none nodeAt_zero] at this
      cases this
    rw [hd]
    by_cases hle : i ≤ l.length
    · (repeat (first | (apply v_move; exact rfl; exact rfl) | refine run_seq ?_ | refine run_region ?_ | (apply v_leq; exact rfl; exact rfl; exact rfl) | (apply v_lenL; exact slA rfl; exact rfl; exact rfl)))
      refine v_is 12 true rfl (by simp; omega) ?_
      (repeat (first | (apply v_move; exact rfl; exact rfl) | refine runL_nil ?_ | (apply v_on; exact rfl) | (apply v_pick_t; exact rfl; exact rfl; exact rfl) | (apply v_neq; exact rfl; exact rfl; exact rfl)))
      refine run_condN rfl (by simpa using h0) ?_
      (repeat (first | (apply v_assign; exact rfl; exact rfl) | refine run_seq ?_ | refine run_region ?_ | refine runL_nil ?_ | (apply run_exit; exact rfl)))
      exact run_ret idN _ Try.func97 ⟨_, _, rfl, rfl, rfl⟩ rfl trivial trivial rfl
    · (repeat (first | (apply v_move; exact rfl; exact rfl) | refine run_seq ?_ | refine run_region ?_ | (apply v_leq; exact rfl; exact rfl; exact rfl) | (apply v_lenL; exact slA rfl; exact rfl; exact rfl)))
      refine v_is 12 false rfl (by simp; omega) ?_
      (repeat (first | (apply v_assign; exact rfl; exact rfl) | refine run_seq ?_ | refine run_region ?_ | refine runL_nil ?_ | (apply run_exit; exact rfl) | (apply v_off; exact rfl; exact rfl) | (apply v_pick_f; exact rfl; exact rfl; exact rfl) | (apply run_cond; exact rfl; (focus (intro hb; cases hb; done)); intro hb; clear hb)))
      exact run_ret idN _ Try.func97 ⟨_, _, rfl, rfl, rfl⟩ rfl trivial trivial rfl
  · have hi := hi.resolve_left h0
    (repeat (first | (apply v_move; exact rfl; exact rfl) | refine run_seq ?_ | refine run_region ?_ | (apply v_leq; exact rfl; exact rfl; exact rfl) | (apply v_lenL; exact slA rfl; exact rfl; exact rfl)))
    refine v_is 12 true rfl (by simp; omega) ?_
    (repeat (first | (apply v_move; exact rfl; exact rfl) | refine runL_nil ?_ | (apply v_on; exact rfl) | (apply v_pick_t; exact rfl; exact rfl; exact rfl) | (apply v_neq; exact rfl; exact rfl; exact rfl)))
    refine run_condY rfl (by simpa using h0) ?_
    have hab := above5 h a c
    by_cases hm : a ∈ ch l Nd.parent c
    · have hd : decide (a ∈ ch l upX b) = true := decide_eq_true (hc.1 (par_up h hm))
      rw [decide_eq_true hm] at hab
      rw [hd]
      (repeat (first | (apply v_cx; exact rfl; exact cbA rfl; (first | exact hab); exact rfl; exact rfl) | (apply v_move; exact rfl; exact rfl) | (apply v_assign; exact rfl; exact rfl) | refine run_seq ?_ | refine run_region ?_ | refine runL_nil ?_ | refine run_skip ?_ | refine run_block ?_ | (apply run_cond; exact rfl; rotate_left; (focus (intro hb; cases hb; done)); intro hb; clear hb)))
      exact run_ret idN _ Try.func97 ⟨_, _, rfl, rfl, rfl⟩ rfl trivial trivial rfl
    · rw [decide_eq_false hm] at hab
      have hou := host8 h c
      have hsp := up_split h c
      have hiff : a ∈ ch l upX (hostM l c) ↔ a ∈ ch l upX c := by
        rw [hsp, List.mem_append]
        exact ⟨fun e => .inr e, fun e => e.resolve_left hm⟩
      cases hx : nodeAt l c with
      | none =>
        have hn := host_none h hx
        rw [hn] at hou hiff
        (repeat (first | (apply v_cx; exact rfl; exact cbA rfl; (first | exact hab | exact hou); exact rfl; exact rfl) | (apply v_move; exact rfl; exact rfl) | (apply v_assign; exact rfl; exact rfl) | refine run_seq ?_ | refine run_region ?_ | refine runL_nil ?_ | refine run_skip ?_ | refine run_block ?_ | refine run_inBlock ?_ | (apply run_cond; exact rfl; (focus (intro hb; cases hb; done)); intro hb; clear hb) | (apply v_add; exact rfl; exact rfl; exact rfl; exact (by omega))))
        exact v_again ih (i + 1, 0) idN trivial (by repeat (first | exact trivial | refine ⟨rfl, ?_⟩)) (by repeat (first | exact trivial | refine ⟨rfl, ?_⟩)) rfl ⟨hiff.trans hc, .inl rfl⟩ (by dsimp only; rw [hs_none nodeAt_zero, if_pos rfl, if_neg h0]; simp)
      | some x =>
        have hst := hs_step h hx
        have hh : (hs l c).length = (hs l (hostM l c)).length + 1 := by rw [hst, List.length_cons]
        generalize hostM l c = hc0 at *
        (repeat (first | (apply v_cx; exact rfl; exact cbA rfl; (first | exact hab | exact hou); exact rfl; exact rfl) | (apply v_move; exact rfl; exact rfl) | (apply v_assign; exact rfl; exact rfl) | refine run_seq ?_ | refine run_region ?_ | refine runL_nil ?_ | refine run_skip ?_ | refine run_block ?_ | refine run_inBlock ?_ | (apply run_cond; exact rfl; (focus (intro hb; cases hb; done)); intro hb; clear hb) | (apply v_add; exact rfl; exact rfl; exact rfl; exact (by omega))))
        exact v_again ih (i + 1, hc0) idN trivial (by repeat (first | exact trivial | refine ⟨rfl, ?_⟩)) (by repeat (first | exact trivial | refine ⟨rfl, ?_⟩)) rfl ⟨hiff.trans hc, .inr (by dsimp only; omega)⟩ (by dsimp only; rw [if_neg h0]; split <;> omega)
theorem whole8 {l : List Nd} (h : WF l) (id : Int) : Fun Try.prog 96 [.sem (listS nodeE l), .v (.int .i64 id)] [] (.v (.int .i64 (wholeM l id))) [] := by
  have hlen := h.len
  refine fun_intro 24 Try.func96 rfl rfl rfl (fun ι F S w => ?_)
  (repeat (first | (apply v_assign; exact rfl; exact rfl) | refine run_seq ?_ | refine run_region ?_ | refine runL_nil ?_ | refine run_block ?_))
  refine v_loop (fun q : Nat × Int => ⟨[(0, .sem (listS nodeE l)), (1, .v (.int .i64 q.2)), (5, .v (.int .i64 q.1))], []⟩) (fun q => wholeM l q.2 = wholeM l id ∧ q.1 + (hs l q.2).length ≤ l.length) (fun q => (hs l q.2).length) (0, id) idN trivial (by repeat (first | exact trivial | refine ⟨rfl, ?_⟩)) (by repeat (first | exact trivial | refine ⟨rfl, ?_⟩)) rfl ⟨rfl, by have := hs_le h id; simpa using this⟩ fun ⟨i, c⟩ ⟨hc, hi⟩ ih => ?_
  dsimp only at hc hi ⊢
  have hou := host8 h c
  have hrt := root5 h c
  cases hx : nodeAt l c with
  | none =>
    rw [host_none h hx] at hou
    rw [root_none h hx] at hrt
    rw [whole_none h hx] at hc
    rw [← hc]
    (repeat (first | (apply v_move; exact rfl; exact rfl) | refine run_seq ?_ | refine run_region ?_ | (apply v_leq; exact rfl; exact rfl; exact rfl) | (apply v_lenL; exact slA rfl; exact rfl; exact rfl)))
    refine v_is 10 true rfl (by simp; omega) ?_
    (repeat (first | (apply v_cx; exact rfl; exact cbA rfl; (first | exact hou); exact rfl; exact rfl) | (apply v_move; exact rfl; exact rfl) | refine run_seq ?_ | refine run_region ?_ | refine runL_nil ?_ | (apply run_exit; exact rfl) | (apply v_on; exact rfl) | (apply v_pick_t; exact rfl; exact rfl; exact rfl) | (apply run_cond; exact rfl; (focus (intro hb; cases hb; done)); intro hb; clear hb) | (apply v_neq; exact rfl; exact rfl; exact rfl)))
    (repeat (first | (apply v_cx; exact rfl; exact cbA rfl; (first | exact hrt); exact rfl; exact rfl) | (apply v_assign; exact rfl; exact rfl) | refine runL_nil ?_))
    exact run_ret idN _ Try.func96 ⟨_, _, rfl, rfl, rfl⟩ rfl trivial trivial rfl
  | some x =>
    have hst := hs_step h hx
    have hw := whole_step h hx
    have hh : (hs l c).length = (hs l (hostM l c)).length + 1 := by rw [hst, List.length_cons]
    generalize hostM l c = hc0 at *
    (repeat (first | (apply v_move; exact rfl; exact rfl) | refine run_seq ?_ | refine run_region ?_ | (apply v_leq; exact rfl; exact rfl; exact rfl) | (apply v_lenL; exact slA rfl; exact rfl; exact rfl)))
    refine v_is 10 true rfl (by simp; omega) ?_
    (repeat (first | (apply v_cx; exact rfl; exact cbA rfl; (first | exact hou); exact rfl; exact rfl) | (apply v_move; exact rfl; exact rfl) | refine runL_nil ?_ | (apply v_on; exact rfl) | (apply v_pick_t; exact rfl; exact rfl; exact rfl) | (apply v_neq; exact rfl; exact rfl; exact rfl)))
    refine run_cond rfl (fun hb => ?_) (fun hb => ?_)
    · have h0 : hc0 ≠ 0 := by simpa using hb
      rw [if_neg h0] at hw
      (repeat (first | (apply v_cx; exact rfl; exact cbA rfl; (first | exact hou); exact rfl; exact rfl) | (apply v_move; exact rfl; exact rfl) | (apply v_assign; exact rfl; exact rfl) | refine run_seq ?_ | refine run_region ?_ | refine runL_nil ?_ | refine run_skip ?_ | refine run_block ?_ | refine run_inBlock ?_ | (apply v_add; exact rfl; exact rfl; exact rfl; exact (by omega))))
      exact v_again ih (i + 1, hc0) idN trivial (by repeat (first | exact trivial | refine ⟨rfl, ?_⟩)) (by repeat (first | exact trivial | refine ⟨rfl, ?_⟩)) rfl ⟨by dsimp only; rw [← hw, hc], by dsimp only; omega⟩ (by dsimp only; omega)
    · have h0 : hc0 = 0 := by simpa using hb
      rw [if_pos h0] at hw
      rw [← hc, hw]
      (repeat (first | (apply v_cx; exact rfl; exact cbA rfl; (first | exact hrt); exact rfl; exact rfl) | (apply v_move; exact rfl; exact rfl) | (apply v_assign; exact rfl; exact rfl) | refine run_seq ?_ | refine run_region ?_ | refine runL_nil ?_ | (apply run_exit; exact rfl)))
      exact run_ret idN _ Try.func96 ⟨_, _, rfl, rfl, rfl⟩ rfl trivial trivial rfl
theorem hidden8 {l : List Nd} (h : WF l) (a b : Int) : Fun Try.prog 98 [.sem (listS nodeE l), .v (.int .i64 a), .v (.int .i64 b)] [] (.v (.bool (hiddenM l a b))) [] := by
  have hlen := h.len
  cases hb0 : nodeAt l b with
  | none =>
    rw [show hiddenM l a b = false by rw [hiddenM, hb0]; rfl]
    refine fun_intro 42 Try.func98 rfl rfl rfl (fun ι F S w => ?_)
    (repeat (first | (apply v_cx; exact rfl; exact cbA rfl; (first | exact there_n hb0); exact rfl; exact rfl) | (apply v_move; exact rfl; exact rfl) | (apply v_assign; exact rfl; exact rfl) | refine run_seq ?_ | refine run_region ?_ | refine runL_nil ?_ | (apply run_cond; exact rfl; rotate_left; (focus (intro hb; cases hb; done)); intro hb; clear hb) | (apply v_not; exact rfl; exact rfl)))
    exact run_ret idN _ Try.func98 ⟨_, _, rfl, rfl, rfl⟩ rfl trivial trivial rfl
  | some y =>
    rw [show hiddenM l a b = hidL l b (hs l a) by rw [hiddenM, hb0]; rfl]
    refine fun_intro 42 Try.func98 rfl rfl rfl (fun ι F S w => ?_)
    (repeat (first | (apply v_cx; exact rfl; exact cbA rfl; (first | exact there_s hb0); exact rfl; exact rfl) | (apply v_move; exact rfl; exact rfl) | (apply v_assign; exact rfl; exact rfl) | refine run_seq ?_ | refine run_region ?_ | refine runL_nil ?_ | refine run_skip ?_ | refine run_block ?_ | (apply run_cond; exact rfl; (focus (intro hb; cases hb; done)); intro hb; clear hb) | (apply v_not; exact rfl; exact rfl)))
    refine v_loop (fun q : Nat × Int => ⟨[(0, .sem (listS nodeE l)), (1, .v (.int .i64 q.2)), (2, .v (.int .i64 b)), (7, .v (.int .i64 q.1))], []⟩) (fun q => hidL l b (hs l q.2) = hidL l b (hs l a) ∧ q.1 + (hs l q.2).length ≤ l.length) (fun q => (hs l q.2).length) (0, a) idN trivial (by repeat (first | exact trivial | refine ⟨rfl, ?_⟩)) (by repeat (first | exact trivial | refine ⟨rfl, ?_⟩)) rfl ⟨rfl, by have := hs_le h a; simpa using this⟩ fun ⟨i, c⟩ ⟨hc, hi⟩ ih => ?_
    dsimp only at hc hi ⊢
    (repeat (first | (apply v_move; exact rfl; exact rfl) | refine run_seq ?_ | refine run_region ?_ | refine runL_nil ?_ | (apply v_leq; exact rfl; exact rfl; exact rfl) | (apply v_lenL; exact slA rfl; exact rfl; exact rfl)))
    refine run_condY rfl (by simp; omega) ?_
    have hou := host8 h c
    have hrt := root5 h c
    cases hx : nodeAt l c with
    | none =>
      rw [← hc, show hidL l b (hs l c) = false by rw [hs_none hx]; rfl]
      rw [host_none h hx] at hou
      (repeat (first | (apply v_cx; exact rfl; exact cbA rfl; (first | exact hrt | exact hou); exact rfl; exact rfl) | (apply v_move; exact rfl; exact rfl) | (apply v_assign; exact rfl; exact rfl) | refine run_seq ?_ | refine run_region ?_ | refine runL_nil ?_ | refine run_skip ?_ | refine run_block ?_ | (apply v_off; exact rfl; exact rfl) | (apply v_pick_t; exact rfl; exact rfl; exact rfl) | (apply run_cond; exact rfl; rotate_left; (focus (intro hb; cases hb; done)); intro hb; clear hb) | (apply v_eql; exact rfl; exact rfl; exact rfl)))
      exact run_ret idN _ Try.func98 ⟨_, _, rfl, rfl, rfl⟩ rfl trivial trivial rfl
    | some x =>
      have hst := hid_step h hx (b := b)
      have hh : (hs l c).length = (hs l (hostM l c)).length + 1 := by rw [hs_step h hx, List.length_cons]
      have hho := holds8 h (rootM l c) b
      obtain ⟨r, hr, _⟩ := root_some h hx
      have hrr := nodeR_some hr
      obtain ⟨r1, r2, r3⟩ := nodeAt_some hr
      rw [hrr] at hst
      generalize rootM l c = r0 at *
      generalize hostM l c = hc0 at *
      by_cases h0 : hc0 = 0
      · rw [if_pos (.inl h0)] at hst
        rw [← hc, hst]
        rw [h0] at hou
        (repeat (first | (apply v_cx; exact rfl; exact cbA rfl; (first | exact hrt | exact hou); exact rfl; exact rfl) | (apply v_move; exact rfl; exact rfl) | (apply v_assign; exact rfl; exact rfl) | refine run_seq ?_ | refine run_region ?_ | refine runL_nil ?_ | refine run_skip ?_ | refine run_block ?_ | (apply v_off; exact rfl; exact rfl) | (apply v_pick_t; exact rfl; exact rfl; exact rfl) | (apply run_cond; exact rfl; rotate_left; (focus (intro hb; cases hb; done)); intro hb; clear hb) | (apply v_eql; exact rfl; exact rfl; exact rfl)))
        exact run_ret idN _ Try.func98 ⟨_, _, rfl, rfl, rfl⟩ rfl trivial trivial rfl
      · by_cases hm : r0 ∈ ch l upX b
        · rw [if_pos (.inr hm)] at hst
          rw [← hc, hst]
          rw [decide_eq_true hm] at hho
          (repeat (first | (apply v_cx; exact rfl; exact cbA rfl; (first | exact hrt | exact hou); exact rfl; exact rfl) | (apply v_move; exact rfl; exact rfl) | (apply v_assign; exact rfl; exact rfl) | refine run_seq ?_ | refine run_region ?_ | refine runL_nil ?_ | refine run_skip ?_ | refine run_block ?_ | (apply v_eql; exact rfl; exact rfl; exact rfl)))
          refine v_is 26 false rfl (by simpa using h0) ?_
          (repeat (first | (apply v_cx; exact rfl; exact cbA rfl; (first | exact hho); exact rfl; exact rfl) | (apply v_move; exact rfl; exact rfl) | (apply v_assign; exact rfl; exact rfl) | refine run_seq ?_ | refine run_region ?_ | refine runL_nil ?_ | (apply v_on; exact rfl) | (apply v_pick_f; exact rfl; exact rfl; exact rfl) | (apply run_cond; exact rfl; rotate_left; (focus (intro hb; cases hb; done)); intro hb; clear hb)))
          exact run_ret idN _ Try.func98 ⟨_, _, rfl, rfl, rfl⟩ rfl trivial trivial rfl
        · rw [if_neg (fun e => e.elim h0 hm)] at hst
          rw [decide_eq_false hm] at hho
          (repeat (first | (apply v_cx; exact rfl; exact cbA rfl; (first | exact hrt | exact hou); exact rfl; exact rfl) | (apply v_move; exact rfl; exact rfl) | (apply v_assign; exact rfl; exact rfl) | refine run_seq ?_ | refine run_region ?_ | refine runL_nil ?_ | refine run_skip ?_ | refine run_block ?_ | (apply v_eql; exact rfl; exact rfl; exact rfl)))
          refine v_is 26 false rfl (by simpa using h0) ?_
          (repeat (first | (apply v_cx; exact rfl; exact cbA rfl; (first | exact hho); exact rfl; exact rfl) | (apply v_idxL; exact slA rfl; exact tyA rfl; exact rfl; exact rfl; exact rfl; exact rfl; exact (by omega); (first | exact r3); exact rfl) | (apply v_move; exact rfl; exact rfl) | refine run_seq ?_ | refine run_region ?_ | refine runL_nil ?_ | refine run_skip ?_ | (apply v_fldA; exact flA rfl; exact rfl; exact rfl; exact rfl) | (apply v_loadA; exact tyA rfl; exact rfl; exact rfl; exact rfl; exact rfl; exact rfl; exact rfl) | (apply v_on; exact rfl) | (apply v_pick_f; exact rfl; exact rfl; exact rfl) | (apply run_cond; exact rfl; (focus (intro hb; cases hb; done)); intro hb; clear hb) | (apply v_eql; exact rfl; exact rfl; exact rfl) | (apply v_sub; exact rfl; exact rfl; exact rfl; exact (by omega))))
          refine run_cond rfl (fun hk => ?_) (fun hk => ?_)
          · have hk : r.mode = 2 := by simpa using hk
            rw [if_pos hk] at hst
            rw [← hc, hst]
            (repeat (first | (apply v_assign; exact rfl; exact rfl) | refine run_seq ?_ | refine run_region ?_ | refine runL_nil ?_))
            exact run_ret idN _ Try.func98 ⟨_, _, rfl, rfl, rfl⟩ rfl trivial trivial rfl
          · have hk : r.mode ≠ 2 := by simpa using hk
            rw [if_neg hk] at hst
            (repeat (first | (apply v_cx; exact rfl; exact cbA rfl; (first | exact hou); exact rfl; exact rfl) | (apply v_move; exact rfl; exact rfl) | (apply v_assign; exact rfl; exact rfl) | refine run_region ?_ | refine runL_nil ?_ | refine run_skip ?_ | refine run_inBlock ?_ | (apply v_add; exact rfl; exact rfl; exact rfl; exact (by omega))))
            exact v_again ih (i + 1, hc0) idN trivial (by repeat (first | exact trivial | refine ⟨rfl, ?_⟩)) (by repeat (first | exact trivial | refine ⟨rfl, ?_⟩)) rfl ⟨by dsimp only; rw [← hst, hc], by dsimp only; omega⟩ (by dsimp only; omega)
theorem closed8 {l : List Nd} (h : WF l) (id : Int) : Fun Try.prog 99 [.sem (listS nodeE l), .v (.int .i64 id)] [] (.res 0) [(0, .obj (ownS 3 intE (closedM l id)))] := by
  have hlen := h.len
  refine fun_intro 49 Try.func99 rfl rfl rfl (fun ι F S w => ?_)
  (repeat (first | (apply v_assign; exact rfl; exact rfl) | refine run_seq ?_ | refine run_region ?_ | refine runL_nil ?_ | refine run_block ?_))
  refine run_own 5 5 3 intE rfl rfl rfl rfl ?_
  refine v_loop (fun q : Nat × Int × List Int => ⟨[(0, .sem (listS nodeE l)), (1, .v (.int .i64 q.2.1)), (5, .res 5), (6, .v (.int .i64 q.1))], [(5, .obj (ownS 3 intE q.2.2))]⟩) (fun q => q.2.2 ++ closedM l q.2.1 = closedM l id ∧ q.1 + (hs l q.2.1).length ≤ l.length ∧ q.2.2.length ≤ q.1) (fun q => l.length - q.1) (0, id, []) idN trivial (by repeat (first | exact trivial | refine ⟨rfl, ?_⟩)) (by repeat (first | exact trivial | refine ⟨rfl, ?_⟩)) rfl ⟨rfl, by have := hs_le h id; simpa using this, by simp⟩ fun ⟨i, c, out⟩ ⟨hc, hi, ho⟩ ih => ?_
  dsimp only at hc hi ho ⊢
  have hcn : nodeAt l c = none → closedM l c = [] := fun hx => by rw [closedM, rootsM, hs_none hx]; rfl
  by_cases hlt : i < l.length
  · (repeat (first | (apply v_move; exact rfl; exact rfl) | refine run_seq ?_ | refine run_region ?_ | (apply v_lss; exact rfl; exact rfl; exact rfl) | (apply v_lenL; exact slA rfl; exact rfl; exact rfl)))
    refine v_is 12 true rfl (by simp; omega) ?_
    (repeat (first | (apply v_move; exact rfl; exact rfl) | refine runL_nil ?_ | (apply v_on; exact rfl) | (apply v_pick_t; exact rfl; exact rfl; exact rfl) | (apply v_neq; exact rfl; exact rfl; exact rfl)))
    refine run_cond rfl (fun hb => ?_) (fun hb => ?_)
    · have h0 : c ≠ 0 := by simpa using hb
      have hou := host8 h c
      have hrt := root5 h c
      cases hx : nodeAt l c with
      | none =>
        rw [host_none h hx] at hou
        rw [root_none h hx] at hrt
        rw [hcn hx] at hc
        (repeat (first | (apply v_cx; exact rfl; exact cbA rfl; (first | exact hrt | exact hou); exact rfl; exact rfl) | (apply v_move; exact rfl; exact rfl) | (apply v_assign; exact rfl; exact rfl) | refine run_seq ?_ | refine run_region ?_ | refine runL_nil ?_ | refine run_skip ?_ | refine run_block ?_ | refine run_inBlock ?_ | (apply v_off; exact rfl; exact rfl) | (apply v_pick_f; exact rfl; exact rfl; exact rfl) | (apply run_cond; exact rfl; (focus (intro hb; cases hb; done)); intro hb; clear hb) | (apply v_neq; exact rfl; exact rfl; exact rfl) | (apply v_add; exact rfl; exact rfl; exact rfl; exact (by omega))))
        exact v_again ih (i + 1, 0, out) idN trivial (by repeat (first | exact trivial | refine ⟨rfl, ?_⟩)) ⟨rfl, trivial⟩ rfl ⟨by dsimp only; rw [← hc, closedM, rootsM, hs_none nodeAt_zero]; rfl, by dsimp only; rw [hs_none nodeAt_zero]; simp; omega, by dsimp only; omega⟩ (by dsimp only; omega)
      | some x =>
        have hst := closed_step h hx
        have hh : (hs l c).length = (hs l (hostM l c)).length + 1 := by rw [hs_step h hx, List.length_cons]
        obtain ⟨r, hr, _⟩ := root_some h hx
        have hrr := nodeR_some hr
        have hne := root_ne h hx
        obtain ⟨r1, r2, r3⟩ := nodeAt_some hr
        have hic : isClosed l (rootM l c) = (decide (r.kind = 3) && decide (r.mode = 2)) := by rw [isClosed, hrr]
        rw [hic] at hst
        generalize rootM l c = r0 at *
        generalize hostM l c = hc0 at *
        (repeat (first | (apply v_cx; exact rfl; exact cbA rfl; (first | exact hrt); exact rfl; exact rfl) | (apply v_move; exact rfl; exact rfl) | (apply v_assign; exact rfl; exact rfl) | refine run_seq ?_ | refine run_region ?_ | refine runL_nil ?_ | refine run_skip ?_ | refine run_block ?_ | (apply v_neq; exact rfl; exact rfl; exact rfl)))
        refine v_is 23 true rfl (by simpa using hne) ?_
        (repeat (first | (apply v_idxL; exact slA rfl; exact tyA rfl; exact rfl; exact rfl; exact rfl; exact rfl; exact (by omega); (first | exact r3); exact rfl) | (apply v_move; exact rfl; exact rfl) | (apply v_fldA; exact flA rfl; exact rfl; exact rfl; exact rfl) | (apply v_loadA; exact tyA rfl; exact rfl; exact rfl; exact rfl; exact rfl; exact rfl; exact rfl) | (apply v_on; exact rfl) | (apply v_pick_t; exact rfl; exact rfl; exact rfl) | (apply v_eql; exact rfl; exact rfl; exact rfl) | (apply v_sub; exact rfl; exact rfl; exact rfl; exact (by omega))))
        by_cases hk : r.kind = 3
        · refine v_is 32 true rfl (by simpa using hk) ?_
          (repeat (first | (apply v_idxL; exact slA rfl; exact tyA rfl; exact rfl; exact rfl; exact rfl; exact rfl; exact (by omega); (first | exact r3); exact rfl) | (apply v_move; exact rfl; exact rfl) | refine runL_nil ?_ | (apply v_fldA; exact flA rfl; exact rfl; exact rfl; exact rfl) | (apply v_loadA; exact tyA rfl; exact rfl; exact rfl; exact rfl; exact rfl; exact rfl; exact rfl) | (apply v_on; exact rfl) | (apply v_pick_t; exact rfl; exact rfl; exact rfl) | (apply v_eql; exact rfl; exact rfl; exact rfl) | (apply v_sub; exact rfl; exact rfl; exact rfl; exact (by omega))))
          refine run_cond rfl (fun hb => ?_) (fun hb => ?_)
          · have hmd : r.mode = 2 := by simpa using hb
            rw [decide_eq_true hk, decide_eq_true hmd] at hst
            (repeat (first | (apply v_move; exact rfl; exact rfl) | refine run_region ?_))
            refine v_l intE [r0] (slA rfl) (tyA rfl) rfl rfl rfl rfl rfl rfl rfl rfl rfl rfl ?_
            refine v_appendD (slA rfl) (tyA rfl) rfl rfl rfl rfl rfl rfl rfl (by simp; omega) rfl rfl rfl rfl ?_
            (repeat (first | (apply v_cx; exact rfl; exact cbA rfl; (first | exact hou); exact rfl; exact rfl) | (apply v_move; exact rfl; exact rfl) | (apply v_assign; exact rfl; exact rfl) | refine run_region ?_ | refine runL_nil ?_ | refine run_inBlock ?_ | (apply v_add; exact rfl; exact rfl; exact rfl; exact (by omega))))
            exact v_again ih (i + 1, hc0, out ++ [r0]) (mp [(5, 44)]) trivial (by repeat (first | exact trivial | refine ⟨rfl, ?_⟩)) ⟨rfl, trivial⟩ rfl ⟨by dsimp only; rw [← hc, hst]; simp, by dsimp only; omega, by dsimp only; simp; omega⟩ (by dsimp only; omega)
          · have hmd : r.mode ≠ 2 := by simpa using hb
            rw [decide_eq_true hk, decide_eq_false hmd] at hst
            (repeat (first | (apply v_cx; exact rfl; exact cbA rfl; (first | exact hou); exact rfl; exact rfl) | (apply v_move; exact rfl; exact rfl) | (apply v_assign; exact rfl; exact rfl) | refine run_region ?_ | refine runL_nil ?_ | refine run_skip ?_ | refine run_inBlock ?_ | (apply v_add; exact rfl; exact rfl; exact rfl; exact (by omega))))
            exact v_again ih (i + 1, hc0, out) idN trivial (by repeat (first | exact trivial | refine ⟨rfl, ?_⟩)) ⟨rfl, trivial⟩ rfl ⟨by dsimp only; rw [← hc, hst]; simp, by dsimp only; omega, by dsimp only; omega⟩ (by dsimp only; omega)
        · rw [decide_eq_false hk] at hst
          refine v_is 32 false rfl (by simpa using hk) ?_
          (repeat (first | (apply v_cx; exact rfl; exact cbA rfl; (first | exact hou); exact rfl; exact rfl) | (apply v_move; exact rfl; exact rfl) | (apply v_assign; exact rfl; exact rfl) | refine run_region ?_ | refine runL_nil ?_ | refine run_skip ?_ | refine run_inBlock ?_ | (apply v_off; exact rfl; exact rfl) | (apply v_pick_f; exact rfl; exact rfl; exact rfl) | (apply run_cond; exact rfl; (focus (intro hb; cases hb; done)); intro hb; clear hb) | (apply v_add; exact rfl; exact rfl; exact rfl; exact (by omega))))
          exact v_again ih (i + 1, hc0, out) idN trivial (by repeat (first | exact trivial | refine ⟨rfl, ?_⟩)) ⟨rfl, trivial⟩ rfl ⟨by dsimp only; rw [← hc, hst]; simp, by dsimp only; omega, by dsimp only; omega⟩ (by dsimp only; omega)
    · have h0 : c = 0 := by simpa using hb
      rw [hcn (by rw [h0]; exact nodeAt_zero), List.append_nil] at hc
      (repeat (first | (apply v_move; exact rfl; exact rfl) | (apply v_assign; exact rfl; exact rfl) | refine run_seq ?_ | refine run_region ?_ | refine runL_nil ?_ | (apply run_exit; exact rfl)))
      exact run_ret (mp [(0, 5)]) _ Try.func99 ⟨_, _, rfl, rfl, rfl⟩ rfl trivial ⟨by rw [← hc]; rfl, trivial⟩ rfl
  · have : hs l c = [] := List.eq_nil_of_length_eq_zero (by omega)
    have hcm : closedM l c = [] := by rw [closedM, rootsM, this]; rfl
    rw [hcm, List.append_nil] at hc
    (repeat (first | (apply v_move; exact rfl; exact rfl) | refine run_seq ?_ | refine run_region ?_ | (apply v_lss; exact rfl; exact rfl; exact rfl) | (apply v_lenL; exact slA rfl; exact rfl; exact rfl)))
    refine v_is 12 false rfl (by simp; omega) ?_
    (repeat (first | (apply v_move; exact rfl; exact rfl) | (apply v_assign; exact rfl; exact rfl) | refine run_seq ?_ | refine run_region ?_ | refine runL_nil ?_ | (apply run_exit; exact rfl) | (apply v_off; exact rfl; exact rfl) | (apply v_pick_f; exact rfl; exact rfl; exact rfl) | (apply run_cond; exact rfl; (focus (intro hb; cases hb; done)); intro hb; clear hb)))
    exact run_ret (mp [(0, 5)]) _ Try.func99 ⟨_, _, rfl, rfl, rfl⟩ rfl trivial ⟨by rw [← hc]; rfl, trivial⟩ rfl
theorem closed8p {l : List Nd} (h : WF l) (id : Int) : Fun Try.prog 99 [.sem (listS nodeE l), .v (.int .i64 id)] [] (.sem (listS intE (closedM l id))) [] := (closed8 h id).freeze
theorem aim10 {l : List Nd} (h : WF l) (a b : Int) : Fun Try.prog 75 [.sem (listS nodeE l), .v (.int .i64 a), .v (.int .i64 b)] [] (.v (.int .i64 (aimM l a b))) [] := by
  have hlen := h.len
  cases ha : nodeAt l a with
  | none =>
    rw [aim_none h ha]
    refine fun_intro 35 Try.func75 rfl rfl rfl (fun ι F S w => ?_)
    (repeat (first | (apply v_cx; exact rfl; exact cbA rfl; (first | exact there_n ha); exact rfl; exact rfl) | (apply v_move; exact rfl; exact rfl) | (apply v_assign; exact rfl; exact rfl) | refine run_seq ?_ | refine run_region ?_ | refine runL_nil ?_ | (apply run_cond; exact rfl; rotate_left; (focus (intro hb; cases hb; done)); intro hb; clear hb) | (apply v_not; exact rfl; exact rfl)))
    exact run_ret idN _ Try.func75 ⟨_, _, rfl, rfl, rfl⟩ rfl trivial trivial rfl
  | some xa =>
    refine fun_intro 35 Try.func75 rfl rfl rfl (fun ι F S w => ?_)
    (repeat (first | (apply v_cx; exact rfl; exact cbA rfl; (first | exact there_s ha); exact rfl; exact rfl) | (apply v_move; exact rfl; exact rfl) | (apply v_assign; exact rfl; exact rfl) | refine run_seq ?_ | refine run_region ?_ | refine runL_nil ?_ | refine run_skip ?_ | refine run_block ?_ | (apply run_cond; exact rfl; (focus (intro hb; cases hb; done)); intro hb; clear hb) | (apply v_not; exact rfl; exact rfl)))
    refine v_loop (fun q : Nat × Int => ⟨[(0, .sem (listS nodeE l)), (1, .v (.int .i64 q.2)), (2, .v (.int .i64 b)), (7, .v (.int .i64 q.1))], []⟩) (fun q => aimM l q.2 b = aimM l a b ∧ q.1 + (hs l q.2).length ≤ l.length ∧ (nodeAt l q.2).isSome = true) (fun q => (hs l q.2).length) (0, a) idN trivial (by repeat (first | exact trivial | refine ⟨rfl, ?_⟩)) (by repeat (first | exact trivial | refine ⟨rfl, ?_⟩)) rfl ⟨rfl, by have := hs_le h a; simpa using this, by rw [ha]; rfl⟩ fun ⟨i, c⟩ ⟨hc, hi, hsm⟩ ih => ?_
    dsimp only at hc hi hsm ⊢
    obtain ⟨x, hx⟩ := Option.isSome_iff_exists.1 hsm
    (repeat (first | (apply v_move; exact rfl; exact rfl) | refine run_seq ?_ | refine run_region ?_ | refine runL_nil ?_ | (apply v_leq; exact rfl; exact rfl; exact rfl) | (apply v_lenL; exact slA rfl; exact rfl; exact rfl)))
    refine run_condY rfl (by simp; omega) ?_
    have hou := host8 h c
    have hrt := root5 h c
    have hst := aim_step h hx (b := b)
    have hh : (hs l c).length = (hs l (hostM l c)).length + 1 := by rw [hs_step h hx, List.length_cons]
    have hho := holds8 h (rootM l c) b
    have hok := host_ok h c
    generalize rootM l c = r0 at *
    generalize hostM l c = hc0 at *
    by_cases h0 : hc0 = 0
    · rw [if_pos (.inl h0)] at hst
      rw [← hc, hst]
      rw [h0] at hou
      (repeat (first | (apply v_cx; exact rfl; exact cbA rfl; (first | exact hrt | exact hou); exact rfl; exact rfl) | (apply v_move; exact rfl; exact rfl) | (apply v_assign; exact rfl; exact rfl) | refine run_seq ?_ | refine run_region ?_ | refine runL_nil ?_ | refine run_skip ?_ | refine run_block ?_ | (apply v_off; exact rfl; exact rfl) | (apply v_pick_t; exact rfl; exact rfl; exact rfl) | (apply run_cond; exact rfl; rotate_left; (focus (intro hb; cases hb; done)); intro hb; clear hb) | (apply v_eql; exact rfl; exact rfl; exact rfl)))
      exact run_ret idN _ Try.func75 ⟨_, _, rfl, rfl, rfl⟩ rfl trivial trivial rfl
    · obtain ⟨y, hy, _⟩ := (hok.resolve_left h0).2
      by_cases hm : r0 ∈ ch l upX b
      · rw [if_pos (.inr hm)] at hst
        rw [← hc, hst]
        rw [decide_eq_true hm] at hho
        (repeat (first | (apply v_cx; exact rfl; exact cbA rfl; (first | exact hrt | exact hou); exact rfl; exact rfl) | (apply v_move; exact rfl; exact rfl) | refine run_seq ?_ | refine run_region ?_ | refine run_skip ?_ | refine run_block ?_ | (apply v_eql; exact rfl; exact rfl; exact rfl)))
        refine v_is 22 false rfl (by simpa using h0) ?_
        (repeat (first | (apply v_cx; exact rfl; exact cbA rfl; (first | exact hrt | exact hho); exact rfl; exact rfl) | (apply v_move; exact rfl; exact rfl) | (apply v_assign; exact rfl; exact rfl) | refine run_seq ?_ | refine run_region ?_ | refine runL_nil ?_ | (apply v_on; exact rfl) | (apply v_pick_f; exact rfl; exact rfl; exact rfl) | (apply run_cond; exact rfl; rotate_left; (focus (intro hb; cases hb; done)); intro hb; clear hb)))
        exact run_ret idN _ Try.func75 ⟨_, _, rfl, rfl, rfl⟩ rfl trivial trivial rfl
      · rw [if_neg (fun e => e.elim h0 hm)] at hst
        rw [decide_eq_false hm] at hho
        (repeat (first | (apply v_cx; exact rfl; exact cbA rfl; (first | exact hrt | exact hou); exact rfl; exact rfl) | (apply v_move; exact rfl; exact rfl) | refine run_seq ?_ | refine run_region ?_ | refine run_skip ?_ | refine run_block ?_ | (apply v_eql; exact rfl; exact rfl; exact rfl)))
        refine v_is 22 false rfl (by simpa using h0) ?_
        (repeat (first | (apply v_cx; exact rfl; exact cbA rfl; (first | exact hrt | exact hho | exact hou); exact rfl; exact rfl) | (apply v_move; exact rfl; exact rfl) | (apply v_assign; exact rfl; exact rfl) | refine run_region ?_ | refine runL_nil ?_ | refine run_skip ?_ | refine run_inBlock ?_ | (apply v_on; exact rfl) | (apply v_pick_f; exact rfl; exact rfl; exact rfl) | (apply run_cond; exact rfl; (focus (intro hb; cases hb; done)); intro hb; clear hb) | (apply v_add; exact rfl; exact rfl; exact rfl; exact (by omega))))
        exact v_again ih (i + 1, hc0) idN trivial (by repeat (first | exact trivial | refine ⟨rfl, ?_⟩)) (by repeat (first | exact trivial | refine ⟨rfl, ?_⟩)) rfl ⟨by dsimp only; rw [← hst, hc], by dsimp only; omega, by dsimp only; rw [hy]; rfl⟩ (by dsimp only; omega)
end Go.Proofs.Ytjkidecaciomgaa
