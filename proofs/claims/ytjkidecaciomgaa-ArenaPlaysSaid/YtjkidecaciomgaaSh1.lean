/- shade: out, Holds, roots, Whole, Hidden, Closed; aim. -/
import Derived.Test.YtjkidecaciomgaaFoS
namespace Go.Proofs.Ytjkidecaciomgaa
set_option linter.unusedVariables false
set_option linter.unusedSimpArgs false
set_option maxRecDepth 100000
open Go.RowKit

theorem out_f {l : List Nd} (h : WF l) (id : Int) : Fun Try.prog 147 [forA l, .v (.int .i64 id)] [] (.tup [.v (.int .i64 (rootM l id)), .v (.int .i64 (hostM l id))]) [] := by
  have hho := host_ok h id
  have hn := node_w h (rootM l id)
  have hr := root_f h id
  have hhe : hostM l id = (nodeR l (rootM l id)).host := rfl
  rw [hhe] at hho
  rw [hhe]
  generalize nodeR l (rootM l id) = x at *
  generalize rootM l id = u at *
  refine fun_intro 24 Try.func147 rfl rfl rfl (fun ι F S w => ?_)
  (repeat (first | (apply v_cx; exact rfl; exact cbA rfl; (first | exact hr | exact hn); exact rfl; exact rfl) | (apply v_move; exact rfl; exact rfl) | (apply v_assign; exact rfl; exact rfl) | refine run_seq ?_ | refine run_region ?_ | refine runL_nil ?_ | (apply v_extract; exact rfl; exact rfl; exact rfl) | (apply v_fldP; exact flA rfl; exact rfl; exact rfl; exact rfl) | (apply v_loadB; exact tyA rfl; exact rfl; exact rfl; exact rfl; exact rfl; exact rfl; exact rfl) | (apply v_neq; exact rfl; exact rfl; exact rfl) | (apply v_allocD; exact tyA rfl; exact rfl; exact rfl; exact rfl; exact rfl) | (apply v_storeW; exact tyA rfl; exact rfl; exact rfl; exact rfl; exact rfl; exact rfl; exact rfl; exact rfl)))
  refine run_cond rfl (fun hc => ?_) (fun hc => ?_)
  · have hk : x.kind ≠ 3 := by simpa using hc
    have h0 : x.host = 0 := hho.resolve_right fun e => hk e.1
    rw [h0]
    (repeat (first | (apply v_move; exact rfl; exact rfl) | (apply v_assign; exact rfl; exact rfl) | refine run_seq ?_ | refine run_region ?_ | refine runL_nil ?_))
    exact run_ret idN _ Try.func147 ⟨_, _, rfl, rfl, _, _, rfl, rfl, rfl⟩ rfl trivial trivial rfl
  · (repeat (first | refine run_seq ?_ | refine run_skip ?_))
    refine run_draws (by kernel_rfl) (by kernel_rfl) ?_
    (repeat (first | (apply p_move; exact rfl; exact rfl; exact rfl) | (apply p_assign; exact rfl; exact rfl; exact rfl) | (apply p_fldP; exact flA rfl; exact rfl; exact rfl; exact rfl; exact rfl) | (apply p_loadB; exact tyA rfl; exact rfl; exact rfl; exact rfl; exact rfl; exact rfl; exact rfl; exact rfl)))
    refine planL_nil (by kernel_rfl) ?_
    skip
    exact run_ret idN _ Try.func147 ⟨_, _, rfl, rfl, _, _, rfl, rfl, rfl⟩ rfl trivial trivial rfl
theorem holds_f {l : List Nd} (h : WF l) (a b : Int) : Fun Try.prog 73 [forA l, .v (.int .i64 a), .v (.int .i64 b)] [] (.v (.bool (decide (a ∈ ch l upX b)))) [] := by
  have hlen := h.len
  refine fun_intro 24 Try.func73 rfl rfl rfl (fun ι F S w => ?_)
  (repeat (first | (apply v_cx; exact rfl; exact cbA rfl; (first | exact len_f); exact rfl; exact rfl) | (apply v_move; exact rfl; exact rfl) | (apply v_assign; exact rfl; exact rfl) | refine run_seq ?_ | refine run_region ?_ | refine runL_nil ?_ | refine run_block ?_))
  refine v_loop (fun q : Nat × Int => ⟨[(0, forA l), (1, .v (.int .i64 a)), (2, .v (.int .i64 q.2)), (8, .v (.int .i64 l.length)), (9, .v (.int .i64 q.1))], []⟩) (fun q => (a ∈ ch l upX q.2 ↔ a ∈ ch l upX b) ∧ q.1 + (hs l q.2).length ≤ l.length) (fun q => l.length - q.1) (0, b) idN trivial (by repeat (first | exact trivial | refine ⟨rfl, ?_⟩)) (by repeat (first | exact trivial | refine ⟨rfl, ?_⟩)) rfl ⟨Iff.rfl, by have := hs_le h b; simpa using this⟩ fun ⟨i, c⟩ ⟨hc, hi⟩ ih => ?_
  simp only at hc hi
  (repeat (first | refine run_seq ?_ | refine run_region ?_ | refine runL_nil ?_ | (apply v_lss; exact rfl; exact rfl; exact rfl)))
  refine run_cond rfl (fun hb => ?_) (fun hb => ?_)
  · have hlt : i < l.length := by simpa using hb
    have hab := above_k h a c
    by_cases hm : a ∈ ch l Nd.parent c
    · have hd : decide (a ∈ ch l upX b) = true := decide_eq_true (hc.1 (par_up h hm))
      rw [decide_eq_true hm] at hab
      rw [hd]
      (repeat (first | (apply v_cx; exact rfl; exact cbA rfl; (first | exact hab); exact rfl; exact rfl) | (apply v_move; exact rfl; exact rfl) | (apply v_assign; exact rfl; exact rfl) | refine run_seq ?_ | refine run_region ?_ | refine runL_nil ?_ | refine run_skip ?_ | refine run_block ?_ | (apply run_cond; exact rfl; rotate_left; (focus (intro hb; cases hb; done)); intro hb; clear hb)))
      exact run_ret idN _ Try.func73 ⟨_, _, rfl, rfl, rfl⟩ rfl trivial trivial rfl
    · rw [decide_eq_false hm] at hab
      have hou := out_f h c
      have hsp := up_split h c
      have hst : ∀ x, nodeAt l c = some x → (hs l c).length = (hs l (hostM l c)).length + 1 := fun x hx => by rw [hs_step h hx, List.length_cons]
      have hnn : nodeAt l c = none → hostM l c = 0 := host_none h
      generalize rootM l c = r0 at *
      generalize hostM l c = h0 at *
      (repeat (first | (apply v_cx; exact rfl; exact cbA rfl; (first | exact hab | exact hou); exact rfl; exact rfl) | (apply v_move; exact rfl; exact rfl) | (apply v_assign; exact rfl; exact rfl) | refine run_seq ?_ | refine run_region ?_ | refine runL_nil ?_ | refine run_skip ?_ | refine run_block ?_ | (apply v_extract; exact rfl; exact rfl; exact rfl) | (apply run_cond; exact rfl; (focus (intro hb; cases hb; done)); intro hb; clear hb) | (apply v_eql; exact rfl; exact rfl; exact rfl)))
      refine run_cond rfl (fun hz => ?_) (fun hz => ?_)
      · have h00 : h0 = 0 := by simpa using hz
        have hd : decide (a ∈ ch l upX b) = false := decide_eq_false fun e => by
          have := hc.2 e
          rw [hsp, h00, ch_none nodeAt_zero, List.append_nil] at this
          exact hm this
        rw [hd]
        (repeat (first | (apply v_assign; exact rfl; exact rfl) | refine run_seq ?_ | refine run_region ?_ | refine runL_nil ?_))
        exact run_ret idN _ Try.func73 ⟨_, _, rfl, rfl, rfl⟩ rfl trivial trivial rfl
      · have h00 : h0 ≠ 0 := by simpa using hz
        cases hx : nodeAt l c with
        | none => exact absurd (hnn hx) h00
        | some x =>
          have := hst x hx
          (repeat (first | (apply v_move; exact rfl; exact rfl) | refine run_region ?_ | refine runL_nil ?_ | refine run_skip ?_ | refine run_inBlock ?_ | (apply v_add; exact rfl; exact rfl; exact rfl; exact (by omega))))
          exact v_again ih (i + 1, h0) idN trivial (by repeat (first | exact trivial | refine ⟨rfl, ?_⟩)) (by repeat (first | exact trivial | refine ⟨rfl, ?_⟩)) rfl ⟨by
            rw [← hc, hsp, List.mem_append]
            exact ⟨fun e => .inr e, fun e => e.resolve_left hm⟩, by simp only; omega⟩ (by simp only; omega)
  · have hge : l.length ≤ i := by have : ¬ i < l.length := (by simpa using hb); omega
    have hd : decide (a ∈ ch l upX b) = false := decide_eq_false fun e => by
      have h1 := hc.2 e
      obtain ⟨_, y, hy⟩ := up_there h h1
      have := hs_step h hy
      rw [this, List.length_cons] at hi
      omega
    rw [hd]
    (repeat (first | (apply v_assign; exact rfl; exact rfl) | refine run_seq ?_ | refine run_region ?_ | refine runL_nil ?_ | (apply run_exit; exact rfl)))
    exact run_ret idN _ Try.func73 ⟨_, _, rfl, rfl, rfl⟩ rfl trivial trivial rfl
theorem roots_f {l : List Nd} (h : WF l) (id : Int) : Fun Try.prog 155 [forA l, .v (.int .i64 id)] [] (.res 0) [(0, .obj (ownS 3 intE (rootsM l id)))] := by
  have hlen := h.len
  refine fun_intro 29 Try.func155 rfl rfl rfl (fun ι F S w => ?_)
  (repeat (first | (apply v_cx; exact rfl; exact cbA rfl; (first | exact len_f); exact rfl; exact rfl) | (apply v_move; exact rfl; exact rfl) | (apply v_assign; exact rfl; exact rfl) | refine run_seq ?_ | refine run_region ?_ | refine runL_nil ?_ | refine run_block ?_))
  refine run_own 5 5 3 intE rfl rfl rfl rfl ?_
  refine v_loop (fun q : Nat × Int × List Int => ⟨[(0, forA l), (1, .v (.int .i64 q.2.1)), (5, .res 5), (9, .v (.int .i64 l.length)), (10, .v (.int .i64 q.1))], [(5, .obj (ownS 3 intE q.2.2))]⟩) (fun q => q.2.2 ++ rootsM l q.2.1 = rootsM l id ∧ q.1 + (hs l q.2.1).length ≤ l.length ∧ q.2.2.length = q.1) (fun q => l.length - q.1) (0, id, []) idN trivial (by repeat (first | exact trivial | refine ⟨rfl, ?_⟩)) (by repeat (first | exact trivial | refine ⟨rfl, ?_⟩)) rfl ⟨rfl, by have := hs_le h id; simpa using this, rfl⟩ fun ⟨i, c, out⟩ ⟨hc, hi, ho⟩ ih => ?_
  simp only at hc hi ho
  (repeat (first | refine run_seq ?_ | refine run_region ?_ | refine runL_nil ?_ | (apply v_lss; exact rfl; exact rfl; exact rfl)))
  refine run_cond rfl (fun hb => ?_) (fun hb => ?_)
  · have hlt : i < l.length := by simpa using hb
    have hou := out_f h c
    cases hx : nodeAt l c with
    | none =>
      rw [root_none h hx, host_none h hx] at hou
      have hr : rootsM l c = [] := by rw [rootsM, hs_none hx]; rfl
      rw [hr, List.append_nil] at hc
      (repeat (first | (apply v_cx; exact rfl; exact cbA rfl; (first | exact hou); exact rfl; exact rfl) | (apply v_move; exact rfl; exact rfl) | (apply v_assign; exact rfl; exact rfl) | refine run_seq ?_ | refine run_region ?_ | refine runL_nil ?_ | refine run_skip ?_ | refine run_block ?_ | (apply run_exit; exact rfl) | (apply v_extract; exact rfl; exact rfl; exact rfl) | (apply run_cond; exact rfl; rotate_left; (focus (intro hb; cases hb; done)); intro hb; clear hb) | (apply v_eql; exact rfl; exact rfl; exact rfl)))
      exact run_ret (mp [(0, 5)]) _ Try.func155 ⟨_, _, rfl, rfl, rfl⟩ rfl trivial ⟨by rw [← hc]; rfl, trivial⟩ rfl
    | some x =>
      have hr : rootsM l c = rootM l c :: rootsM l (hostM l c) := by rw [rootsM, hs_step h hx]; rfl
      have hh : (hs l c).length = (hs l (hostM l c)).length + 1 := by rw [hs_step h hx, List.length_cons]
      have hr0 : rootM l c ≠ 0 := fun e => by
        obtain ⟨r, hr, _⟩ := root_some h hx
        rw [e, nodeAt_zero] at hr
        cases hr
      generalize rootM l c = r0 at *
      generalize hostM l c = h0 at *
      (repeat (first | (apply v_cx; exact rfl; exact cbA rfl; (first | exact hou); exact rfl; exact rfl) | (apply v_move; exact rfl; exact rfl) | (apply v_assign; exact rfl; exact rfl) | refine run_seq ?_ | refine run_region ?_ | refine runL_nil ?_ | refine run_skip ?_ | refine run_block ?_ | (apply v_extract; exact rfl; exact rfl; exact rfl) | (apply v_eql; exact rfl; exact rfl; exact rfl)))
      refine run_condN rfl (by simpa using hr0) ?_
      (repeat (first | (apply v_move; exact rfl; exact rfl) | refine run_seq ?_ | refine run_region ?_ | refine run_skip ?_))
      refine v_l intE [r0] (slA rfl) (tyA rfl) rfl rfl rfl rfl rfl rfl rfl rfl rfl rfl ?_
      refine v_appendD (slA rfl) (tyA rfl) rfl rfl rfl rfl rfl rfl rfl (by simp; omega) rfl rfl rfl rfl ?_
      (repeat (first | (apply v_move; exact rfl; exact rfl) | (apply v_assign; exact rfl; exact rfl) | refine run_seq ?_ | refine run_region ?_ | refine runL_nil ?_ | (apply v_eql; exact rfl; exact rfl; exact rfl)))
      refine run_cond rfl (fun hz => ?_) (fun hz => ?_)
      · have h00 : h0 = 0 := by simpa using hz
        have hr2 : rootsM l h0 = [] := by rw [h00, rootsM, hs_none nodeAt_zero]; rfl
        rw [hr, hr2] at hc
        (repeat (first | (apply v_move; exact rfl; exact rfl) | (apply v_assign; exact rfl; exact rfl) | refine run_seq ?_ | refine run_region ?_ | refine runL_nil ?_ | (apply run_exit; exact rfl)))
        exact run_ret (mp [(0, 23)]) _ Try.func155 ⟨_, _, rfl, rfl, rfl⟩ rfl trivial ⟨by rw [← hc]; rfl, trivial⟩ rfl
      · (repeat (first | (apply v_move; exact rfl; exact rfl) | (apply v_assign; exact rfl; exact rfl) | refine run_region ?_ | refine runL_nil ?_ | refine run_skip ?_ | refine run_inBlock ?_ | (apply v_add; exact rfl; exact rfl; exact rfl; exact (by omega))))
        exact v_again ih (i + 1, h0, out ++ [r0]) (mp [(5, 23)]) trivial (by repeat (first | exact trivial | refine ⟨rfl, ?_⟩)) ⟨rfl, trivial⟩ rfl ⟨by simp only; rw [← hc, hr]; simp, by simp only; omega, by simp [ho]⟩ (by simp only; omega)
  · have hge : l.length ≤ i := by have : ¬ i < l.length := (by simpa using hb); omega
    have hr : rootsM l c = [] := by
      have : hs l c = [] := List.eq_nil_of_length_eq_zero (by omega)
      rw [rootsM, this]; rfl
    rw [hr, List.append_nil] at hc
    (repeat (first | (apply v_move; exact rfl; exact rfl) | (apply v_assign; exact rfl; exact rfl) | refine run_seq ?_ | refine run_region ?_ | refine runL_nil ?_ | (apply run_exit; exact rfl)))
    exact run_ret (mp [(0, 5)]) _ Try.func155 ⟨_, _, rfl, rfl, rfl⟩ rfl trivial ⟨by rw [← hc]; rfl, trivial⟩ rfl
theorem roots_p {l : List Nd} (h : WF l) (id : Int) : Fun Try.prog 155 [forA l, .v (.int .i64 id)] [] (.sem (listS intE (rootsM l id))) [] := (roots_f h id).freeze
theorem roots_len {l : List Nd} (h : WF l) (id : Int) : (rootsM l id).length ≤ 128 := by
  have := hs_le h id
  have := h.len
  rw [rootsM, List.length_map]
  omega
theorem whole_f {l : List Nd} (h : WF l) (id : Int) : Fun Try.prog 94 [forA l, .v (.int .i64 id)] [] (.v (.int .i64 (wholeM l id))) [] := by
  have hl := roots_len h id
  have hp := roots_p h id
  have hw : wholeM l id = (rootsM l id).getLastD 0 := rfl
  rw [hw]
  generalize rootsM l id = u at *
  refine fun_intro 18 Try.func94 rfl rfl rfl (fun ι F S w => ?_)
  (repeat (first | (apply v_cx; exact rfl; exact cbA rfl; (first | exact hp); exact rfl; exact rfl) | (apply v_move; exact rfl; exact rfl) | (apply v_assign; exact rfl; exact rfl) | refine run_seq ?_ | refine run_region ?_ | refine runL_nil ?_ | (apply v_eql; exact rfl; exact rfl; exact rfl) | (apply v_lenL; exact slA rfl; exact rfl; exact rfl)))
  refine run_cond rfl (fun hc => ?_) (fun hc => ?_)
  · have h0 : u = [] := by simpa using hc
    subst h0
    (repeat (first | (apply v_assign; exact rfl; exact rfl) | refine run_seq ?_ | refine run_region ?_ | refine runL_nil ?_))
    exact run_ret idN _ Try.func94 ⟨_, _, rfl, rfl, rfl⟩ rfl trivial trivial rfl
  · have h0 : u ≠ [] := by simpa using hc
    have hpos : 0 < u.length := List.length_pos_iff.2 h0
    have hx : u[((u.length : Int) - 1).toNat]? = some (u.getLastD 0) := by
      rw [show ((u.length : Int) - 1).toNat = u.length - 1 by omega, ← List.getLast?_eq_getElem?, List.getLastD_eq_getLast?]
      cases he : u.getLast? with
      | none => rw [List.getLast?_eq_none_iff] at he; exact absurd he h0
      | some v => rfl
    (repeat (first | (apply v_idxL; exact slA rfl; exact tyA rfl; exact rfl; exact rfl; exact rfl; exact rfl; exact (by omega); (first | exact hx); exact rfl) | (apply v_move; exact rfl; exact rfl) | (apply v_assign; exact rfl; exact rfl) | refine run_seq ?_ | refine run_region ?_ | refine runL_nil ?_ | refine run_skip ?_ | (apply v_loadA; exact tyA rfl; exact rfl; exact rfl; exact rfl; exact rfl; exact rfl; exact rfl) | (apply v_lenL; exact slA rfl; exact rfl; exact rfl) | (apply v_sub; exact rfl; exact rfl; exact rfl; exact (by omega))))
    exact run_ret idN _ Try.func94 ⟨_, _, rfl, rfl, rfl⟩ rfl trivial trivial rfl
theorem hidden_f {l : List Nd} (h : WF l) (a b : Int) : Fun Try.prog 76 [forA l, .v (.int .i64 a), .v (.int .i64 b)] [] (.v (.bool (hiddenM l a b))) [] := by
  have hlen := h.len
  cases hb0 : nodeAt l b with
  | none =>
    rw [show hiddenM l a b = false by rw [hiddenM, hb0]; rfl]
    refine fun_intro 50 Try.func76 rfl rfl rfl (fun ι F S w => ?_)
    (repeat (first | (apply v_cx; exact rfl; exact cbA rfl; (first | exact node_n h hb0); exact rfl; exact rfl) | (apply v_move; exact rfl; exact rfl) | (apply v_assign; exact rfl; exact rfl) | refine run_seq ?_ | refine run_region ?_ | refine runL_nil ?_ | (apply v_extract; exact rfl; exact rfl; exact rfl) | (apply run_cond; exact rfl; rotate_left; (focus (intro hb; cases hb; done)); intro hb; clear hb) | (apply v_not; exact rfl; exact rfl) | (apply v_allocD; exact tyA rfl; exact rfl; exact rfl; exact rfl; exact rfl) | (apply v_storeW; exact tyA rfl; exact rfl; exact rfl; exact rfl; exact rfl; exact rfl; exact rfl; exact rfl)))
    exact run_ret idN _ Try.func76 ⟨_, _, rfl, rfl, rfl⟩ rfl trivial trivial rfl
  | some y =>
    rw [show hiddenM l a b = hidL l b (hs l a) by rw [hiddenM, hb0]; rfl]
    refine fun_intro 50 Try.func76 rfl rfl rfl (fun ι F S w => ?_)
    (repeat (first | (apply v_cx; exact rfl; exact cbA rfl; (first | exact node_s h hb0 | exact len_f); exact rfl; exact rfl) | (apply v_move; exact rfl; exact rfl) | (apply v_assign; exact rfl; exact rfl) | refine run_seq ?_ | refine run_region ?_ | refine runL_nil ?_ | refine run_skip ?_ | refine run_block ?_ | (apply v_extract; exact rfl; exact rfl; exact rfl) | (apply run_cond; exact rfl; (focus (intro hb; cases hb; done)); intro hb; clear hb) | (apply v_not; exact rfl; exact rfl) | (apply v_allocD; exact tyA rfl; exact rfl; exact rfl; exact rfl; exact rfl) | (apply v_storeW; exact tyA rfl; exact rfl; exact rfl; exact rfl; exact rfl; exact rfl; exact rfl; exact rfl)))
    refine v_loop (fun q : Nat × Int => ⟨[(0, forA l), (1, .v (.int .i64 q.2)), (2, .v (.int .i64 b)), (22, .v (.int .i64 l.length)), (23, .v (.int .i64 q.1))], []⟩) (fun q => hidL l b (hs l q.2) = hidL l b (hs l a) ∧ q.1 + (hs l q.2).length ≤ l.length) (fun q => l.length - q.1) (0, a) idN trivial (by repeat (first | exact trivial | refine ⟨rfl, ?_⟩)) (by repeat (first | exact trivial | refine ⟨rfl, ?_⟩)) rfl ⟨rfl, by have := hs_le h a; simpa using this⟩ fun ⟨i, c⟩ ⟨hc, hi⟩ ih => ?_
    simp only at hc hi
    (repeat (first | refine run_seq ?_ | refine run_region ?_ | refine runL_nil ?_ | (apply v_lss; exact rfl; exact rfl; exact rfl)))
    refine run_cond rfl (fun hb => ?_) (fun hb => ?_)
    · have hlt : i < l.length := by simpa using hb
      have hou := out_f h c
      cases hx : nodeAt l c with
      | none =>
        rw [← hc, show hidL l b (hs l c) = false by rw [hs_none hx]; rfl]
        rw [host_none h hx] at hou
        (repeat (first | (apply v_cx; exact rfl; exact cbA rfl; (first | exact hou); exact rfl; exact rfl) | (apply v_move; exact rfl; exact rfl) | (apply v_assign; exact rfl; exact rfl) | refine run_seq ?_ | refine run_region ?_ | refine runL_nil ?_ | refine run_skip ?_ | refine run_block ?_ | (apply v_extract; exact rfl; exact rfl; exact rfl) | (apply v_off; exact rfl; exact rfl) | (apply v_pick_t; exact rfl; exact rfl; exact rfl) | (apply run_cond; exact rfl; rotate_left; (focus (intro hb; cases hb; done)); intro hb; clear hb) | (apply v_eql; exact rfl; exact rfl; exact rfl)))
        exact run_ret idN _ Try.func76 ⟨_, _, rfl, rfl, rfl⟩ rfl trivial trivial rfl
      | some x =>
        have hst := hid_step h hx (b := b)
        have hh : (hs l c).length = (hs l (hostM l c)).length + 1 := by rw [hs_step h hx, List.length_cons]
        have hho := holds_f h (rootM l c) b
        have hn := node_w h (rootM l c)
        by_cases h0 : hostM l c = 0
        · rw [if_pos (.inl h0)] at hst
          rw [← hc, hst]
          rw [h0] at hou
          (repeat (first | (apply v_cx; exact rfl; exact cbA rfl; (first | exact hou); exact rfl; exact rfl) | (apply v_move; exact rfl; exact rfl) | (apply v_assign; exact rfl; exact rfl) | refine run_seq ?_ | refine run_region ?_ | refine runL_nil ?_ | refine run_skip ?_ | refine run_block ?_ | (apply v_extract; exact rfl; exact rfl; exact rfl) | (apply v_off; exact rfl; exact rfl) | (apply v_pick_t; exact rfl; exact rfl; exact rfl) | (apply run_cond; exact rfl; rotate_left; (focus (intro hb; cases hb; done)); intro hb; clear hb) | (apply v_eql; exact rfl; exact rfl; exact rfl)))
          exact run_ret idN _ Try.func76 ⟨_, _, rfl, rfl, rfl⟩ rfl trivial trivial rfl
        · by_cases hm : rootM l c ∈ ch l upX b
          · rw [if_pos (.inr hm)] at hst
            rw [← hc, hst]
            rw [decide_eq_true hm] at hho
            (repeat (first | (apply v_cx; exact rfl; exact cbA rfl; (first | exact hou); exact rfl; exact rfl) | (apply v_move; exact rfl; exact rfl) | (apply v_assign; exact rfl; exact rfl) | refine run_seq ?_ | refine run_region ?_ | refine runL_nil ?_ | refine run_skip ?_ | refine run_block ?_ | (apply v_extract; exact rfl; exact rfl; exact rfl) | (apply v_eql; exact rfl; exact rfl; exact rfl)))
            refine v_is 33 false rfl (by simpa using h0) ?_
            (repeat (first | (apply v_cx; exact rfl; exact cbA rfl; (first | exact hho); exact rfl; exact rfl) | (apply v_move; exact rfl; exact rfl) | (apply v_assign; exact rfl; exact rfl) | refine run_seq ?_ | refine run_region ?_ | refine runL_nil ?_ | (apply v_on; exact rfl) | (apply v_pick_f; exact rfl; exact rfl; exact rfl) | (apply run_cond; exact rfl; rotate_left; (focus (intro hb; cases hb; done)); intro hb; clear hb)))
            exact run_ret idN _ Try.func76 ⟨_, _, rfl, rfl, rfl⟩ rfl trivial trivial rfl
          · rw [if_neg (fun e => e.elim h0 hm)] at hst
            rw [decide_eq_false hm] at hho
            (repeat (first | (apply v_cx; exact rfl; exact cbA rfl; (first | exact hou); exact rfl; exact rfl) | (apply v_move; exact rfl; exact rfl) | (apply v_assign; exact rfl; exact rfl) | refine run_seq ?_ | refine run_region ?_ | refine runL_nil ?_ | refine run_skip ?_ | refine run_block ?_ | (apply v_extract; exact rfl; exact rfl; exact rfl) | (apply v_eql; exact rfl; exact rfl; exact rfl)))
            refine v_is 33 false rfl (by simpa using h0) ?_
            (repeat (first | (apply v_cx; exact rfl; exact cbA rfl; (first | exact hho | exact hn); exact rfl; exact rfl) | (apply v_move; exact rfl; exact rfl) | (apply v_assign; exact rfl; exact rfl) | refine run_seq ?_ | refine run_region ?_ | refine runL_nil ?_ | refine run_skip ?_ | (apply v_extract; exact rfl; exact rfl; exact rfl) | (apply v_fldP; exact flA rfl; exact rfl; exact rfl; exact rfl) | (apply v_loadB; exact tyA rfl; exact rfl; exact rfl; exact rfl; exact rfl; exact rfl; exact rfl) | (apply v_on; exact rfl) | (apply v_pick_f; exact rfl; exact rfl; exact rfl) | (apply run_cond; exact rfl; (focus (intro hb; cases hb; done)); intro hb; clear hb) | (apply v_eql; exact rfl; exact rfl; exact rfl) | (apply v_allocD; exact tyA rfl; exact rfl; exact rfl; exact rfl; exact rfl) | (apply v_storeW; exact tyA rfl; exact rfl; exact rfl; exact rfl; exact rfl; exact rfl; exact rfl; exact rfl)))
            refine run_cond rfl (fun hk => ?_) (fun hk => ?_)
            · have hk : (nodeR l (rootM l c)).mode = 2 := by simpa using hk
              rw [if_pos hk] at hst
              rw [← hc, hst]
              (repeat (first | (apply v_assign; exact rfl; exact rfl) | refine run_seq ?_ | refine run_region ?_ | refine runL_nil ?_))
              exact run_ret idN _ Try.func76 ⟨_, _, rfl, rfl, rfl⟩ rfl trivial trivial rfl
            · have hk : (nodeR l (rootM l c)).mode ≠ 2 := by simpa using hk
              rw [if_neg hk] at hst
              (repeat (first | (apply v_move; exact rfl; exact rfl) | (apply v_assign; exact rfl; exact rfl) | refine run_region ?_ | refine runL_nil ?_ | refine run_skip ?_ | refine run_inBlock ?_ | (apply v_add; exact rfl; exact rfl; exact rfl; exact (by omega))))
              exact v_again ih (i + 1, hostM l c) idN trivial (by repeat (first | exact trivial | refine ⟨rfl, ?_⟩)) (by repeat (first | exact trivial | refine ⟨rfl, ?_⟩)) rfl ⟨by simp only; rw [← hst, hc], by simp only; omega⟩ (by simp only; omega)
    · have hge : l.length ≤ i := by have : ¬ i < l.length := (by simpa using hb); omega
      have : hs l c = [] := List.eq_nil_of_length_eq_zero (by omega)
      rw [← hc, this]
      (repeat (first | (apply v_assign; exact rfl; exact rfl) | refine run_seq ?_ | refine run_region ?_ | refine runL_nil ?_ | (apply run_exit; exact rfl)))
      exact run_ret idN _ Try.func76 ⟨_, _, rfl, rfl, rfl⟩ rfl trivial trivial rfl
theorem aim_f {l : List Nd} (h : WF l) (a b : Int) : Fun Try.prog 72 [forA l, .v (.int .i64 a), .v (.int .i64 b)] [] (.v (.int .i64 (aimM l a b))) [] := by
  have hlen := h.len
  refine fun_intro 40 Try.func72 rfl rfl rfl (fun ι F S w => ?_)
  (repeat (first | (apply v_assign; exact rfl; exact rfl) | refine run_seq ?_ | refine run_region ?_ | refine runL_nil ?_ | refine run_block ?_))
  refine v_loop (fun c : Int => ⟨[(0, forA l), (1, .v (.int .i64 c)), (2, .v (.int .i64 b))], []⟩) (fun c => aimM l c b = aimM l a b) (fun c => (hs l c).length) a idN trivial (by repeat (first | exact trivial | refine ⟨rfl, ?_⟩)) (by repeat (first | exact trivial | refine ⟨rfl, ?_⟩)) rfl rfl fun c hc ih => ?_
  have hr := root_f h c
  cases hx : nodeAt l c with
  | none =>
    rw [root_none h hx] at hr
    rw [← hc, aim_none h hx]
    (repeat (first | (apply v_cx; exact rfl; exact cbA rfl; (first | exact hr | exact node_n h nodeAt_zero); exact rfl; exact rfl) | (apply v_move; exact rfl; exact rfl) | (apply v_assign; exact rfl; exact rfl) | refine run_seq ?_ | refine run_region ?_ | refine runL_nil ?_ | refine run_block ?_ | (apply v_extract; exact rfl; exact rfl; exact rfl) | (apply run_cond; exact rfl; rotate_left; (focus (intro hb; cases hb; done)); intro hb; clear hb) | (apply v_not; exact rfl; exact rfl) | (apply v_allocD; exact tyA rfl; exact rfl; exact rfl; exact rfl; exact rfl) | (apply v_storeW; exact tyA rfl; exact rfl; exact rfl; exact rfl; exact rfl; exact rfl; exact rfl; exact rfl)))
    exact run_ret idN _ Try.func72 ⟨_, _, rfl, rfl, rfl⟩ rfl trivial trivial rfl
  | some x =>
    have hst := aim_step h hx (b := b)
    have hh : (hs l c).length = (hs l (hostM l c)).length + 1 := by rw [hs_step h hx, List.length_cons]
    have hho := holds_f h (rootM l c) b
    obtain ⟨r, hr2, _⟩ := root_some h hx
    have hn := node_s h hr2
    have hhr : hostM l c = r.host := by rw [hostM, nodeR_some hr2]
    have hok := h.host hr2
    rw [hhr] at hst hh
    by_cases h0 : r.host = 0
    · rw [if_pos (.inl h0)] at hst
      rw [← hc, hst]
      by_cases hk : r.kind = 3
      · (repeat (first | (apply v_cx; exact rfl; exact cbA rfl; (first | exact hr | exact hn); exact rfl; exact rfl) | (apply v_move; exact rfl; exact rfl) | (apply v_assign; exact rfl; exact rfl) | refine run_seq ?_ | refine run_region ?_ | refine runL_nil ?_ | refine run_block ?_ | (apply v_extract; exact rfl; exact rfl; exact rfl) | (apply v_fldP; exact flA rfl; exact rfl; exact rfl; exact rfl) | (apply v_loadB; exact tyA rfl; exact rfl; exact rfl; exact rfl; exact rfl; exact rfl; exact rfl) | (apply run_cond; exact rfl; (focus (intro hb; cases hb; done)); intro hb; clear hb) | (apply v_not; exact rfl; exact rfl) | (apply v_neq; exact rfl; exact rfl; exact rfl) | (apply v_allocD; exact tyA rfl; exact rfl; exact rfl; exact rfl; exact rfl) | (apply v_storeW; exact tyA rfl; exact rfl; exact rfl; exact rfl; exact rfl; exact rfl; exact rfl; exact rfl)))
        refine v_is 26 false rfl (by simp [hk]) ?_
        (repeat (first | (apply v_move; exact rfl; exact rfl) | (apply v_fldP; exact flA rfl; exact rfl; exact rfl; exact rfl) | (apply v_loadB; exact tyA rfl; exact rfl; exact rfl; exact rfl; exact rfl; exact rfl; exact rfl) | (apply v_on; exact rfl) | (apply v_pick_f; exact rfl; exact rfl; exact rfl) | (apply v_eql; exact rfl; exact rfl; exact rfl)))
        refine v_is 31 true rfl (by simp [h0]) ?_
        (repeat (first | (apply v_move; exact rfl; exact rfl) | (apply v_assign; exact rfl; exact rfl) | refine run_seq ?_ | refine run_region ?_ | refine runL_nil ?_ | (apply v_off; exact rfl; exact rfl) | (apply v_pick_t; exact rfl; exact rfl; exact rfl) | (apply run_cond; exact rfl; rotate_left; (focus (intro hb; cases hb; done)); intro hb; clear hb)))
        exact run_ret idN _ Try.func72 ⟨_, _, rfl, rfl, rfl⟩ rfl trivial trivial rfl
      · (repeat (first | (apply v_cx; exact rfl; exact cbA rfl; (first | exact hr | exact hn); exact rfl; exact rfl) | (apply v_move; exact rfl; exact rfl) | (apply v_assign; exact rfl; exact rfl) | refine run_seq ?_ | refine run_region ?_ | refine runL_nil ?_ | refine run_block ?_ | (apply v_extract; exact rfl; exact rfl; exact rfl) | (apply v_fldP; exact flA rfl; exact rfl; exact rfl; exact rfl) | (apply v_loadB; exact tyA rfl; exact rfl; exact rfl; exact rfl; exact rfl; exact rfl; exact rfl) | (apply run_cond; exact rfl; (focus (intro hb; cases hb; done)); intro hb; clear hb) | (apply v_not; exact rfl; exact rfl) | (apply v_neq; exact rfl; exact rfl; exact rfl) | (apply v_allocD; exact tyA rfl; exact rfl; exact rfl; exact rfl; exact rfl) | (apply v_storeW; exact tyA rfl; exact rfl; exact rfl; exact rfl; exact rfl; exact rfl; exact rfl; exact rfl)))
        refine v_is 26 true rfl (by simp [hk]) ?_
        (repeat (first | (apply v_move; exact rfl; exact rfl) | (apply v_assign; exact rfl; exact rfl) | refine run_seq ?_ | refine run_region ?_ | refine runL_nil ?_ | (apply v_off; exact rfl; exact rfl) | (apply v_pick_t; exact rfl; exact rfl; exact rfl) | (apply run_cond; exact rfl; rotate_left; (focus (intro hb; cases hb; done)); intro hb; clear hb)))
        exact run_ret idN _ Try.func72 ⟨_, _, rfl, rfl, rfl⟩ rfl trivial trivial rfl
    · have hk : r.kind = 3 := (hok.resolve_left h0).1
      by_cases hm : rootM l c ∈ ch l upX b
      · rw [if_pos (.inr hm)] at hst
        rw [← hc, hst]
        rw [decide_eq_true hm] at hho
        (repeat (first | (apply v_cx; exact rfl; exact cbA rfl; (first | exact hr | exact hn); exact rfl; exact rfl) | (apply v_move; exact rfl; exact rfl) | (apply v_assign; exact rfl; exact rfl) | refine run_seq ?_ | refine run_region ?_ | refine runL_nil ?_ | refine run_block ?_ | (apply v_extract; exact rfl; exact rfl; exact rfl) | (apply v_fldP; exact flA rfl; exact rfl; exact rfl; exact rfl) | (apply v_loadB; exact tyA rfl; exact rfl; exact rfl; exact rfl; exact rfl; exact rfl; exact rfl) | (apply run_cond; exact rfl; (focus (intro hb; cases hb; done)); intro hb; clear hb) | (apply v_not; exact rfl; exact rfl) | (apply v_neq; exact rfl; exact rfl; exact rfl) | (apply v_allocD; exact tyA rfl; exact rfl; exact rfl; exact rfl; exact rfl) | (apply v_storeW; exact tyA rfl; exact rfl; exact rfl; exact rfl; exact rfl; exact rfl; exact rfl; exact rfl)))
        refine v_is 26 false rfl (by simp [hk]) ?_
        (repeat (first | (apply v_move; exact rfl; exact rfl) | (apply v_fldP; exact flA rfl; exact rfl; exact rfl; exact rfl) | (apply v_loadB; exact tyA rfl; exact rfl; exact rfl; exact rfl; exact rfl; exact rfl; exact rfl) | (apply v_on; exact rfl) | (apply v_pick_f; exact rfl; exact rfl; exact rfl) | (apply v_eql; exact rfl; exact rfl; exact rfl)))
        refine v_is 31 false rfl (by simp [h0]) ?_
        (repeat (first | (apply v_cx; exact rfl; exact cbA rfl; (first | exact hho); exact rfl; exact rfl) | (apply v_move; exact rfl; exact rfl) | (apply v_assign; exact rfl; exact rfl) | refine run_seq ?_ | refine run_region ?_ | refine runL_nil ?_ | (apply v_on; exact rfl) | (apply v_pick_f; exact rfl; exact rfl; exact rfl) | (apply run_cond; exact rfl; rotate_left; (focus (intro hb; cases hb; done)); intro hb; clear hb)))
        exact run_ret idN _ Try.func72 ⟨_, _, rfl, rfl, rfl⟩ rfl trivial trivial rfl
      · rw [if_neg (fun e => e.elim h0 hm)] at hst
        rw [decide_eq_false hm] at hho
        (repeat (first | (apply v_cx; exact rfl; exact cbA rfl; (first | exact hr | exact hn); exact rfl; exact rfl) | (apply v_move; exact rfl; exact rfl) | (apply v_assign; exact rfl; exact rfl) | refine run_seq ?_ | refine run_region ?_ | refine runL_nil ?_ | refine run_block ?_ | (apply v_extract; exact rfl; exact rfl; exact rfl) | (apply v_fldP; exact flA rfl; exact rfl; exact rfl; exact rfl) | (apply v_loadB; exact tyA rfl; exact rfl; exact rfl; exact rfl; exact rfl; exact rfl; exact rfl) | (apply run_cond; exact rfl; (focus (intro hb; cases hb; done)); intro hb; clear hb) | (apply v_not; exact rfl; exact rfl) | (apply v_neq; exact rfl; exact rfl; exact rfl) | (apply v_allocD; exact tyA rfl; exact rfl; exact rfl; exact rfl; exact rfl) | (apply v_storeW; exact tyA rfl; exact rfl; exact rfl; exact rfl; exact rfl; exact rfl; exact rfl; exact rfl)))
        refine v_is 26 false rfl (by simp [hk]) ?_
        (repeat (first | (apply v_move; exact rfl; exact rfl) | (apply v_fldP; exact flA rfl; exact rfl; exact rfl; exact rfl) | (apply v_loadB; exact tyA rfl; exact rfl; exact rfl; exact rfl; exact rfl; exact rfl; exact rfl) | (apply v_on; exact rfl) | (apply v_pick_f; exact rfl; exact rfl; exact rfl) | (apply v_eql; exact rfl; exact rfl; exact rfl)))
        refine v_is 31 false rfl (by simp [h0]) ?_
        (repeat (first | (apply v_cx; exact rfl; exact cbA rfl; (first | exact hho); exact rfl; exact rfl) | (apply v_move; exact rfl; exact rfl) | (apply v_assign; exact rfl; exact rfl) | refine run_region ?_ | refine runL_nil ?_ | refine run_skip ?_ | refine run_inBlock ?_ | (apply v_fldP; exact flA rfl; exact rfl; exact rfl; exact rfl) | (apply v_loadB; exact tyA rfl; exact rfl; exact rfl; exact rfl; exact rfl; exact rfl; exact rfl) | (apply v_on; exact rfl) | (apply v_pick_f; exact rfl; exact rfl; exact rfl) | (apply run_cond; exact rfl; (focus (intro hb; cases hb; done)); intro hb; clear hb)))
        exact v_again ih r.host idN trivial (by repeat (first | exact trivial | refine ⟨rfl, ?_⟩)) (by repeat (first | exact trivial | refine ⟨rfl, ?_⟩)) rfl (by rw [← hst, hc]) (by omega)
end Go.Proofs.Ytjkidecaciomgaa
