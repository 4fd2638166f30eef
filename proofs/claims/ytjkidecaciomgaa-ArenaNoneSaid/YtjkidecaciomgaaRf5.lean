/- The reference's nodes: Over, Up, Tie, Name, Want. -/
import Derived.Test.YtjkidecaciomgaaRf4
namespace Go.Proofs.Ytjkidecaciomgaa
set_option linter.unusedVariables false
set_option linter.unusedSimpArgs false
set_option maxRecDepth 100000
open Go.RowKit

theorem kids_all {l : List Nd} (h : WF l) : ∀ x ∈ l, x.kids.length ≤ 1000000 := fun x hx => by
  obtain ⟨i, hi, e⟩ := List.getElem_of_mem hx
  refine (kids_ok h ((i : Int) + 1) x ?_).1
  unfold nodeAt
  rw [if_pos (by omega), show ((i : Int) + 1 - 1).toNat = i by omega, List.getElem?_eq_getElem hi, e]
theorem copy_w {l : List Nd} (h : WF l) : Fun Try.prog 166 [.sem (listS nodeE l)] [] (.res 0) [(0, .obj (ownS 33 nodeE l))] := copy_r (by have := h.len; omega) (kids_all h)
theorem over_o {l : List Nd} (h : WF l) (id : Int) : Fun Try.prog 44 [.sem (listS nodeE l), .v (.int .i64 id)] [] (.res 0) [(0, .obj (ownS 3 intE (ch l upX id)))] := by
  have hd := desc_up h
  have hlen := h.len
  have hcl := ch_len hd id
  refine fun_intro 39 Try.func44 rfl rfl rfl (fun ι F S w => ?_)
  (repeat (first | (apply v_assign; exact rfl; exact rfl) | refine run_seq ?_ | refine run_region ?_ | refine runL_nil ?_ | refine run_block ?_))
  refine run_own 5 5 3 intE rfl rfl rfl rfl ?_
  skip
  refine v_loop (fun q : Nat × Int × List Int => ⟨[(0, .sem (listS nodeE l)), (1, .v (.int .i64 q.2.1)), (5, .res 5), (6, .v (.int .i64 q.1))], [(5, .obj (ownS 3 intE q.2.2))]⟩) (fun q => q.2.2 ++ ch l upX q.2.1 = ch l upX id ∧ q.2.2.length = q.1) (fun q => (ch l upX q.2.1).length) (0, id, []) idN trivial (by repeat (first | exact trivial | refine ⟨rfl, ?_⟩)) (by repeat (first | exact trivial | refine ⟨rfl, ?_⟩)) rfl ⟨rfl, rfl⟩ fun ⟨i, c, out⟩ ⟨hq, ho⟩ ih => ?_
  dsimp only at hq ho ⊢
  have hle : i + (ch l upX c).length ≤ l.length := by
    have := congrArg List.length hq
    rw [List.length_append] at this
    omega
  cases hx : nodeAt l c with
  | none =>
    rw [ch_none hx, List.append_nil] at hq
    (repeat (first | (apply v_move; exact rfl; exact rfl) | refine run_seq ?_ | refine run_region ?_ | (apply v_leq; exact rfl; exact rfl; exact rfl) | (apply v_lenL; exact slA rfl; exact rfl; exact rfl)))
    refine v_is 12 true rfl (by simp; omega) ?_
    (repeat (first | (apply v_cx; exact rfl; exact cbA rfl; (first | exact there_n hx); exact rfl; exact rfl) | (apply v_move; exact rfl; exact rfl) | (apply v_assign; exact rfl; exact rfl) | refine run_seq ?_ | refine run_region ?_ | refine runL_nil ?_ | (apply run_exit; exact rfl) | (apply v_on; exact rfl) | (apply v_pick_t; exact rfl; exact rfl; exact rfl) | (apply run_cond; exact rfl; (focus (intro hb; cases hb; done)); intro hb; clear hb)))
    exact run_ret (mp [(0, 5)]) _ Try.func44 ⟨_, _, rfl, rfl, rfl⟩ rfl trivial ⟨by rw [← hq]; rfl, trivial⟩ rfl
  | some y =>
    obtain ⟨hc1, hc2, hc3⟩ := nodeAt_some hx
    have hst := ch_step hd hlen hx
    rw [hst, List.length_cons] at hle
    (repeat (first | (apply v_move; exact rfl; exact rfl) | refine run_seq ?_ | refine run_region ?_ | (apply v_leq; exact rfl; exact rfl; exact rfl) | (apply v_lenL; exact slA rfl; exact rfl; exact rfl)))
    refine v_is 12 true rfl (by simp; omega) ?_
    (repeat (first | (apply v_cx; exact rfl; exact cbA rfl; (first | exact there_s hx); exact rfl; exact rfl) | (apply v_move; exact rfl; exact rfl) | refine run_seq ?_ | refine run_region ?_ | refine runL_nil ?_ | refine run_skip ?_ | refine run_block ?_ | (apply v_on; exact rfl) | (apply v_pick_t; exact rfl; exact rfl; exact rfl) | (apply run_cond; exact rfl; rotate_left; (focus (intro hb; cases hb; done)); intro hb; clear hb)))
    refine v_l intE [c] (slA rfl) (tyA rfl) rfl rfl rfl rfl rfl rfl rfl rfl rfl rfl ?_
    refine v_appendD (slA rfl) (tyA rfl) rfl rfl rfl rfl rfl rfl rfl (by simp; omega) rfl rfl rfl rfl ?_
    (repeat (first | (apply v_idxL; exact slA rfl; exact tyA rfl; exact rfl; exact rfl; exact rfl; exact rfl; exact (by omega); (first | exact hc3); exact rfl) | (apply v_move; exact rfl; exact rfl) | (apply v_assign; exact rfl; exact rfl) | refine run_seq ?_ | refine run_region ?_ | refine runL_nil ?_ | (apply v_fldA; exact flA rfl; exact rfl; exact rfl; exact rfl) | (apply v_loadA; exact tyA rfl; exact rfl; exact rfl; exact rfl; exact rfl; exact rfl; exact rfl) | (apply v_eql; exact rfl; exact rfl; exact rfl) | (apply v_sub; exact rfl; exact rfl; exact rfl; exact (by omega))))
    refine run_cond rfl (fun hb => ?_) (fun hb => ?_)
    · have hp : y.parent = 0 := by simpa using hb
      have hu : upX y = y.host := by simp [upX, hp]
      (repeat (first | (apply v_idxL; exact slA rfl; exact tyA rfl; exact rfl; exact rfl; exact rfl; exact rfl; exact (by omega); (first | exact hc3); exact rfl) | (apply v_move; exact rfl; exact rfl) | (apply v_assign; exact rfl; exact rfl) | refine run_region ?_ | refine runL_nil ?_ | refine run_inBlock ?_ | (apply v_fldA; exact flA rfl; exact rfl; exact rfl; exact rfl) | (apply v_loadA; exact tyA rfl; exact rfl; exact rfl; exact rfl; exact rfl; exact rfl; exact rfl) | (apply v_add; exact rfl; exact rfl; exact rfl; exact (by omega)) | (apply v_sub; exact rfl; exact rfl; exact rfl; exact (by omega))))
      exact v_again ih (i + 1, y.host, out ++ [c]) (mp [(5, 22)]) trivial (by repeat (first | exact trivial | refine ⟨rfl, ?_⟩)) ⟨rfl, trivial⟩ rfl ⟨by simp only; rw [← hq, hst, hu]; simp, by simp [ho]⟩ (by simp only; rw [hst, hu]; simp)
    · have hp : y.parent ≠ 0 := by simpa using hb
      have hu : upX y = y.parent := by simp [upX, hp]
      (repeat (first | (apply v_move; exact rfl; exact rfl) | (apply v_assign; exact rfl; exact rfl) | refine run_region ?_ | refine runL_nil ?_ | refine run_skip ?_ | refine run_inBlock ?_ | (apply v_add; exact rfl; exact rfl; exact rfl; exact (by omega))))
      exact v_again ih (i + 1, y.parent, out ++ [c]) (mp [(5, 22)]) trivial (by repeat (first | exact trivial | refine ⟨rfl, ?_⟩)) ⟨rfl, trivial⟩ rfl ⟨by simp only; rw [← hq, hst, hu]; simp, by simp [ho]⟩ (by simp only; rw [hst, hu]; simp)
theorem over_r {l : List Nd} (h : WF l) (id : Int) : Fun Try.prog 44 [.sem (listS nodeE l), .v (.int .i64 id)] [] (.sem (listS intE (ch l upX id))) [] := (over_o h id).freeze
theorem up_o {l : List Nd} (h : WF l) (id : Int) : Fun Try.prog 62 [.sem (listS nodeE l), .v (.int .i64 id)] [] (.res 0) [(0, .obj (ownS 3 intE (ch l Nd.parent id)))] := by
  have hd := desc_par h
  have hlen := h.len
  have hcl := ch_len hd id
  refine fun_intro 29 Try.func62 rfl rfl rfl (fun ι F S w => ?_)
  (repeat (first | (apply v_assign; exact rfl; exact rfl) | refine run_seq ?_ | refine run_region ?_ | refine runL_nil ?_ | refine run_block ?_))
  refine run_own 5 5 3 intE rfl rfl rfl rfl ?_
  skip
  refine v_loop (fun q : Nat × Int × List Int => ⟨[(0, .sem (listS nodeE l)), (1, .v (.int .i64 q.2.1)), (5, .res 5), (6, .v (.int .i64 q.1))], [(5, .obj (ownS 3 intE q.2.2))]⟩) (fun q => q.2.2 ++ ch l Nd.parent q.2.1 = ch l Nd.parent id ∧ q.2.2.length = q.1) (fun q => (ch l Nd.parent q.2.1).length) (0, id, []) idN trivial (by repeat (first | exact trivial | refine ⟨rfl, ?_⟩)) (by repeat (first | exact trivial | refine ⟨rfl, ?_⟩)) rfl ⟨rfl, rfl⟩ fun ⟨i, c, out⟩ ⟨hq, ho⟩ ih => ?_
  dsimp only at hq ho ⊢
  have hle : i + (ch l Nd.parent c).length ≤ l.length := by
    have := congrArg List.length hq
    rw [List.length_append] at this
    omega
  cases hx : nodeAt l c with
  | none =>
    rw [ch_none hx, List.append_nil] at hq
    (repeat (first | (apply v_move; exact rfl; exact rfl) | refine run_seq ?_ | refine run_region ?_ | (apply v_leq; exact rfl; exact rfl; exact rfl) | (apply v_lenL; exact slA rfl; exact rfl; exact rfl)))
    refine v_is 11 true rfl (by simp; omega) ?_
    (repeat (first | (apply v_cx; exact rfl; exact cbA rfl; (first | exact there_n hx); exact rfl; exact rfl) | (apply v_move; exact rfl; exact rfl) | (apply v_assign; exact rfl; exact rfl) | refine run_seq ?_ | refine run_region ?_ | refine runL_nil ?_ | (apply run_exit; exact rfl) | (apply v_on; exact rfl) | (apply v_pick_t; exact rfl; exact rfl; exact rfl) | (apply run_cond; exact rfl; (focus (intro hb; cases hb; done)); intro hb; clear hb)))
    exact run_ret (mp [(0, 5)]) _ Try.func62 ⟨_, _, rfl, rfl, rfl⟩ rfl trivial ⟨by rw [← hq]; rfl, trivial⟩ rfl
  | some y =>
    obtain ⟨hc1, hc2, hc3⟩ := nodeAt_some hx
    have hst := ch_step hd hlen hx
    rw [hst, List.length_cons] at hle
    (repeat (first | (apply v_move; exact rfl; exact rfl) | refine run_seq ?_ | refine run_region ?_ | (apply v_leq; exact rfl; exact rfl; exact rfl) | (apply v_lenL; exact slA rfl; exact rfl; exact rfl)))
    refine v_is 11 true rfl (by simp; omega) ?_
    (repeat (first | (apply v_cx; exact rfl; exact cbA rfl; (first | exact there_s hx); exact rfl; exact rfl) | (apply v_move; exact rfl; exact rfl) | refine run_seq ?_ | refine run_region ?_ | refine runL_nil ?_ | refine run_skip ?_ | refine run_block ?_ | (apply v_on; exact rfl) | (apply v_pick_t; exact rfl; exact rfl; exact rfl) | (apply run_cond; exact rfl; rotate_left; (focus (intro hb; cases hb; done)); intro hb; clear hb)))
    refine v_l intE [c] (slA rfl) (tyA rfl) rfl rfl rfl rfl rfl rfl rfl rfl rfl rfl ?_
    refine v_appendD (slA rfl) (tyA rfl) rfl rfl rfl rfl rfl rfl rfl (by simp; omega) rfl rfl rfl rfl ?_
    (repeat (first | (apply v_idxL; exact slA rfl; exact tyA rfl; exact rfl; exact rfl; exact rfl; exact rfl; exact (by omega); (first | exact hc3); exact rfl) | (apply v_move; exact rfl; exact rfl) | (apply v_assign; exact rfl; exact rfl) | refine run_region ?_ | refine runL_nil ?_ | refine run_inBlock ?_ | (apply v_fldA; exact flA rfl; exact rfl; exact rfl; exact rfl) | (apply v_loadA; exact tyA rfl; exact rfl; exact rfl; exact rfl; exact rfl; exact rfl; exact rfl) | (apply v_add; exact rfl; exact rfl; exact rfl; exact (by omega)) | (apply v_sub; exact rfl; exact rfl; exact rfl; exact (by omega))))
    exact v_again ih (i + 1, y.parent, out ++ [c]) (mp [(5, 21)]) trivial (by repeat (first | exact trivial | refine ⟨rfl, ?_⟩)) ⟨rfl, trivial⟩ rfl ⟨by simp only; rw [← hq, hst]; simp, by simp [ho]⟩ (by simp only; rw [hst]; simp)
theorem up_r {l : List Nd} (h : WF l) (id : Int) : Fun Try.prog 62 [.sem (listS nodeE l), .v (.int .i64 id)] [] (.sem (listS intE (ch l Nd.parent id))) [] := (up_o h id).freeze
theorem name_r {l : List Nd} (h : WF l) (id : Int) {s : ByteArray} (hs : s.size ≤ 9223372036854775807) : Fun Try.prog 136 [.sem (listS nodeE l), .v (.int .i64 id), .v (.string s)] [] (.tup [.sem (listS nodeE (nameM l id s).1), .v (.int .i64 (nameM l id s).2)]) [] := by
  have hcp := copy_w h
  cases hx : nodeAt l id with
  | none =>
    have hr : nameM l id s = (l, 1) := by simp [nameM, hx]
    rw [hr]
    refine fun_intro 36 Try.func136 rfl rfl rfl (fun ι F S w => ?_)
    (repeat (first | (apply v_cx; exact rfl; exact cbA rfl; (first | exact there_n hx); exact rfl; exact rfl) | (apply v_move; exact rfl; exact rfl) | (apply v_assign; exact rfl; exact rfl) | refine run_seq ?_ | refine run_region ?_ | refine runL_nil ?_ | (apply v_off; exact rfl; exact rfl) | (apply v_pick_t; exact rfl; exact rfl; exact rfl) | (apply run_cond; exact rfl; rotate_left; (focus (intro hb; cases hb; done)); intro hb; clear hb) | (apply v_not; exact rfl; exact rfl)))
    exact run_ret idN _ Try.func136 ⟨_, _, rfl, rfl, _, _, rfl, rfl, rfl⟩ rfl trivial trivial rfl
  | some x =>
    obtain ⟨h1, h2, h3⟩ := nodeAt_some hx
    have hlen := h.len
    have hr : nameM l id s = if namedB s = false then (l, 1) else if x.slot = false then (l, 2) else (setN l id { x with name := s }, 0) := by simp [nameM, hx]
    rw [hr]
    refine fun_intro 36 Try.func136 rfl rfl rfl (fun ι F S w => ?_)
    (repeat (first | (apply v_cx; exact rfl; exact cbA rfl; (first | exact there_s hx | exact namedr_f hs); exact rfl; exact rfl) | (apply v_move; exact rfl; exact rfl) | (apply v_assign; exact rfl; exact rfl) | refine run_seq ?_ | refine run_region ?_ | refine runL_nil ?_ | (apply v_on; exact rfl) | (apply v_pick_f; exact rfl; exact rfl; exact rfl) | (apply v_not; exact rfl; exact rfl)))
    refine run_cond rfl (fun hb => ?_) (fun hb => ?_)
    · have h' : namedB s = false := by simpa using hb
      rw [if_pos h']
      (repeat (first | (apply v_move; exact rfl; exact rfl) | (apply v_assign; exact rfl; exact rfl) | refine run_seq ?_ | refine run_region ?_ | refine runL_nil ?_))
      exact run_ret idN _ Try.func136 ⟨_, _, rfl, rfl, _, _, rfl, rfl, rfl⟩ rfl trivial trivial rfl
    · have h' : ¬ namedB s = false := by simpa using hb
      rw [if_neg h']
      (repeat (first | (apply v_idxL; exact slA rfl; exact tyA rfl; exact rfl; exact rfl; exact rfl; exact rfl; exact (by omega); (first | exact h3); exact rfl) | (apply v_move; exact rfl; exact rfl) | refine run_seq ?_ | refine run_region ?_ | refine runL_nil ?_ | refine run_skip ?_ | (apply v_fldA; exact flA rfl; exact rfl; exact rfl; exact rfl) | (apply v_loadA; exact tyA rfl; exact rfl; exact rfl; exact rfl; exact rfl; exact rfl; exact rfl) | (apply v_not; exact rfl; exact rfl) | (apply v_sub; exact rfl; exact rfl; exact rfl; exact (by omega))))
      refine run_cond rfl (fun hb => ?_) (fun hb => ?_)
      · have h' : x.slot = false := by simpa using hb
        rw [if_pos h']
        (repeat (first | (apply v_move; exact rfl; exact rfl) | (apply v_assign; exact rfl; exact rfl) | refine run_seq ?_ | refine run_region ?_ | refine runL_nil ?_))
        exact run_ret idN _ Try.func136 ⟨_, _, rfl, rfl, _, _, rfl, rfl, rfl⟩ rfl trivial trivial rfl
      · have h' : ¬ x.slot = false := by simpa using hb
        rw [if_neg h']
        (repeat (first | (apply v_cOx; exact rfl; exact cbA rfl; (first | exact hcp); exact rfl; exact rfl; exact rfl; exact rfl; exact rfl) | (apply v_idxO; exact slA rfl; exact tyA rfl; exact rfl; exact rfl; exact rfl; exact rfl; exact (by omega); exact (by omega); exact rfl) | (apply v_move; exact rfl; exact rfl) | (apply v_assign; exact rfl; exact rfl) | refine run_seq ?_ | refine run_region ?_ | refine runL_nil ?_ | refine run_skip ?_ | (apply v_fldP; exact flA rfl; exact rfl; exact rfl; exact rfl) | (apply v_sub; exact rfl; exact rfl; exact rfl; exact (by omega))))
        refine v_storeO { x with name := s } (tyA rfl) rfl rfl rfl rfl h3 rfl rfl (by decide) rfl rfl ?_
        (repeat (first | (apply v_move; exact rfl; exact rfl) | (apply v_assign; exact rfl; exact rfl) | refine run_seq ?_ | refine run_region ?_ | refine runL_nil ?_))
        refine run_freeze 6 28 rfl rfl ?_
        exact run_ret idN _ Try.func136 ⟨_, _, rfl, rfl, _, _, rfl, rfl, rfl⟩ rfl trivial trivial rfl
theorem want_r {l : List Nd} (h : WF l) (id : Int) {s : ByteArray} (hs : s.size ≤ 9223372036854775807) : Fun Try.prog 137 [.sem (listS nodeE l), .v (.int .i64 id), .v (.string s)] [] (.tup [.sem (listS nodeE (wantM l id s).1), .v (.int .i64 (wantM l id s).2)]) [] := by
  have hcp := copy_w h
  cases hx : nodeAt l id with
  | none =>
    have hr : wantM l id s = (l, 1) := by simp [wantM, hx]
    rw [hr]
    refine fun_intro 36 Try.func137 rfl rfl rfl (fun ι F S w => ?_)
    (repeat (first | (apply v_cx; exact rfl; exact cbA rfl; (first | exact there_n hx); exact rfl; exact rfl) | (apply v_move; exact rfl; exact rfl) | (apply v_assign; exact rfl; exact rfl) | refine run_seq ?_ | refine run_region ?_ | refine runL_nil ?_ | (apply v_off; exact rfl; exact rfl) | (apply v_pick_t; exact rfl; exact rfl; exact rfl) | (apply run_cond; exact rfl; rotate_left; (focus (intro hb; cases hb; done)); intro hb; clear hb) | (apply v_not; exact rfl; exact rfl)))
    exact run_ret idN _ Try.func137 ⟨_, _, rfl, rfl, _, _, rfl, rfl, rfl⟩ rfl trivial trivial rfl
  | some x =>
    obtain ⟨h1, h2, h3⟩ := nodeAt_some hx
    have hlen := h.len
    have hr : wantM l id s = if namedB s = false then (l, 1) else if x.kind ≠ 2 then (l, 2) else (setN l id { x with want := s }, 0) := by simp [wantM, hx]
    rw [hr]
    refine fun_intro 36 Try.func137 rfl rfl rfl (fun ι F S w => ?_)
    (repeat (first | (apply v_cx; exact rfl; exact cbA rfl; (first | exact there_s hx | exact namedr_f hs); exact rfl; exact rfl) | (apply v_move; exact rfl; exact rfl) | (apply v_assign; exact rfl; exact rfl) | refine run_seq ?_ | refine run_region ?_ | refine runL_nil ?_ | (apply v_on; exact rfl) | (apply v_pick_f; exact rfl; exact rfl; exact rfl) | (apply v_not; exact rfl; exact rfl)))
    refine run_cond rfl (fun hb => ?_) (fun hb => ?_)
    · have h' : namedB s = false := by simpa using hb
      rw [if_pos h']
      (repeat (first | (apply v_move; exact rfl; exact rfl) | (apply v_assign; exact rfl; exact rfl) | refine run_seq ?_ | refine run_region ?_ | refine runL_nil ?_))
      exact run_ret idN _ Try.func137 ⟨_, _, rfl, rfl, _, _, rfl, rfl, rfl⟩ rfl trivial trivial rfl
    · have h' : ¬ namedB s = false := by simpa using hb
      rw [if_neg h']
      (repeat (first | (apply v_idxL; exact slA rfl; exact tyA rfl; exact rfl; exact rfl; exact rfl; exact rfl; exact (by omega); (first | exact h3); exact rfl) | (apply v_move; exact rfl; exact rfl) | refine run_seq ?_ | refine run_region ?_ | refine runL_nil ?_ | refine run_skip ?_ | (apply v_fldA; exact flA rfl; exact rfl; exact rfl; exact rfl) | (apply v_loadA; exact tyA rfl; exact rfl; exact rfl; exact rfl; exact rfl; exact rfl; exact rfl) | (apply v_neq; exact rfl; exact rfl; exact rfl) | (apply v_sub; exact rfl; exact rfl; exact rfl; exact (by omega))))
      refine run_cond rfl (fun hb => ?_) (fun hb => ?_)
      · have h' : x.kind ≠ 2 := by simpa using hb
        rw [if_pos h']
        (repeat (first | (apply v_move; exact rfl; exact rfl) | (apply v_assign; exact rfl; exact rfl) | refine run_seq ?_ | refine run_region ?_ | refine runL_nil ?_))
        exact run_ret idN _ Try.func137 ⟨_, _, rfl, rfl, _, _, rfl, rfl, rfl⟩ rfl trivial trivial rfl
      · have h' : ¬ x.kind ≠ 2 := by simpa using hb
        rw [if_neg h']
        (repeat (first | (apply v_cOx; exact rfl; exact cbA rfl; (first | exact hcp); exact rfl; exact rfl; exact rfl; exact rfl; exact rfl) | (apply v_idxO; exact slA rfl; exact tyA rfl; exact rfl; exact rfl; exact rfl; exact rfl; exact (by omega); exact (by omega); exact rfl) | (apply v_move; exact rfl; exact rfl) | (apply v_assign; exact rfl; exact rfl) | refine run_seq ?_ | refine run_region ?_ | refine runL_nil ?_ | refine run_skip ?_ | (apply v_fldP; exact flA rfl; exact rfl; exact rfl; exact rfl) | (apply v_sub; exact rfl; exact rfl; exact rfl; exact (by omega))))
        refine v_storeO { x with want := s } (tyA rfl) rfl rfl rfl rfl h3 rfl rfl (by decide) rfl rfl ?_
        (repeat (first | (apply v_move; exact rfl; exact rfl) | (apply v_assign; exact rfl; exact rfl) | refine run_seq ?_ | refine run_region ?_ | refine runL_nil ?_))
        refine run_freeze 6 28 rfl rfl ?_
        exact run_ret idN _ Try.func137 ⟨_, _, rfl, rfl, _, _, rfl, rfl, rfl⟩ rfl trivial trivial rfl
theorem tie_r {l : List Nd} (h : WF l) (host root : Int) : Fun Try.prog 135 [.sem (listS nodeE l), .v (.int .i64 host), .v (.int .i64 root)] [] (.tup [.sem (listS nodeE (tieM l host root).1), .v (.int .i64 (tieM l host root).2)]) [] := by
  have hcp := copy_w h
  have hlen := h.len
  generalize hT : tieM l host root = T
  cases hx : nodeAt l host with
  | none =>
    obtain rfl : T = (l, 1) := by rw [← hT]; simp [tieM, hx]
    refine fun_intro 75 Try.func135 rfl rfl rfl (fun ι F S w => ?_)
    (repeat (first | (apply v_cx; exact rfl; exact cbA rfl; (first | exact there_n hx); exact rfl; exact rfl) | (apply v_move; exact rfl; exact rfl) | (apply v_assign; exact rfl; exact rfl) | refine run_seq ?_ | refine run_region ?_ | refine runL_nil ?_ | (apply v_off; exact rfl; exact rfl) | (apply v_pick_t; exact rfl; exact rfl; exact rfl) | (apply run_cond; exact rfl; rotate_left; (focus (intro hb; cases hb; done)); intro hb; clear hb) | (apply v_not; exact rfl; exact rfl)))
    exact run_ret idN _ Try.func135 ⟨_, _, rfl, rfl, _, _, rfl, rfl, rfl⟩ rfl trivial trivial rfl
  | some x =>
    cases hy : nodeAt l root with
    | none =>
      obtain rfl : T = (l, 1) := by rw [← hT]; simp [tieM, hx, hy]
      refine fun_intro 75 Try.func135 rfl rfl rfl (fun ι F S w => ?_)
      (repeat (first | (apply v_cx; exact rfl; exact cbA rfl; (first | exact there_s hx | exact there_n hy); exact rfl; exact rfl) | (apply v_move; exact rfl; exact rfl) | (apply v_assign; exact rfl; exact rfl) | refine run_seq ?_ | refine run_region ?_ | refine runL_nil ?_ | (apply v_on; exact rfl) | (apply v_pick_f; exact rfl; exact rfl; exact rfl) | (apply run_cond; exact rfl; rotate_left; (focus (intro hb; cases hb; done)); intro hb; clear hb) | (apply v_not; exact rfl; exact rfl)))
      exact run_ret idN _ Try.func135 ⟨_, _, rfl, rfl, _, _, rfl, rfl, rfl⟩ rfl trivial trivial rfl
    | some y =>
      obtain ⟨a1, a2, a3⟩ := nodeAt_some hx
      obtain ⟨b1, b2, b3⟩ := nodeAt_some hy
      have hT' : T = if x.kind ≠ 2 ∨ y.kind ≠ 3 then (l, 2) else if x.shadow ≠ 0 ∨ y.host ≠ 0 then (l, 6) else if aboveB l root host = true then (l, 3) else (setN (setN l host { x with shadow := root }) root { y with host := host }, 0) := by
        rw [← hT]; simp [tieM, hx, hy]
      clear hT
      have hov := over_r h host
      have hol := ch_len (desc_up h) host
      have hha := has_r (xs := ch l upX host) root (by omega)
      have hab : aboveB l root host = decide (root ∈ ch l upX host) := by
        rw [Bool.eq_iff_iff, aboveB_true, decide_eq_true_iff, mem_over h]
      rw [hab] at hT'
      have hne : x.kind = 2 → y.kind = 3 → host ≠ root := fun e1 e2 e => by
        subst e
        rw [hx] at hy
        cases hy
        omega
      generalize decide (root ∈ ch l upX host) = bb at *
      refine fun_intro 75 Try.func135 rfl rfl rfl (fun ι F S w => ?_)
      (repeat' (first | (apply v_cx; exact rfl; exact cbA rfl; (first | exact there_s hx | exact there_s hy | exact hov | exact hha); exact rfl; exact rfl) | (apply v_idxL; exact slA rfl; exact tyA rfl; exact rfl; exact rfl; exact rfl; exact rfl; exact (by omega); (first | exact a3 | exact b3); exact rfl) | (apply v_move; exact rfl; exact rfl) | (apply v_assign; exact rfl; exact rfl) | refine run_seq ?_ | refine run_region ?_ | refine runL_nil ?_ | refine run_skip ?_ | (apply v_fldA; exact flA rfl; exact rfl; exact rfl; exact rfl) | (apply v_loadA; exact tyA rfl; exact rfl; exact rfl; exact rfl; exact rfl; exact rfl; exact rfl) | (apply v_on; exact rfl) | (apply v_off; exact rfl; exact rfl) | (apply v_pick_t; exact rfl; exact rfl; exact rfl) | (apply v_pick_f; exact rfl; exact rfl; exact rfl) | (apply run_cond; exact rfl; rotate_left; (focus (intro hb; cases hb; done)); intro hb; clear hb) | (apply run_cond; exact rfl; (focus (intro hb; cases hb; done)); intro hb; clear hb) | (apply v_not; exact rfl; exact rfl) | (apply v_neq; exact rfl; exact rfl; exact rfl) | (apply v_sub; exact rfl; exact rfl; exact rfl; exact (by omega)) | (apply v_gsplit; exact rfl; exact rfl; exact rfl; all_goals intro hb) | (apply run_cond; exact rfl; all_goals intro hb)))
      all_goals first
        | (refine via (p := T = (l, 2)) ?_ ?_; (focus (rw [hT']; simp_all; done)); intro hT2; clear hT'; subst hT2; exact run_ret idN _ Try.func135 ⟨_, _, rfl, rfl, _, _, rfl, rfl, rfl⟩ rfl trivial trivial rfl)
        | (refine via (p := T = (l, 6)) ?_ ?_; (focus (rw [hT']; simp_all; done)); intro hT2; clear hT'; subst hT2; exact run_ret idN _ Try.func135 ⟨_, _, rfl, rfl, _, _, rfl, rfl, rfl⟩ rfl trivial trivial rfl)
        | (refine via (p := T = (l, 3)) ?_ ?_; (focus (rw [hT']; simp_all; done)); intro hT2; clear hT'; subst hT2; exact run_ret idN _ Try.func135 ⟨_, _, rfl, rfl, _, _, rfl, rfl, rfl⟩ rfl trivial trivial rfl)
        | skip
      have hne := hne (by simp_all) (by simp_all)
      have hT2 : T = (setN (setN l host { x with shadow := root }) root { y with host := host }, 0) := by rw [hT']; simp_all
      clear hT'
      subst hT2
      (repeat (first | (apply v_cOx; exact rfl; exact cbA rfl; (first | exact hcp); exact rfl; exact rfl; exact rfl; exact rfl; exact rfl) | (apply v_idxO; exact slA rfl; exact tyA rfl; exact rfl; exact rfl; exact rfl; exact rfl; exact (by omega); exact (by omega); exact rfl) | (apply v_move; exact rfl; exact rfl) | (apply v_assign; exact rfl; exact rfl) | refine run_seq ?_ | refine run_region ?_ | refine runL_nil ?_ | (apply v_fldP; exact flA rfl; exact rfl; exact rfl; exact rfl) | (apply v_sub; exact rfl; exact rfl; exact rfl; exact (by omega))))
      refine v_storeO { x with shadow := root } (tyA rfl) rfl rfl rfl rfl a3 rfl rfl (by decide) rfl rfl ?_
      have hl2 : (l.set (host - 1).toNat { x with shadow := root }).length = l.length := by simp
      (repeat (first | (apply v_idxO; exact slA rfl; exact tyA rfl; exact rfl; exact rfl; exact rfl; exact rfl; exact (by omega); exact (by omega); exact rfl) | (apply v_move; exact rfl; exact rfl) | refine run_seq ?_ | refine run_region ?_ | refine runL_nil ?_ | (apply v_fldP; exact flA rfl; exact rfl; exact rfl; exact rfl) | (apply v_sub; exact rfl; exact rfl; exact rfl; exact (by omega))))
      refine v_storeO { y with host := host } (tyA rfl) rfl rfl rfl rfl (setN_ne hx hy hne _) rfl rfl (by decide) rfl rfl ?_
      (repeat (first | (apply v_move; exact rfl; exact rfl) | (apply v_assign; exact rfl; exact rfl) | refine run_seq ?_ | refine run_region ?_ | refine runL_nil ?_))
      refine run_freeze 6 61 rfl rfl ?_
      exact run_ret idN _ Try.func135 ⟨_, _, rfl, rfl, _, _, rfl, rfl, rfl⟩ rfl trivial trivial rfl
end Go.Proofs.Ytjkidecaciomgaa
