/- The reference's nodes: Do, Nodes, One, Same. -/
import Derived.Test.YtjkidecaciomgaaRf6
namespace Go.Proofs.Ytjkidecaciomgaa
set_option linter.unusedVariables false
set_option linter.unusedSimpArgs false
set_option maxRecDepth 100000
open Go.RowKit

/-- A call: the nodes, a number, an error. -/
noncomputable def doM (l : List Nd) (x : Ac) : List Nd × Int × Int :=
  if x.kind = 0 then makeM l x.n
  else if x.kind = 1 then ((putM l x.a x.l).1, 0, (putM l x.a x.l).2)
  else if x.kind = 2 then ((tieM l x.a x.b).1, 0, (tieM l x.a x.b).2)
  else if x.kind = 3 then ((nameM l x.a x.s).1, 0, (nameM l x.a x.s).2)
  else if x.kind = 4 then ((wantM l x.a x.s).1, 0, (wantM l x.a x.s).2)
  else (l, 0, 0)
theorem do_act (l : List Nd) (x : Ac) : (doM l x).1 = actM l x := by
  unfold doM actM
  repeat' split
  all_goals rfl
theorem do_r {l : List Nd} (h : WF l) {x : Ac} (hx : AcOk x) : Fun Try.prog 36 [.sem (listS nodeE l), .agg (acE.f x)] [] (.tup [.sem (listS nodeE (doM l x).1), .v (.int .i64 (doM l x).2.1), .v (.int .i64 (doM l x).2.2)]) [] := by
  have h0 := make_r (l := l) (x := x.n) hx.name hx.want h.len (kids_all h)
  have h1 := put_r h x.a x.l hx.l
  have h2 := tie_r h x.a x.b
  have h3 := name_r h x.a hx.s
  have h4 := want_r h x.a hx.s
  have hd : doM l x = if x.kind = 0 then makeM l x.n else if x.kind = 1 then ((putM l x.a x.l).1, 0, (putM l x.a x.l).2) else if x.kind = 2 then ((tieM l x.a x.b).1, 0, (tieM l x.a x.b).2) else if x.kind = 3 then ((nameM l x.a x.s).1, 0, (nameM l x.a x.s).2) else if x.kind = 4 then ((wantM l x.a x.s).1, 0, (wantM l x.a x.s).2) else (l, 0, 0) := rfl
  generalize doM l x = D at *
  refine fun_intro 65 Try.func36 rfl rfl rfl (fun ι F S w => ?_)
  (repeat (first | (apply v_assign; exact rfl; exact rfl) | refine run_seq ?_ | refine run_region ?_ | refine runL_nil ?_ | refine run_block ?_ | (apply v_fldP; exact flA rfl; exact rfl; exact rfl; exact rfl) | (apply v_loadB; exact tyA rfl; exact rfl; exact rfl; exact rfl; exact rfl; exact rfl; exact rfl) | (apply v_eql; exact rfl; exact rfl; exact rfl) | (apply v_boxD; exact rfl; exact rfl; exact rfl; exact rfl; exact rfl; exact rfl; exact rfl)))
  refine run_cond rfl (fun hb => ?_) (fun hb => ?_)
  · have hk : x.kind = 0 := by simpa using hb
    rw [if_pos hk] at hd
    subst hd
    (repeat (first | (apply v_cx; exact rfl; exact cbA rfl; (first | exact h0); exact rfl; exact rfl) | (apply v_move; exact rfl; exact rfl) | (apply v_assign; exact rfl; exact rfl) | refine run_seq ?_ | refine run_region ?_ | refine runL_nil ?_ | (apply v_extract; exact rfl; exact rfl; exact rfl) | (apply v_fldP; exact flA rfl; exact rfl; exact rfl; exact rfl) | (apply v_loadB; exact tyA rfl; exact rfl; exact rfl; exact rfl; exact rfl; exact rfl; exact rfl)))
    exact run_ret idN _ Try.func36 ⟨_, _, rfl, rfl, _, _, rfl, rfl, _, _, rfl, rfl, rfl⟩ rfl trivial trivial rfl
  have hk0 : ¬ x.kind = 0 := by simpa using hb
  clear hb
  rw [if_neg hk0] at hd
  (repeat (first | (apply v_assign; exact rfl; exact rfl) | refine run_seq ?_ | refine run_region ?_ | refine runL_nil ?_ | (apply v_eql; exact rfl; exact rfl; exact rfl)))
  refine run_cond rfl (fun hb => ?_) (fun hb => ?_)
  · have hk : x.kind = 1 := by simpa using hb
    rw [if_pos hk] at hd
    subst hd
    (repeat (first | (apply v_cx; exact rfl; exact cbA rfl; (first | exact h1); exact rfl; exact rfl) | (apply v_move; exact rfl; exact rfl) | (apply v_assign; exact rfl; exact rfl) | refine run_seq ?_ | refine run_region ?_ | refine runL_nil ?_ | refine run_inBlock ?_ | (apply v_extract; exact rfl; exact rfl; exact rfl) | (apply v_fldP; exact flA rfl; exact rfl; exact rfl; exact rfl) | (apply v_loadB; exact tyA rfl; exact rfl; exact rfl; exact rfl; exact rfl; exact rfl; exact rfl)))
    exact run_ret idN _ Try.func36 ⟨_, _, rfl, rfl, _, _, rfl, rfl, _, _, rfl, rfl, rfl⟩ rfl trivial trivial rfl
  have hk1 : ¬ x.kind = 1 := by simpa using hb
  clear hb
  rw [if_neg hk1] at hd
  (repeat (first | (apply v_assign; exact rfl; exact rfl) | refine run_seq ?_ | refine run_region ?_ | refine runL_nil ?_ | (apply v_eql; exact rfl; exact rfl; exact rfl)))
  refine run_cond rfl (fun hb => ?_) (fun hb => ?_)
  · have hk : x.kind = 2 := by simpa using hb
    rw [if_pos hk] at hd
    subst hd
    (repeat (first | (apply v_cx; exact rfl; exact cbA rfl; (first | exact h2); exact rfl; exact rfl) | (apply v_move; exact rfl; exact rfl) | (apply v_assign; exact rfl; exact rfl) | refine run_seq ?_ | refine run_region ?_ | refine runL_nil ?_ | refine run_inBlock ?_ | (apply v_extract; exact rfl; exact rfl; exact rfl) | (apply v_fldP; exact flA rfl; exact rfl; exact rfl; exact rfl) | (apply v_loadB; exact tyA rfl; exact rfl; exact rfl; exact rfl; exact rfl; exact rfl; exact rfl)))
    exact run_ret idN _ Try.func36 ⟨_, _, rfl, rfl, _, _, rfl, rfl, _, _, rfl, rfl, rfl⟩ rfl trivial trivial rfl
  have hk2 : ¬ x.kind = 2 := by simpa using hb
  clear hb
  rw [if_neg hk2] at hd
  (repeat (first | (apply v_assign; exact rfl; exact rfl) | refine run_seq ?_ | refine run_region ?_ | refine runL_nil ?_ | (apply v_eql; exact rfl; exact rfl; exact rfl)))
  refine run_cond rfl (fun hb => ?_) (fun hb => ?_)
  · have hk : x.kind = 3 := by simpa using hb
    rw [if_pos hk] at hd
    subst hd
    (repeat (first | (apply v_cx; exact rfl; exact cbA rfl; (first | exact h3); exact rfl; exact rfl) | (apply v_move; exact rfl; exact rfl) | (apply v_assign; exact rfl; exact rfl) | refine run_seq ?_ | refine run_region ?_ | refine runL_nil ?_ | refine run_inBlock ?_ | (apply v_extract; exact rfl; exact rfl; exact rfl) | (apply v_fldP; exact flA rfl; exact rfl; exact rfl; exact rfl) | (apply v_loadB; exact tyA rfl; exact rfl; exact rfl; exact rfl; exact rfl; exact rfl; exact rfl)))
    exact run_ret idN _ Try.func36 ⟨_, _, rfl, rfl, _, _, rfl, rfl, _, _, rfl, rfl, rfl⟩ rfl trivial trivial rfl
  have hk3 : ¬ x.kind = 3 := by simpa using hb
  clear hb
  rw [if_neg hk3] at hd
  (repeat (first | (apply v_assign; exact rfl; exact rfl) | refine run_seq ?_ | refine run_region ?_ | refine runL_nil ?_ | (apply v_eql; exact rfl; exact rfl; exact rfl)))
  refine run_cond rfl (fun hb => ?_) (fun hb => ?_)
  · have hk : x.kind = 4 := by simpa using hb
    rw [if_pos hk] at hd
    subst hd
    (repeat (first | (apply v_cx; exact rfl; exact cbA rfl; (first | exact h4); exact rfl; exact rfl) | (apply v_move; exact rfl; exact rfl) | (apply v_assign; exact rfl; exact rfl) | refine run_seq ?_ | refine run_region ?_ | refine runL_nil ?_ | refine run_inBlock ?_ | (apply v_extract; exact rfl; exact rfl; exact rfl) | (apply v_fldP; exact flA rfl; exact rfl; exact rfl; exact rfl) | (apply v_loadB; exact tyA rfl; exact rfl; exact rfl; exact rfl; exact rfl; exact rfl; exact rfl)))
    exact run_ret idN _ Try.func36 ⟨_, _, rfl, rfl, _, _, rfl, rfl, _, _, rfl, rfl, rfl⟩ rfl trivial trivial rfl
  have hk4 : ¬ x.kind = 4 := by simpa using hb
  clear hb
  rw [if_neg hk4] at hd
  subst hd
  (repeat (first | (apply v_move; exact rfl; exact rfl) | (apply v_assign; exact rfl; exact rfl) | refine run_seq ?_ | refine run_region ?_ | refine runL_nil ?_ | refine run_skip ?_ | refine run_inBlock ?_))
  exact run_ret idN _ Try.func36 ⟨_, _, rfl, rfl, _, _, rfl, rfl, _, _, rfl, rfl, rfl⟩ rfl trivial trivial rfl
theorem nodes_r {xs : List Ac} (hl : xs.length ≤ 300) (hx : ∀ x ∈ xs, AcOk x) : Fun Try.prog 59 [.sem (listS acE xs)] [] (.sem (listS nodeE (nodesM xs))) [] := by
  refine fun_intro 22 Try.func59 rfl rfl rfl (fun ι F S w => ?_)
  (repeat (first | (apply v_assign; exact rfl; exact rfl) | refine run_seq ?_ | refine run_region ?_ | refine runL_nil ?_ | refine run_block ?_))
  refine run_le 3 rfl (y := .sem (listS nodeE [])) Le.nil ?_
  refine v_loop (fun i : Nat => ⟨[(0, .sem (listS acE xs)), (3, .sem (listS nodeE (nodesM (xs.take i)))), (4, .v (.int .i64 i))], []⟩) (fun i => i ≤ xs.length) (fun i => xs.length - i) 0 idN trivial (by repeat (first | exact trivial | refine ⟨rfl, ?_⟩)) (by repeat (first | exact trivial | refine ⟨rfl, ?_⟩)) rfl (by omega) fun i hi ih => ?_
  have hw : WF (nodesM (xs.take i)) := wf_nodes fun x h => hx x (List.mem_of_mem_take h)
  (repeat (first | (apply v_move; exact rfl; exact rfl) | refine run_seq ?_ | refine run_region ?_ | refine runL_nil ?_ | (apply v_lss; exact rfl; exact rfl; exact rfl) | (apply v_lenL; exact slA rfl; exact rfl; exact rfl)))
  refine run_cond rfl (fun hb => ?_) (fun hb => ?_)
  · have hlt : i < xs.length := by simpa using hb
    have hx2 : xs[((i : Int)).toNat]? = some xs[i] := by simp [hlt]
    have hd := do_r hw (hx _ (List.getElem_mem hlt))
    have hst : nodesM (xs.take (i + 1)) = (doM (nodesM (xs.take i)) xs[i]).1 := by rw [nodes_take hlt, do_act]
    generalize doM (nodesM (xs.take i)) xs[i] = D at *
    (repeat (first | (apply v_idxL; exact slA rfl; exact tyA rfl; exact rfl; exact rfl; exact rfl; exact rfl; exact (by omega); (first | exact hx2); exact rfl) | (apply v_cx; exact rfl; exact cbA rfl; (first | exact hd); exact rfl; exact rfl) | (apply v_move; exact rfl; exact rfl) | (apply v_assign; exact rfl; exact rfl) | refine run_seq ?_ | refine run_region ?_ | refine runL_nil ?_ | refine run_skip ?_ | refine run_block ?_ | refine run_inBlock ?_ | (apply v_extract; exact rfl; exact rfl; exact rfl) | (apply v_loadA; exact tyA rfl; exact rfl; exact rfl; exact rfl; exact rfl; exact rfl; exact rfl) | (apply v_add; exact rfl; exact rfl; exact rfl; exact (by omega))))
    exact v_again ih (i + 1) idN trivial ⟨rfl, by rw [hst]; rfl, rfl, trivial⟩ trivial rfl (by omega) (by omega)
  · have hge : i = xs.length := by have : ¬ i < xs.length := (by simpa using hb); omega
    rw [show nodesM xs = nodesM (xs.take i) by rw [hge, List.take_length]]
    (repeat (first | (apply v_move; exact rfl; exact rfl) | (apply v_assign; exact rfl; exact rfl) | refine run_seq ?_ | refine run_region ?_ | refine runL_nil ?_ | (apply run_exit; exact rfl)))
    exact run_ret idN _ Try.func59 ⟨_, _, rfl, rfl, rfl⟩ rfl trivial trivial rfl
theorem one_r {x y : Nd} (hk : x.kids.length ≤ 1000000) : Fun Try.prog 40 [.agg (nodeL x), .agg (nodeL y)] [] (.v (.bool (decide (x = y)))) [] := by
  obtain ⟨a1, a2, a3, a4, a5, a6, a7, a8, a9⟩ := x
  obtain ⟨b1, b2, b3, b4, b5, b6, b7, b8, b9⟩ := y
  have hi := ints_f (xs := a9) (ys := b9) hk
  refine fun_intro 66 Try.func40 rfl rfl rfl (fun ι F S w => ?_)
  (repeat' (first | (apply v_cx; exact rfl; exact cbA rfl; (first | exact hi); exact rfl; exact rfl) | (apply v_move; exact rfl; exact rfl) | (apply v_assign; exact rfl; exact rfl) | refine run_seq ?_ | refine run_region ?_ | refine runL_nil ?_ | (apply v_fldP; exact flA rfl; exact rfl; exact rfl; exact rfl) | (apply v_loadB; exact tyA rfl; exact rfl; exact rfl; exact rfl; exact rfl; exact rfl; exact rfl) | (apply v_on; exact rfl) | (apply v_off; exact rfl; exact rfl) | (apply v_pick_t; exact rfl; exact rfl; exact rfl) | (apply v_pick_f; exact rfl; exact rfl; exact rfl) | (apply v_eql; exact rfl; exact rfl; exact rfl) | (apply v_boxD; exact rfl; exact rfl; exact rfl; exact rfl; exact rfl; exact rfl; exact rfl) | (apply v_eqlS; exact rfl; exact rfl; exact rfl) | (apply v_eqlB; exact boA rfl; exact rfl; exact rfl; exact rfl) | (apply v_gsplit; exact rfl; exact rfl; exact rfl; all_goals intro hb)))
  all_goals exact run_ret idN _ Try.func40 ⟨_, _, rfl, rfl, rfl⟩ (by simp_all [AV.ren, oneA]) trivial trivial rfl
theorem same_r {l m : List Nd} (hm : l.length ≤ 1000000) (hk : ∀ x ∈ l, x.kids.length ≤ 1000000) : Fun Try.prog 42 [.sem (listS nodeE l), .sem (listS nodeE m)] [] (.v (.bool (decide (l = m)))) [] := by
  refine fun_intro 27 Try.func42 rfl rfl rfl (fun ι F S w => ?_)
  (repeat (first | (apply v_move; exact rfl; exact rfl) | (apply v_assign; exact rfl; exact rfl) | refine run_seq ?_ | refine run_region ?_ | refine runL_nil ?_ | (apply v_neq; exact rfl; exact rfl; exact rfl) | (apply v_lenL; exact slA rfl; exact rfl; exact rfl)))
  refine run_cond rfl (fun h => ?_) (fun h => ?_)
  · have hne : l.length ≠ m.length := by
      have : (l.length : Int) ≠ m.length := by simpa using h
      omega
    have hf : decide (l = m) = false := by simp; intro e; exact hne (by rw [e])
    rw [hf]
    (repeat (first | (apply v_assign; exact rfl; exact rfl) | refine run_seq ?_ | refine run_region ?_ | refine runL_nil ?_))
    exact run_ret idN _ Try.func42 ⟨_, _, rfl, rfl, rfl⟩ rfl trivial trivial rfl
  · have hle : l.length = m.length := by
      have : (l.length : Int) = m.length := by simpa using h
      omega
    (repeat (first | (apply v_assign; exact rfl; exact rfl) | refine run_seq ?_ | refine run_region ?_ | refine runL_nil ?_ | refine run_skip ?_ | refine run_block ?_))
    refine v_loop (fun i : Nat => ⟨[(0, .sem (listS nodeE l)), (1, .sem (listS nodeE m)), (5, .v (.int .i64 i))], []⟩) (fun i => i ≤ l.length ∧ ∀ j, j < i → l[j]? = m[j]?) (fun i => l.length - i) 0 idN trivial (by repeat (first | exact trivial | refine ⟨rfl, ?_⟩)) (by repeat (first | exact trivial | refine ⟨rfl, ?_⟩)) rfl ⟨by omega, fun j hj => by omega⟩ fun i ⟨hi, hp⟩ ih => ?_
    (repeat (first | (apply v_move; exact rfl; exact rfl) | refine run_seq ?_ | refine run_region ?_ | refine runL_nil ?_ | (apply v_lss; exact rfl; exact rfl; exact rfl) | (apply v_lenL; exact slA rfl; exact rfl; exact rfl)))
    refine run_cond rfl (fun h => ?_) (fun h => ?_)
    · have hlt : i < l.length := by simpa using h
      have hx : l[((i : Int)).toNat]? = some l[i] := by simp [hlt]
      have hy : m[((i : Int)).toNat]? = some (m[i]'(by omega)) := by simp [show i < m.length by omega]
      have ho := one_r (x := l[i]) (y := m[i]'(by omega)) (hk _ (List.getElem_mem hlt))
      (repeat (first | refine run_seq ?_ | refine run_skip ?_ | refine run_block ?_))
      refine run_draws (by kernel_rfl) (by kernel_rfl) ?_
      (repeat (first | (apply p_idxL; exact slA rfl; exact tyA rfl; exact rfl; exact rfl; exact rfl; exact rfl; exact (by omega); (first | exact hx | exact hy); exact rfl; exact rfl) | (apply p_cx; exact rfl; exact cbA rfl; (first | exact ho); exact rfl; exact rfl; exact rfl) | (apply p_move; exact rfl; exact rfl; exact rfl) | (apply p_loadA; exact tyA rfl; exact rfl; exact rfl; exact rfl; exact rfl; exact rfl; exact rfl; exact rfl) | (apply p_not; exact rfl; exact rfl; exact rfl)))
      refine planL_nil (by kernel_rfl) ?_
      refine run_cond rfl (fun h => ?_) (fun h => ?_)
      · have he : l[i] ≠ m[i]'(by omega) := by simpa using h
        have hf : decide (l = m) = false := by
          simp
          intro e
          subst e
          exact he rfl
        rw [hf]
        (repeat (first | (apply v_assign; exact rfl; exact rfl) | refine run_seq ?_ | refine run_region ?_ | refine runL_nil ?_))
        exact run_ret idN _ Try.func42 ⟨_, _, rfl, rfl, rfl⟩ rfl trivial trivial rfl
      · have he : l[i] = m[i]'(by omega) := by simpa using h
        (repeat (first | (apply v_move; exact rfl; exact rfl) | (apply v_assign; exact rfl; exact rfl) | refine run_region ?_ | refine runL_nil ?_ | refine run_skip ?_ | refine run_inBlock ?_ | (apply v_add; exact rfl; exact rfl; exact rfl; exact (by omega))))
        exact v_again ih (i + 1) idN trivial (by repeat (first | exact trivial | refine ⟨rfl, ?_⟩)) (by repeat (first | exact trivial | refine ⟨rfl, ?_⟩)) rfl ⟨by omega, fun j hj => by
          by_cases e : j = i
          · subst e
            rw [List.getElem?_eq_getElem hlt, List.getElem?_eq_getElem (by omega), he]
          · exact hp j (by omega)⟩ (by omega)
    · have hge : i = l.length := by have : ¬ i < l.length := (by simpa using h); omega
      have hf : decide (l = m) = true := by
        rw [decide_eq_true_iff]
        apply List.ext_getElem?
        intro j
        by_cases hj : j < i
        · exact hp j hj
        · rw [List.getElem?_eq_none (by omega), List.getElem?_eq_none (by omega)]
      rw [hf]
      (repeat (first | (apply v_assign; exact rfl; exact rfl) | refine run_seq ?_ | refine run_region ?_ | refine runL_nil ?_ | (apply run_exit; exact rfl)))
      exact run_ret idN _ Try.func42 ⟨_, _, rfl, rfl, rfl⟩ rfl trivial trivial rfl
end Go.Proofs.Ytjkidecaciomgaa
