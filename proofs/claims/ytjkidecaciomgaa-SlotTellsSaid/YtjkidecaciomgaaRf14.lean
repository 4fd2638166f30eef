/- The reference 09: Assigned, shown, once. -/
import Derived.Test.YtjkidecaciomgaaRf11
import Derived.Test.YtjkidecaciomgaaSl4
namespace Go.Proofs.Ytjkidecaciomgaa
set_option linter.unusedVariables false
set_option linter.unusedSimpArgs false
set_option maxRecDepth 100000
open Go.RowKit

theorem assigned9 {l : List Nd} (h : WF l) (s : Int) : Fun Try.prog 107 [.sem (listS nodeE l), .v (.int .i64 s)] [] (.res 0) [(0, .obj (ownS 3 intE (assignedM l s)))] := by
  have hlen := h.len
  have hr := root5 h s
  have ho : assignedM l s = match nodeAt l (hostM l s) with
    | none => []
    | some p => p.kids.filter fun x => !(delC l s x) := rfl
  generalize assignedM l s = out at *
  cases hx : nodeAt l s with
  | none =>
    rw [host_none h hx, nodeAt_zero] at ho
    rw [root_none h hx] at hr
    subst ho
    refine fun_intro 57 Try.func107 rfl rfl rfl (fun ι F S w => ?_)
    (repeat (first | (apply v_move; exact rfl; exact rfl) | (apply v_assign; exact rfl; exact rfl) | refine run_seq ?_ | refine run_region ?_ | refine runL_nil ?_))
    refine runL_own 5 5 3 intE rfl rfl rfl rfl ?_
    (repeat (first | (apply v_cx; exact rfl; exact cbA rfl; (first | exact hr); exact rfl; exact rfl) | (apply v_move; exact rfl; exact rfl) | (apply v_assign; exact rfl; exact rfl) | refine run_seq ?_ | refine run_region ?_ | refine runL_nil ?_ | (apply v_off; exact rfl; exact rfl) | (apply v_pick_t; exact rfl; exact rfl; exact rfl) | (apply run_cond; exact rfl; rotate_left; (focus (intro hb; cases hb; done)); intro hb; clear hb) | (apply v_eql; exact rfl; exact rfl; exact rfl)))
    exact run_ret (mp [(0, 5)]) _ Try.func107 ⟨_, _, rfl, rfl, rfl⟩ rfl trivial ⟨rfl, trivial⟩ rfl
  | some x =>
    obtain ⟨r, hrt, _⟩ := root_some h hx
    have hne := root_ne h hx
    have hh : hostM l s = r.host := by rw [hostM, nodeR_some hrt]
    rw [hh] at ho
    have hho := h.host hrt
    generalize rootM l s = R at *
    obtain ⟨r1, r2, r3⟩ := nodeAt_some hrt
    by_cases h0 : r.host = 0
    · rw [h0, nodeAt_zero] at ho
      subst ho
      refine fun_intro 57 Try.func107 rfl rfl rfl (fun ι F S w => ?_)
      (repeat (first | (apply v_move; exact rfl; exact rfl) | (apply v_assign; exact rfl; exact rfl) | refine run_seq ?_ | refine run_region ?_ | refine runL_nil ?_))
      refine runL_own 5 5 3 intE rfl rfl rfl rfl ?_
      (repeat (first | (apply v_cx; exact rfl; exact cbA rfl; (first | exact hr); exact rfl; exact rfl) | (apply v_move; exact rfl; exact rfl) | (apply v_assign; exact rfl; exact rfl) | refine run_seq ?_ | refine run_region ?_ | refine runL_nil ?_ | (apply v_eql; exact rfl; exact rfl; exact rfl)))
      refine v_is 14 false rfl (by simpa using hne) ?_
      (repeat (first | (apply v_idxL; exact slA rfl; exact tyA rfl; exact rfl; exact rfl; exact rfl; exact rfl; exact (by omega); (first | exact r3); exact rfl) | (apply v_move; exact rfl; exact rfl) | refine runL_nil ?_ | (apply v_fldA; exact flA rfl; exact rfl; exact rfl; exact rfl) | (apply v_loadA; exact tyA rfl; exact rfl; exact rfl; exact rfl; exact rfl; exact rfl; exact rfl) | (apply v_on; exact rfl) | (apply v_pick_f; exact rfl; exact rfl; exact rfl) | (apply v_eql; exact rfl; exact rfl; exact rfl) | (apply v_sub; exact rfl; exact rfl; exact rfl; exact (by omega))))
      refine run_condY rfl (by simpa using h0) ?_
      (repeat (first | (apply v_move; exact rfl; exact rfl) | (apply v_assign; exact rfl; exact rfl) | refine run_seq ?_ | refine run_region ?_ | refine runL_nil ?_))
      exact run_ret (mp [(0, 5)]) _ Try.func107 ⟨_, _, rfl, rfl, rfl⟩ rfl trivial ⟨rfl, trivial⟩ rfl
    · obtain ⟨_, p, hp, _⟩ := hho.resolve_left h0
      rw [hp] at ho
      subst ho
      obtain ⟨p1, p2, p3⟩ := nodeAt_some hp
      have hkl := (kids_ok h _ p hp).1
      have hkt : ∀ c ∈ p.kids, ∃ y, nodeAt l c = some y := fun c hc => by
        obtain ⟨y, hy, _⟩ := h.kid hp hc
        exact ⟨y, hy⟩
      have hof := fun c => of9 h c
      refine fun_intro 57 Try.func107 rfl rfl rfl (fun ι F S w => ?_)
      (repeat (first | (apply v_move; exact rfl; exact rfl) | (apply v_assign; exact rfl; exact rfl) | refine run_seq ?_ | refine run_region ?_ | refine runL_nil ?_))
      refine runL_own 5 5 3 intE rfl rfl rfl rfl ?_
      (repeat (first | (apply v_cx; exact rfl; exact cbA rfl; (first | exact hr); exact rfl; exact rfl) | (apply v_move; exact rfl; exact rfl) | (apply v_assign; exact rfl; exact rfl) | refine run_seq ?_ | refine run_region ?_ | refine runL_nil ?_ | (apply v_eql; exact rfl; exact rfl; exact rfl)))
      refine v_is 14 false rfl (by simpa using hne) ?_
      (repeat (first | (apply v_idxL; exact slA rfl; exact tyA rfl; exact rfl; exact rfl; exact rfl; exact rfl; exact (by omega); (first | exact r3); exact rfl) | (apply v_move; exact rfl; exact rfl) | refine runL_nil ?_ | (apply v_fldA; exact flA rfl; exact rfl; exact rfl; exact rfl) | (apply v_loadA; exact tyA rfl; exact rfl; exact rfl; exact rfl; exact rfl; exact rfl; exact rfl) | (apply v_on; exact rfl) | (apply v_pick_f; exact rfl; exact rfl; exact rfl) | (apply v_eql; exact rfl; exact rfl; exact rfl) | (apply v_sub; exact rfl; exact rfl; exact rfl; exact (by omega))))
      refine run_condN rfl (by simpa using h0) ?_
      (repeat (first | (apply v_idxL; exact slA rfl; exact tyA rfl; exact rfl; exact rfl; exact rfl; exact rfl; exact (by omega); (first | exact r3 | exact p3); exact rfl) | (apply v_move; exact rfl; exact rfl) | (apply v_assign; exact rfl; exact rfl) | refine run_seq ?_ | refine run_region ?_ | refine runL_nil ?_ | refine run_skip ?_ | refine run_block ?_ | (apply v_fldA; exact flA rfl; exact rfl; exact rfl; exact rfl) | (apply v_loadA; exact tyA rfl; exact rfl; exact rfl; exact rfl; exact rfl; exact rfl; exact rfl) | (apply v_sub; exact rfl; exact rfl; exact rfl; exact (by omega))))
      refine v_loop (fun i : Nat => ⟨[(0, .sem (listS nodeE l)), (1, .v (.int .i64 s)), (5, .res 5), (7, .sem (listS intE p.kids)), (8, .v (.int .i64 i))], [(5, .obj (ownS 3 intE ((p.kids.take i).filter fun x => !(delC l s x))))]⟩) (fun i => i ≤ p.kids.length) (fun i => p.kids.length - i) 0 idN trivial (by repeat (first | exact trivial | refine ⟨rfl, ?_⟩)) (by repeat (first | exact trivial | refine ⟨rfl, ?_⟩)) rfl (by omega) fun i hi ih => ?_
      have hfl : ((p.kids.take i).filter fun x => !(delC l s x)).length ≤ i := by
        have h1 := List.length_filter_le (fun x => !(delC l s x)) (p.kids.take i)
        rw [List.length_take] at h1
        omega
      (repeat (first | (apply v_move; exact rfl; exact rfl) | refine run_seq ?_ | refine run_region ?_ | refine runL_nil ?_ | (apply v_lss; exact rfl; exact rfl; exact rfl) | (apply v_lenL; exact slA rfl; exact rfl; exact rfl)))
      refine run_cond rfl (fun hb => ?_) (fun hb => ?_)
      · have hlt : i < p.kids.length := by simpa using hb
        have hxu : p.kids[((i : Int)).toNat]? = some p.kids[i] := by simp [hlt]
        obtain ⟨y, hy⟩ := hkt _ (List.getElem_mem hlt)
        have hst : (p.kids.take (i + 1)).filter (fun x => !(delC l s x)) = (p.kids.take i).filter (fun x => !(delC l s x)) ++ if ofM l p.kids[i] = s then [p.kids[i]] else [] := by
          rw [List.take_add_one, List.getElem?_eq_getElem hlt, List.filter_append]
          congr 1
          rw [show (some p.kids[i]).toList = [p.kids[i]] from rfl, List.filter_cons, delC, hy]
          simp
        have ho := hof p.kids[i]
        generalize p.kids[i] = c at *
        generalize ofM l c = o at *
        (repeat (first | (apply v_idxL; exact slA rfl; exact tyA rfl; exact rfl; exact rfl; exact rfl; exact rfl; exact (by omega); (first | exact hxu); exact rfl) | (apply v_cx; exact rfl; exact cbA rfl; (first | exact ho); exact rfl; exact rfl) | (apply v_move; exact rfl; exact rfl) | refine run_seq ?_ | refine run_region ?_ | refine runL_nil ?_ | refine run_skip ?_ | refine run_block ?_ | (apply v_loadA; exact tyA rfl; exact rfl; exact rfl; exact rfl; exact rfl; exact rfl; exact rfl) | (apply v_eql; exact rfl; exact rfl; exact rfl)))
        refine run_cond rfl (fun hb => ?_) (fun hb => ?_)
        · rw [if_pos (by simpa using hb)] at hst
          (repeat (first | (apply v_idxL; exact slA rfl; exact tyA rfl; exact rfl; exact rfl; exact rfl; exact rfl; exact (by omega); (first | exact hxu); exact rfl) | (apply v_move; exact rfl; exact rfl) | refine run_region ?_ | (apply v_loadA; exact tyA rfl; exact rfl; exact rfl; exact rfl; exact rfl; exact rfl; exact rfl)))
          refine v_l intE [c] (slA rfl) (tyA rfl) rfl rfl rfl rfl rfl rfl rfl rfl rfl rfl ?_
          refine v_appendD (slA rfl) (tyA rfl) rfl rfl rfl rfl rfl rfl rfl (by simp only [List.length_singleton]; omega) rfl rfl rfl rfl ?_
          (repeat (first | (apply v_move; exact rfl; exact rfl) | (apply v_assign; exact rfl; exact rfl) | refine run_region ?_ | refine runL_nil ?_ | refine run_inBlock ?_ | (apply v_add; exact rfl; exact rfl; exact rfl; exact (by omega))))
          exact v_again ih (i + 1) (mp [(5, 55)]) trivial (by repeat (first | exact trivial | refine ⟨rfl, ?_⟩)) ⟨by rw [hst]; rfl, trivial⟩ rfl (by omega) (by omega)
        · rw [if_neg (by simpa using hb), List.append_nil] at hst
          (repeat (first | (apply v_move; exact rfl; exact rfl) | (apply v_assign; exact rfl; exact rfl) | refine run_region ?_ | refine runL_nil ?_ | refine run_skip ?_ | refine run_inBlock ?_ | (apply v_add; exact rfl; exact rfl; exact rfl; exact (by omega))))
          exact v_again ih (i + 1) idN trivial (by repeat (first | exact trivial | refine ⟨rfl, ?_⟩)) ⟨by rw [hst]; rfl, trivial⟩ rfl (by omega) (by omega)
      · have hge : i = p.kids.length := by have : ¬ i < p.kids.length := (by simpa using hb); omega
        (repeat (first | (apply v_move; exact rfl; exact rfl) | (apply v_assign; exact rfl; exact rfl) | refine run_seq ?_ | refine run_region ?_ | refine runL_nil ?_ | (apply run_exit; exact rfl)))
        exact run_ret (mp [(0, 5)]) _ Try.func107 ⟨_, _, rfl, rfl, rfl⟩ rfl trivial ⟨by rw [hge, List.take_length]; rfl, trivial⟩ rfl
theorem shown9 {l : List Nd} (h : WF l) (id : Int) : Fun Try.prog 161 [.sem (listS nodeE l), .v (.int .i64 id)] [] (.v (.bool (shownB l id))) [] := by
  have hlen := h.len
  have hr := root5 h id
  cases hx : nodeAt l id with
  | none =>
    rw [root_none h hx] at hr
    rw [show shownB l id = false by rw [shownB, nodeR_none hx]; rfl]
    refine fun_intro 28 Try.func161 rfl rfl rfl (fun ι F S w => ?_)
    (repeat (first | (apply v_cx; exact rfl; exact cbA rfl; (first | exact hr); exact rfl; exact rfl) | (apply v_move; exact rfl; exact rfl) | (apply v_assign; exact rfl; exact rfl) | refine run_seq ?_ | refine run_region ?_ | refine runL_nil ?_ | (apply v_off; exact rfl; exact rfl) | (apply v_pick_f; exact rfl; exact rfl; exact rfl) | (apply v_neq; exact rfl; exact rfl; exact rfl)))
    exact run_ret idN _ Try.func161 ⟨_, _, rfl, rfl, rfl⟩ rfl trivial trivial rfl
  | some x =>
    obtain ⟨r, hrt, _⟩ := root_some h hx
    have hne := root_ne h hx
    have ho : shownB l id = (x.slot && decide (r.kind = 3)) := by rw [shownB, nodeR_some hx, nodeR_some hrt]
    rw [ho]
    clear ho
    generalize rootM l id = R at *
    obtain ⟨r1, r2, r3⟩ := nodeAt_some hrt
    obtain ⟨x1, x2, x3⟩ := nodeAt_some hx
    by_cases hs : x.slot = true
    · rw [hs, Bool.true_and]
      refine fun_intro 28 Try.func161 rfl rfl rfl (fun ι F S w => ?_)
      (repeat (first | (apply v_cx; exact rfl; exact cbA rfl; (first | exact hr); exact rfl; exact rfl) | (apply v_move; exact rfl; exact rfl) | (apply v_assign; exact rfl; exact rfl) | refine run_seq ?_ | refine run_region ?_ | refine runL_nil ?_ | (apply v_neq; exact rfl; exact rfl; exact rfl)))
      refine v_is 11 true rfl (by simpa using hne) ?_
      (repeat (first | (apply v_idxL; exact slA rfl; exact tyA rfl; exact rfl; exact rfl; exact rfl; exact rfl; exact (by omega); (first | exact x3); exact rfl) | (apply v_move; exact rfl; exact rfl) | (apply v_fldA; exact flA rfl; exact rfl; exact rfl; exact rfl) | (apply v_loadA; exact tyA rfl; exact rfl; exact rfl; exact rfl; exact rfl; exact rfl; exact rfl) | (apply v_on; exact rfl) | (apply v_pick_t; exact rfl; exact rfl; exact rfl) | (apply v_sub; exact rfl; exact rfl; exact rfl; exact (by omega))))
      refine v_is 19 true rfl hs ?_
      (repeat (first | (apply v_idxL; exact slA rfl; exact tyA rfl; exact rfl; exact rfl; exact rfl; exact rfl; exact (by omega); (first | exact r3); exact rfl) | (apply v_move; exact rfl; exact rfl) | (apply v_assign; exact rfl; exact rfl) | refine runL_nil ?_ | (apply v_fldA; exact flA rfl; exact rfl; exact rfl; exact rfl) | (apply v_loadA; exact tyA rfl; exact rfl; exact rfl; exact rfl; exact rfl; exact rfl; exact rfl) | (apply v_on; exact rfl) | (apply v_pick_t; exact rfl; exact rfl; exact rfl) | (apply v_eql; exact rfl; exact rfl; exact rfl) | (apply v_sub; exact rfl; exact rfl; exact rfl; exact (by omega))))
      exact run_ret idN _ Try.func161 ⟨_, _, rfl, rfl, rfl⟩ rfl trivial trivial rfl
    · rw [Bool.eq_false_iff.2 hs, Bool.false_and]
      refine fun_intro 28 Try.func161 rfl rfl rfl (fun ι F S w => ?_)
      (repeat (first | (apply v_cx; exact rfl; exact cbA rfl; (first | exact hr); exact rfl; exact rfl) | (apply v_move; exact rfl; exact rfl) | (apply v_assign; exact rfl; exact rfl) | refine run_seq ?_ | refine run_region ?_ | refine runL_nil ?_ | (apply v_neq; exact rfl; exact rfl; exact rfl)))
      refine v_is 11 true rfl (by simpa using hne) ?_
      (repeat (first | (apply v_idxL; exact slA rfl; exact tyA rfl; exact rfl; exact rfl; exact rfl; exact rfl; exact (by omega); (first | exact x3); exact rfl) | (apply v_move; exact rfl; exact rfl) | (apply v_fldA; exact flA rfl; exact rfl; exact rfl; exact rfl) | (apply v_loadA; exact tyA rfl; exact rfl; exact rfl; exact rfl; exact rfl; exact rfl; exact rfl) | (apply v_on; exact rfl) | (apply v_pick_t; exact rfl; exact rfl; exact rfl) | (apply v_sub; exact rfl; exact rfl; exact rfl; exact (by omega))))
      refine v_is 19 false rfl (Bool.eq_false_iff.2 hs) ?_
      (repeat (first | (apply v_assign; exact rfl; exact rfl) | refine runL_nil ?_ | (apply v_off; exact rfl; exact rfl) | (apply v_pick_f; exact rfl; exact rfl; exact rfl)))
      exact run_ret idN _ Try.func161 ⟨_, _, rfl, rfl, rfl⟩ rfl trivial trivial rfl
theorem once9 {l : List Nd} (h : WF l) {s : Int} {x : Nd} (hx : nodeAt l s = some x) : Fun Try.prog 162 [.sem (listS nodeE l), .v (.int .i64 s)] [] (.res 0) [(0, .obj (ownS 3 intE (onceM l s)))] := by
  have hlen := h.len
  have ha := assigned9 h s
  have hon : onceM l s = if assignedM l s = [] then x.kids.filter fun x => !(delK l x) else assignedM l s := by rw [onceM, nodeR_some hx]
  generalize onceM l s = out at *
  generalize assignedM l s = ag at *
  obtain ⟨x1, x2, x3⟩ := nodeAt_some hx
  have hkl := (kids_ok h _ x hx).1
  have hkt : ∀ c ∈ x.kids, ∃ y, nodeAt l c = some y := fun c hc => by
    obtain ⟨y, hy, _⟩ := h.kid hx hc
    exact ⟨y, hy⟩
  by_cases h0 : ag = []
  · rw [if_pos h0] at hon
    subst hon
    subst h0
    refine fun_intro 45 Try.func162 rfl rfl rfl (fun ι F S w => ?_)
    (repeat (first | (apply v_cOx; exact rfl; exact cbA rfl; (first | exact ha); exact rfl; exact rfl; exact rfl; exact rfl; exact rfl) | (apply v_idxL; exact slA rfl; exact tyA rfl; exact rfl; exact rfl; exact rfl; exact rfl; exact (by omega); (first | exact x3); exact rfl) | (apply v_move; exact rfl; exact rfl) | (apply v_assign; exact rfl; exact rfl) | refine run_seq ?_ | refine run_region ?_ | refine runL_nil ?_ | refine run_skip ?_ | refine run_block ?_ | (apply v_fldA; exact flA rfl; exact rfl; exact rfl; exact rfl) | (apply v_loadA; exact tyA rfl; exact rfl; exact rfl; exact rfl; exact rfl; exact rfl; exact rfl) | (apply run_cond; exact rfl; (focus (intro hb; cases hb; done)); intro hb; clear hb) | (apply v_gtr; exact rfl; exact rfl; exact rfl) | (apply v_lenO; exact slA rfl; exact rfl; exact rfl; exact rfl) | (apply v_sub; exact rfl; exact rfl; exact rfl; exact (by omega))))
    refine v_loop (fun i : Nat => ⟨[(0, .sem (listS nodeE l)), (5, .res 10), (6, .sem (listS intE x.kids)), (7, .v (.int .i64 i))], [(10, .obj (ownS 3 intE ((x.kids.take i).filter fun x => !(delK l x))))]⟩) (fun i => i ≤ x.kids.length) (fun i => x.kids.length - i) 0 idN trivial (by repeat (first | exact trivial | refine ⟨rfl, ?_⟩)) (by repeat (first | exact trivial | refine ⟨rfl, ?_⟩)) rfl (by omega) fun i hi ih => ?_
    have hfl : ((x.kids.take i).filter fun x => !(delK l x)).length ≤ i := by
      have h1 := List.length_filter_le (fun x => !(delK l x)) (x.kids.take i)
      rw [List.length_take] at h1
      omega
    (repeat (first | (apply v_move; exact rfl; exact rfl) | refine run_seq ?_ | refine run_region ?_ | refine runL_nil ?_ | (apply v_lss; exact rfl; exact rfl; exact rfl) | (apply v_lenL; exact slA rfl; exact rfl; exact rfl)))
    refine run_cond rfl (fun hb => ?_) (fun hb => ?_)
    · have hlt : i < x.kids.length := by simpa using hb
      have hxu : x.kids[((i : Int)).toNat]? = some x.kids[i] := by simp [hlt]
      obtain ⟨y, hy⟩ := hkt _ (List.getElem_mem hlt)
      have hst : (x.kids.take (i + 1)).filter (fun x => !(delK l x)) = (x.kids.take i).filter (fun x => !(delK l x)) ++ if y.kind = 2 then [x.kids[i]] else [] := by
        rw [List.take_add_one, List.getElem?_eq_getElem hlt, List.filter_append]
        congr 1
        rw [show (some x.kids[i]).toList = [x.kids[i]] from rfl, List.filter_cons, delK, hy, nodeR_some hy]
        simp
      skip
      generalize x.kids[i] = c at *
      obtain ⟨y1, y2, y3⟩ := nodeAt_some hy
      (repeat (first | (apply v_idxL; exact slA rfl; exact tyA rfl; exact rfl; exact rfl; exact rfl; exact rfl; exact (by omega); (first | exact hxu | exact y3); exact rfl) | (apply v_move; exact rfl; exact rfl) | refine run_seq ?_ | refine run_region ?_ | refine runL_nil ?_ | refine run_skip ?_ | refine run_block ?_ | (apply v_fldA; exact flA rfl; exact rfl; exact rfl; exact rfl) | (apply v_loadA; exact tyA rfl; exact rfl; exact rfl; exact rfl; exact rfl; exact rfl; exact rfl) | (apply v_eql; exact rfl; exact rfl; exact rfl) | (apply v_sub; exact rfl; exact rfl; exact rfl; exact (by omega))))
      refine run_cond rfl (fun hb => ?_) (fun hb => ?_)
      · rw [if_pos (by simpa using hb)] at hst
        (repeat (first | (apply v_idxL; exact slA rfl; exact tyA rfl; exact rfl; exact rfl; exact rfl; exact rfl; exact (by omega); (first | exact hxu); exact rfl) | (apply v_move; exact rfl; exact rfl) | refine run_region ?_ | (apply v_loadA; exact tyA rfl; exact rfl; exact rfl; exact rfl; exact rfl; exact rfl; exact rfl)))
        refine v_l intE [c] (slA rfl) (tyA rfl) rfl rfl rfl rfl rfl rfl rfl rfl rfl rfl ?_
        refine v_appendD (slA rfl) (tyA rfl) rfl rfl rfl rfl rfl rfl rfl (by simp only [List.length_singleton]; omega) rfl rfl rfl rfl ?_
        (repeat (first | (apply v_move; exact rfl; exact rfl) | (apply v_assign; exact rfl; exact rfl) | refine run_region ?_ | refine runL_nil ?_ | refine run_inBlock ?_ | (apply v_add; exact rfl; exact rfl; exact rfl; exact (by omega))))
        exact v_again ih (i + 1) (mp [(10, 43)]) trivial (by repeat (first | exact trivial | refine ⟨rfl, ?_⟩)) ⟨by rw [hst]; rfl, trivial⟩ rfl (by omega) (by omega)
      · rw [if_neg (by simpa using hb), List.append_nil] at hst
        (repeat (first | (apply v_move; exact rfl; exact rfl) | (apply v_assign; exact rfl; exact rfl) | refine run_region ?_ | refine runL_nil ?_ | refine run_skip ?_ | refine run_inBlock ?_ | (apply v_add; exact rfl; exact rfl; exact rfl; exact (by omega))))
        exact v_again ih (i + 1) idN trivial (by repeat (first | exact trivial | refine ⟨rfl, ?_⟩)) ⟨by rw [hst]; rfl, trivial⟩ rfl (by omega) (by omega)
    · have hge : i = x.kids.length := by have : ¬ i < x.kids.length := (by simpa using hb); omega
      (repeat (first | (apply v_move; exact rfl; exact rfl) | (apply v_assign; exact rfl; exact rfl) | refine run_seq ?_ | refine run_region ?_ | refine runL_nil ?_ | (apply run_exit; exact rfl)))
      exact run_ret (mp [(0, 10)]) _ Try.func162 ⟨_, _, rfl, rfl, rfl⟩ rfl trivial ⟨by rw [hge, List.take_length]; rfl, trivial⟩ rfl
  · rw [if_neg h0] at hon
    subst hon
    have hpos : 0 < out.length := List.length_pos_iff.2 h0
    refine fun_intro 45 Try.func162 rfl rfl rfl (fun ι F S w => ?_)
    (repeat (first | (apply v_cOx; exact rfl; exact cbA rfl; (first | exact ha); exact rfl; exact rfl; exact rfl; exact rfl; exact rfl) | (apply v_move; exact rfl; exact rfl) | (apply v_assign; exact rfl; exact rfl) | refine run_seq ?_ | refine run_region ?_ | refine runL_nil ?_ | (apply v_gtr; exact rfl; exact rfl; exact rfl) | (apply v_lenO; exact slA rfl; exact rfl; exact rfl; exact rfl)))
    refine run_condY rfl (by rw [decide_eq_true_iff]; omega) ?_
    (repeat (first | (apply v_move; exact rfl; exact rfl) | (apply v_assign; exact rfl; exact rfl) | refine run_seq ?_ | refine run_region ?_ | refine runL_nil ?_))
    exact run_ret (mp [(0, 10)]) _ Try.func162 ⟨_, _, rfl, rfl, rfl⟩ rfl trivial ⟨rfl, trivial⟩ rfl
end Go.Proofs.Ytjkidecaciomgaa
