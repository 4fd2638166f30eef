/- slot: shown, Flat. -/
import Derived.Test.YtjkidecaciomgaaFoF
namespace Go.Proofs.Ytjkidecaciomgaa
set_option linter.unusedVariables false
set_option linter.unusedSimpArgs false
set_option maxRecDepth 100000
open Go.RowKit

theorem shown_f {l : List Nd} (h : WF l) (id : Int) : Fun Try.prog 159 [forA l, .v (.int .i64 id)] [] (.tup [.agg (nodeL (nodeR l id)), .v (.bool (shownB l id))]) [] := by
  have hn := node_w h id
  have hr := root_f h id
  have hm := node_w h (rootM l id)
  have ho : shownB l id = ((nodeR l id).slot && decide ((nodeR l (rootM l id)).kind = 3)) := rfl
  rw [ho]
  clear ho
  generalize nodeR l id = n at *
  generalize nodeR l (rootM l id) = r at *
  generalize (nodeAt l id).isSome = ok at *
  generalize (nodeAt l (rootM l id)).isSome = ok2 at *
  generalize rootM l id = R at *
  by_cases hs : n.slot = true
  · rw [hs, Bool.true_and]
    refine fun_intro 32 Try.func159 rfl rfl rfl (fun ι F S w => ?_)
    (repeat (first | (apply v_cx; exact rfl; exact cbA rfl; (first | exact hn | exact hr | exact hm); exact rfl; exact rfl) | (apply v_move; exact rfl; exact rfl) | (apply v_assign; exact rfl; exact rfl) | refine run_seq ?_ | refine run_region ?_ | refine runL_nil ?_ | (apply v_extract; exact rfl; exact rfl; exact rfl) | (apply v_allocD; exact tyA rfl; exact rfl; exact rfl; exact rfl; exact rfl) | (apply v_storeW; exact tyA rfl; exact rfl; exact rfl; exact rfl; exact rfl; exact rfl; exact rfl; exact rfl)))
    refine run_draws (by kernel_rfl) (by kernel_rfl) ?_
    (repeat (first | (apply p_move; exact rfl; exact rfl; exact rfl) | (apply p_fldP; exact flA rfl; exact rfl; exact rfl; exact rfl; exact rfl) | (apply p_loadB; exact tyA rfl; exact rfl; exact rfl; exact rfl; exact rfl; exact rfl; exact rfl; exact rfl)))
    refine p_is 27 true rfl hs ?_
    (repeat (first | (apply p_assign; exact rfl; exact rfl; exact rfl) | (apply p_fldP; exact flA rfl; exact rfl; exact rfl; exact rfl; exact rfl) | (apply p_loadB; exact tyA rfl; exact rfl; exact rfl; exact rfl; exact rfl; exact rfl; exact rfl; exact rfl) | (apply p_pick_t; exact rfl; exact rfl; exact rfl; exact rfl) | (apply p_eql; exact rfl; exact rfl; exact rfl; exact rfl) | (apply p_storeW; exact tyA rfl; exact rfl; exact rfl; exact rfl; exact rfl; exact rfl; exact rfl; exact rfl; exact rfl)))
    refine planL_nil (by kernel_rfl) ?_
    skip
    exact run_ret idN _ Try.func159 ⟨_, _, _, _, _, _, rfl, rfl, rfl, ty33, rfl, (fun h => by cases h), rfl, ⟨_, _, rfl, rfl, rfl⟩⟩ rfl trivial trivial rfl
  · rw [Bool.eq_false_iff.2 hs, Bool.false_and]
    refine fun_intro 32 Try.func159 rfl rfl rfl (fun ι F S w => ?_)
    (repeat (first | (apply v_cx; exact rfl; exact cbA rfl; (first | exact hn | exact hr | exact hm); exact rfl; exact rfl) | (apply v_move; exact rfl; exact rfl) | (apply v_assign; exact rfl; exact rfl) | refine run_seq ?_ | refine run_region ?_ | refine runL_nil ?_ | (apply v_extract; exact rfl; exact rfl; exact rfl) | (apply v_allocD; exact tyA rfl; exact rfl; exact rfl; exact rfl; exact rfl) | (apply v_storeW; exact tyA rfl; exact rfl; exact rfl; exact rfl; exact rfl; exact rfl; exact rfl; exact rfl)))
    refine run_draws (by kernel_rfl) (by kernel_rfl) ?_
    (repeat (first | (apply p_move; exact rfl; exact rfl; exact rfl) | (apply p_fldP; exact flA rfl; exact rfl; exact rfl; exact rfl; exact rfl) | (apply p_loadB; exact tyA rfl; exact rfl; exact rfl; exact rfl; exact rfl; exact rfl; exact rfl; exact rfl)))
    refine p_is 27 false rfl (Bool.eq_false_iff.2 hs) ?_
    (repeat (first | (apply p_off; exact rfl; exact rfl) | (apply p_assign; exact rfl; exact rfl; exact rfl) | (apply p_pick_f; exact rfl; exact rfl; exact rfl; exact rfl) | (apply p_storeW; exact tyA rfl; exact rfl; exact rfl; exact rfl; exact rfl; exact rfl; exact rfl; exact rfl; exact rfl)))
    refine planL_nil (by kernel_rfl) ?_
    skip
    exact run_ret idN _ Try.func159 ⟨_, _, _, _, _, _, rfl, rfl, rfl, ty33, rfl, (fun h => by cases h), rfl, ⟨_, _, rfl, rfl, rfl⟩⟩ rfl trivial trivial rfl
theorem assigned_there {l : List Nd} (h : WF l) (s : Int) : (assignedM l s).length ≤ 1000000 := by
  unfold assignedM
  cases hx : nodeAt l (hostM l s) with
  | none => simp
  | some p => exact Nat.le_trans (List.length_filter_le _ _) (kids_ok h _ p hx).1
theorem once_len {l : List Nd} (h : WF l) (s : Int) : (onceM l s).length ≤ 128 := by
  have h1 := nodup_len l.length _ (once_nodup h s) fun c hc => by
    obtain ⟨y, hy⟩ := once_there h hc
    have := nodeAt_some hy
    omega
  have := h.len
  omega
theorem shown_there {l : List Nd} {s : Int} (hs : shownB l s = true) : ∃ x, nodeAt l s = some x := by
  cases hx : nodeAt l s with
  | some x => exact ⟨x, rfl⟩
  | none =>
    rw [shownB, nodeR_none hx] at hs
    exact absurd hs (by simp [nd0])
theorem exp_not {l : List Nd} {c : Int} (hs : shownB l c = false) : ∀ n, expN l n c = [c]
  | 0 => rfl
  | n + 1 => by rw [expN, hs]; rfl
theorem flat_n {l : List Nd} (h : WF l) : ∀ (n : Nat) (s : Int), deepM l s < n → Fun Try.prog 110 [forA l, .v (.int .i64 s)] [] (.res 0) [(0, .obj (ownS 3 intE (if shownB l s = true then expN l n s else [])))]
  | 0, s, hd => by omega
  | n + 1, s, hd => by
    have hsh := shown_f h s
    by_cases hs : shownB l s = true
    · rw [if_pos hs]
      rw [hs] at hsh
      have he : expN l (n + 1) s = (onceM l s).flatMap (expN l n) := by rw [expN, if_pos hs]
      have htot := exp_len h (n + 1) (shown_there hs)
      rw [he] at htot ⊢
      have hsub : ∀ c ∈ onceM l s, deepM l c < n := fun c hc => by have := deep_once h hc; omega
      have has := assigned_p h s
      have hal := assigned_there h s
      have hon : onceM l s = if assignedM l s = [] then (nodeR l s).kids.filter fun x => !(delK l x) else assignedM l s := rfl
      have hkl : (nodeR l s).kids.length ≤ 1000000 := by
        obtain ⟨x, hx⟩ := shown_there hs
        rw [nodeR_some hx]
        exact (kids_ok h s x hx).1
      have hpk := (pickc_f h hkl).freeze
      have hol := once_len h s
      generalize nodeR l s = x at *
      generalize assignedM l s = ag at *
      generalize onceM l s = u at *
      have hst : ∀ i (hi : i < u.length), (u.take (i + 1)).flatMap (expN l n) = (u.take i).flatMap (expN l n) ++ expN l n u[i] := fun i hi => by
        rw [List.take_add_one, List.flatMap_append, List.getElem?_eq_getElem hi]
        simp
      have hpre : ∀ i, ((u.take i).flatMap (expN l n)).length ≤ 128 := fun i => by
        have := congrArg (fun q : List Int => (q.flatMap (expN l n)).length) (List.take_append_drop i u)
        simp only [List.flatMap_append, List.length_append] at this
        omega
      refine fun_intro 55 Try.func110 rfl rfl rfl (fun ι F S w => ?_)
      apply via3
      rotate_left
      · intro key
        by_cases h0 : ag = []
        · have e : u = x.kids.filter fun x => !(delK l x) := by rw [hon, if_pos h0]
          rw [← e] at hpk
          rw [h0] at has
          (repeat (first | (apply v_cx; exact rfl; exact cbA rfl; (first | exact hsh | exact has | exact hpk); exact rfl; exact rfl) | (apply v_move; exact rfl; exact rfl) | (apply v_assign; exact rfl; exact rfl) | refine run_seq ?_ | refine run_region ?_ | refine runL_nil ?_ | refine run_skip ?_ | refine run_block ?_ | (apply v_extract; exact rfl; exact rfl; exact rfl) | (apply v_fldP; exact flA rfl; exact rfl; exact rfl; exact rfl) | (apply v_loadB; exact tyA rfl; exact rfl; exact rfl; exact rfl; exact rfl; exact rfl; exact rfl) | (apply run_cond; exact rfl; rotate_left; (focus (intro hb; cases hb; done)); intro hb; clear hb) | (apply run_cond; exact rfl; (focus (intro hb; cases hb; done)); intro hb; clear hb) | (apply v_not; exact rfl; exact rfl) | (apply v_eql; exact rfl; exact rfl; exact rfl) | (apply v_lenL; exact slA rfl; exact rfl; exact rfl) | (apply v_allocD; exact tyA rfl; exact rfl; exact rfl; exact rfl; exact rfl) | (apply v_storeW; exact tyA rfl; exact rfl; exact rfl; exact rfl; exact rfl; exact rfl; exact rfl; exact rfl)))
          refine run_weak idN (σ2 := ⟨[(0, forA l), (8, .v (.slice none 0 0)), (31, .sem (listS intE u)), (32, .v (.int .i64 u.length)), (33, .v (.int .i64 0))], []⟩) ?_ ?_ ?_ ?_ key.out <;> first | exact trivial | exact ⟨rfl, rfl, rfl, rfl, rfl, trivial⟩ | rfl
        · have e : u = ag := by rw [hon, if_neg h0]
          rw [← e] at has h0
          (repeat (first | (apply v_cx; exact rfl; exact cbA rfl; (first | exact hsh | exact has); exact rfl; exact rfl) | (apply v_move; exact rfl; exact rfl) | (apply v_assign; exact rfl; exact rfl) | refine run_seq ?_ | refine run_region ?_ | refine runL_nil ?_ | refine run_skip ?_ | (apply v_extract; exact rfl; exact rfl; exact rfl) | (apply run_cond; exact rfl; (focus (intro hb; cases hb; done)); intro hb; clear hb) | (apply v_not; exact rfl; exact rfl) | (apply v_eql; exact rfl; exact rfl; exact rfl) | (apply v_lenL; exact slA rfl; exact rfl; exact rfl) | (apply v_allocD; exact tyA rfl; exact rfl; exact rfl; exact rfl; exact rfl) | (apply v_storeW; exact tyA rfl; exact rfl; exact rfl; exact rfl; exact rfl; exact rfl; exact rfl; exact rfl)))
          refine run_condN rfl (by rw [beq_eq_false_iff_ne]; intro e; exact h0 (List.eq_nil_of_length_eq_zero (by omega))) ?_
          (repeat (first | (apply v_move; exact rfl; exact rfl) | (apply v_assign; exact rfl; exact rfl) | refine run_seq ?_ | refine run_region ?_ | refine runL_nil ?_ | refine run_skip ?_ | refine run_block ?_ | (apply v_lenL; exact slA rfl; exact rfl; exact rfl)))
          refine run_weak idN (σ2 := ⟨[(0, forA l), (8, .v (.slice none 0 0)), (31, .sem (listS intE u)), (32, .v (.int .i64 u.length)), (33, .v (.int .i64 0))], []⟩) ?_ ?_ ?_ ?_ key.out <;> first | exact trivial | exact ⟨rfl, rfl, rfl, rfl, rfl, trivial⟩ | rfl
      · clear hon hpk has
        refine run_own 8 8 3 intE rfl rfl rfl rfl ?_
        refine v_loop (fun i : Nat => ⟨[(0, forA l), (8, .res 8), (31, .sem (listS intE u)), (32, .v (.int .i64 u.length)), (33, .v (.int .i64 i))], [(8, .obj (ownS 3 intE ((u.take i).flatMap (expN l n))))]⟩) (fun i => i ≤ u.length) (fun i => u.length - i) 0 idN trivial (by repeat (first | exact trivial | refine ⟨rfl, ?_⟩)) (by repeat (first | exact trivial | refine ⟨rfl, ?_⟩)) rfl (by omega) fun i hi ih => ?_
        (repeat (first | refine run_seq ?_ | refine run_region ?_ | refine runL_nil ?_ | (apply v_lss; exact rfl; exact rfl; exact rfl)))
        refine run_cond rfl (fun hb => ?_) (fun hb => ?_)
        · have hlt : i < u.length := by simpa using hb
          have hxu : u[((i : Int)).toNat]? = some u[i] := by simp [hlt]
          have hst2 := hst i hlt
          have hpi := hpre i
          have hpi1 := hpre (i + 1)
          have hF := (flat_n h n u[i] (hsub _ (List.getElem_mem hlt))).freeze
          have hsc := shown_f h u[i]
          generalize u[i] = c at *
          rw [hst2, List.length_append] at hpi1
          by_cases hc : shownB l c = true
          · rw [if_pos hc] at hF
            rw [hc] at hsc
            (repeat (first | (apply v_idxL; exact slA rfl; exact tyA rfl; exact rfl; exact rfl; exact rfl; exact rfl; exact (by omega); (first | exact hxu); exact rfl) | (apply v_cx; exact rfl; exact cbA rfl; (first | exact hsc | exact hF); exact rfl; exact rfl) | (apply v_move; exact rfl; exact rfl) | (apply v_assign; exact rfl; exact rfl) | refine run_seq ?_ | refine run_region ?_ | refine runL_nil ?_ | refine run_skip ?_ | refine run_block ?_ | (apply v_extract; exact rfl; exact rfl; exact rfl) | (apply v_loadA; exact tyA rfl; exact rfl; exact rfl; exact rfl; exact rfl; exact rfl; exact rfl) | (apply run_cond; exact rfl; rotate_left; (focus (intro hb; cases hb; done)); intro hb; clear hb) | (apply v_allocD; exact tyA rfl; exact rfl; exact rfl; exact rfl; exact rfl) | (apply v_storeW; exact tyA rfl; exact rfl; exact rfl; exact rfl; exact rfl; exact rfl; exact rfl; exact rfl)))
            refine v_appendD (slA rfl) (tyA rfl) rfl rfl rfl rfl rfl rfl rfl (by omega) rfl rfl rfl rfl ?_
            (repeat (first | (apply v_move; exact rfl; exact rfl) | (apply v_assign; exact rfl; exact rfl) | refine run_region ?_ | refine runL_nil ?_ | refine run_inBlock ?_ | (apply v_add; exact rfl; exact rfl; exact rfl; exact (by omega))))
            exact v_again ih (i + 1) (mp [(8, 48)]) trivial (by repeat (first | exact trivial | refine ⟨rfl, ?_⟩)) ⟨by rw [hst2]; rfl, trivial⟩ rfl (by omega) (by omega)
          · have hc : shownB l c = false := Bool.eq_false_iff.2 hc
            rw [hc] at hsc
            rw [exp_not hc] at hst2
            (repeat (first | (apply v_idxL; exact slA rfl; exact tyA rfl; exact rfl; exact rfl; exact rfl; exact rfl; exact (by omega); (first | exact hxu); exact rfl) | (apply v_cx; exact rfl; exact cbA rfl; (first | exact hsc); exact rfl; exact rfl) | (apply v_move; exact rfl; exact rfl) | (apply v_assign; exact rfl; exact rfl) | refine run_seq ?_ | refine run_region ?_ | refine runL_nil ?_ | refine run_skip ?_ | refine run_block ?_ | (apply v_extract; exact rfl; exact rfl; exact rfl) | (apply v_loadA; exact tyA rfl; exact rfl; exact rfl; exact rfl; exact rfl; exact rfl; exact rfl) | (apply run_cond; exact rfl; (focus (intro hb; cases hb; done)); intro hb; clear hb) | (apply v_allocD; exact tyA rfl; exact rfl; exact rfl; exact rfl; exact rfl) | (apply v_storeW; exact tyA rfl; exact rfl; exact rfl; exact rfl; exact rfl; exact rfl; exact rfl; exact rfl)))
            refine v_l intE [c] (slA rfl) (tyA rfl) rfl rfl rfl rfl rfl rfl rfl rfl rfl rfl ?_
            refine v_appendD (slA rfl) (tyA rfl) rfl rfl rfl rfl rfl rfl rfl (by simp only [List.length_singleton]; omega) rfl rfl rfl rfl ?_
            (repeat (first | (apply v_move; exact rfl; exact rfl) | (apply v_assign; exact rfl; exact rfl) | refine run_region ?_ | refine runL_nil ?_ | refine run_inBlock ?_ | (apply v_add; exact rfl; exact rfl; exact rfl; exact (by omega))))
            exact v_again ih (i + 1) (mp [(8, 52)]) trivial (by repeat (first | exact trivial | refine ⟨rfl, ?_⟩)) ⟨by rw [hst2]; rfl, trivial⟩ rfl (by omega) (by omega)
        · have hge : i = u.length := by have : ¬ i < u.length := (by simpa using hb); omega
          (repeat (first | (apply v_move; exact rfl; exact rfl) | (apply v_assign; exact rfl; exact rfl) | refine run_seq ?_ | refine run_region ?_ | refine runL_nil ?_ | (apply run_exit; exact rfl)))
          exact run_ret (mp [(0, 8)]) _ Try.func110 ⟨_, _, rfl, rfl, rfl⟩ rfl trivial ⟨by rw [hge, List.take_length]; rfl, trivial⟩ rfl
    · rw [if_neg hs]
      rw [Bool.eq_false_iff.2 hs] at hsh
      refine fun_intro 55 Try.func110 rfl rfl rfl (fun ι F S w => ?_)
      (repeat (first | (apply v_cx; exact rfl; exact cbA rfl; (first | exact hsh); exact rfl; exact rfl) | (apply v_move; exact rfl; exact rfl) | (apply v_assign; exact rfl; exact rfl) | refine run_seq ?_ | refine run_region ?_ | refine runL_nil ?_ | (apply v_extract; exact rfl; exact rfl; exact rfl) | (apply run_cond; exact rfl; rotate_left; (focus (intro hb; cases hb; done)); intro hb; clear hb) | (apply v_not; exact rfl; exact rfl) | (apply v_allocD; exact tyA rfl; exact rfl; exact rfl; exact rfl; exact rfl) | (apply v_storeW; exact tyA rfl; exact rfl; exact rfl; exact rfl; exact rfl; exact rfl; exact rfl; exact rfl)))
      refine run_own 4 4 3 intE rfl rfl rfl rfl ?_
      exact run_ret (mp [(0, 4)]) _ Try.func110 ⟨_, _, rfl, rfl, rfl⟩ rfl trivial ⟨rfl, trivial⟩ rfl
def flatM (l : List Nd) (s : Int) : List Int := if shownB l s = true then expN l 30000 s else []
theorem flat_p {l : List Nd} (h : WF l) (s : Int) : Fun Try.prog 110 [forA l, .v (.int .i64 s)] [] (.sem (listS intE (flatM l s))) [] := (flat_n h 30000 s (deep_max h s)).freeze
end Go.Proofs.Ytjkidecaciomgaa
