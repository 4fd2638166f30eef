/- Law 14: PathHides, PathEnds. -/
import Derived.Test.YtjkidecaciomgaaLa14
import Derived.Test.YtjkidecaciomgaaStE
import Derived.Test.YtjkidecaciomgaaFoP3
namespace Go.Proofs.Ytjkidecaciomgaa
set_option linter.unusedVariables false
set_option linter.unusedSimpArgs false
set_option maxRecDepth 100000
open Go.RowKit

theorem pathHides_f {xs : List Ac} (target related : Int) (comp : Bool) (hm : xs.length ≤ 9223372036854775807) (hs : ∀ x ∈ xs, AcStr x) : Fun Try.prog 29 [.sem (listS acE xs), .v (.int .i64 target), .v (.int .i64 related), .v (.bool comp)] [] (.v (.bool true)) [] := by
  have hgr := great14 hm
  cases hg : greatM xs with
  | true =>
    rw [hg] at hgr
    refine fun_intro 71 Try.func29 rfl rfl rfl (fun ι F S w => ?_)
    (repeat (first | (apply v_cx; exact rfl; exact cbA rfl; (first | exact awake14 | exact hgr); exact rfl; exact rfl) | (apply v_move; exact rfl; exact rfl) | (apply v_assign; exact rfl; exact rfl) | refine run_seq ?_ | refine run_region ?_ | refine runL_nil ?_ | refine run_skip ?_ | (apply run_cond; exact rfl; rotate_left; (focus (intro hb; cases hb; done)); intro hb; clear hb) | (apply run_cond; exact rfl; (focus (intro hb; cases hb; done)); intro hb; clear hb) | (apply v_not; exact rfl; exact rfl)))
    exact run_ret idN _ Try.func29 ⟨_, _, rfl, rfl, rfl⟩ rfl trivial trivial rfl
  | false =>
    rw [hg] at hgr
    obtain ⟨hl, hx⟩ := acts_ok hg fun x hx => ⟨(hs x hx).s, (hs x hx).name, (hs x hx).want⟩
    have hw := wf_nodes hx
    have hmade := made14 hl hx
    generalize nodesM xs = l at hw hmade
    have hpath := path_p hw target related comp
    have hlen := pathM_len l target related comp
    have hhid := path_hid hw target related comp
    generalize pathM l target related comp = p at *
    refine fun_intro 71 Try.func29 rfl rfl rfl (fun ι F S w => ?_)
    (repeat (first | (apply v_cx; exact rfl; exact cbA rfl; (first | exact awake14 | exact hgr | exact hmade | exact hpath); exact rfl; exact rfl) | (apply v_move; exact rfl; exact rfl) | (apply v_assign; exact rfl; exact rfl) | refine run_seq ?_ | refine run_region ?_ | refine runL_nil ?_ | refine run_skip ?_ | refine run_block ?_ | (apply run_cond; exact rfl; (focus (intro hb; cases hb; done)); intro hb; clear hb) | (apply v_not; exact rfl; exact rfl)))
    refine v_loop (fun q : Nat × Int => ⟨[(9, forA l), (10, .sem (listS stE p)), (11, .v (.int .i64 q.2)), (12, .v (.int .i64 q.1))], []⟩) (fun q => q.1 ≤ p.length ∧ Hid l q.2 (p.drop q.1)) (fun q => p.length - q.1) (0, 0) idN trivial (by repeat (first | exact trivial | refine ⟨rfl, ?_⟩)) (by repeat (first | exact trivial | refine ⟨rfl, ?_⟩)) rfl ⟨by simp, hhid⟩ fun ⟨i, told⟩ ⟨hi, hh⟩ ih => ?_
    dsimp only at hi hh ⊢
    (repeat (first | (apply v_move; exact rfl; exact rfl) | refine run_seq ?_ | refine run_region ?_ | refine runL_nil ?_ | (apply v_lss; exact rfl; exact rfl; exact rfl) | (apply v_lenL; exact slA rfl; exact rfl; exact rfl)))
    refine run_cond rfl (fun hb => ?_) (fun hb => ?_)
    · have hlt : i < p.length := by simpa using hb
      have hx2 : p[((i : Int)).toNat]? = some p[i] := by simp [hlt]
      rw [List.drop_eq_getElem_cons hlt] at hh
      obtain ⟨h1, h2, h3⟩ := hh
      generalize p[i] = s at *
      have hrel := hidden_f hw s.related s.node
      apply via3 (p := ∀ t2, hiddenM l t2 s.node = false → Hid l t2 (p.drop (i + 1)) → Run _ _ ⟨[(9, forA l), (10, .sem (listS stE p)), (11, .v (.int .i64 t2)), (12, .v (.int .i64 i))], []⟩)
      rotate_left
      · intro key
        by_cases h0 : s.target = 0
        · rw [if_neg (by simpa using h0)] at h1 h3
          (repeat (first | (apply v_idxL; exact slA rfl; exact tyA rfl; exact rfl; exact rfl; exact rfl; exact rfl; exact (by omega); (first | exact hx2); exact rfl) | (apply v_move; exact rfl; exact rfl) | refine run_seq ?_ | refine run_region ?_ | refine runL_nil ?_ | refine run_skip ?_ | refine run_block ?_ | (apply v_fldA; exact flA rfl; exact rfl; exact rfl; exact rfl) | (apply v_loadA; exact tyA rfl; exact rfl; exact rfl; exact rfl; exact rfl; exact rfl; exact rfl) | (apply v_neq; exact rfl; exact rfl; exact rfl)))
          refine run_condN rfl (by simpa using h0) ?_
          (repeat (first | refine run_seq ?_ | refine run_skip ?_))
          refine run_weak idN (σ2 := ⟨[(9, forA l), (10, .sem (listS stE p)), (11, .v (.int .i64 told)), (12, .v (.int .i64 i))], []⟩) ?_ ?_ ?_ ?_ (key.out told h1 h3) <;> first | exact trivial | exact ⟨rfl, rfl, rfl, rfl, trivial⟩ | rfl
        · rw [if_pos (by simpa using h0)] at h1 h3
          (repeat (first | (apply v_idxL; exact slA rfl; exact tyA rfl; exact rfl; exact rfl; exact rfl; exact rfl; exact (by omega); (first | exact hx2); exact rfl) | (apply v_move; exact rfl; exact rfl) | refine run_seq ?_ | refine run_region ?_ | refine runL_nil ?_ | refine run_skip ?_ | refine run_block ?_ | (apply v_fldA; exact flA rfl; exact rfl; exact rfl; exact rfl) | (apply v_loadA; exact tyA rfl; exact rfl; exact rfl; exact rfl; exact rfl; exact rfl; exact rfl) | (apply v_neq; exact rfl; exact rfl; exact rfl)))
          refine run_condY rfl (by simpa using h0) ?_
          (repeat (first | (apply v_idxL; exact slA rfl; exact tyA rfl; exact rfl; exact rfl; exact rfl; exact rfl; exact (by omega); (first | exact hx2); exact rfl) | (apply v_move; exact rfl; exact rfl) | (apply v_assign; exact rfl; exact rfl) | refine run_seq ?_ | refine run_region ?_ | refine runL_nil ?_ | (apply v_fldA; exact flA rfl; exact rfl; exact rfl; exact rfl) | (apply v_loadA; exact tyA rfl; exact rfl; exact rfl; exact rfl; exact rfl; exact rfl; exact rfl)))
          refine run_weak idN (σ2 := ⟨[(9, forA l), (10, .sem (listS stE p)), (11, .v (.int .i64 s.target)), (12, .v (.int .i64 i))], []⟩) ?_ ?_ ?_ ?_ (key.out s.target h1 h3) <;> first | exact trivial | exact ⟨rfl, rfl, rfl, rfl, trivial⟩ | rfl
      · clear h1 h3
        intro t2 h1 h3
        have ht := hidden_f hw t2 s.node
        rw [h1] at ht
        skip
        refine run_draws (by kernel_rfl) (by kernel_rfl) ?_
        (repeat (first | (apply p_idxL; exact slA rfl; exact tyA rfl; exact rfl; exact rfl; exact rfl; exact rfl; exact (by omega); (first | exact hx2); exact rfl; exact rfl) | (apply p_cx; exact rfl; exact cbA rfl; (first | exact ht); exact rfl; exact rfl; exact rfl) | (apply p_move; exact rfl; exact rfl; exact rfl) | (apply p_fldA; exact flA rfl; exact rfl; exact rfl; exact rfl; exact rfl) | (apply p_loadA; exact tyA rfl; exact rfl; exact rfl; exact rfl; exact rfl; exact rfl; exact rfl; exact rfl) | (apply p_neq; exact rfl; exact rfl; exact rfl; exact rfl)))
        by_cases h0 : s.related = 0
        · refine p_is 56 false rfl (by simpa using h0) ?_
          (repeat (first | (apply p_off; exact rfl; exact rfl) | (apply p_pick_f; exact rfl; exact rfl; exact rfl; exact rfl)))
          refine planL_nil (by kernel_rfl) ?_
          (repeat (first | (apply v_move; exact rfl; exact rfl) | (apply v_assign; exact rfl; exact rfl) | refine run_region ?_ | refine runL_nil ?_ | refine run_skip ?_ | refine run_inBlock ?_ | (apply run_cond; exact rfl; (focus (intro hb; cases hb; done)); intro hb; clear hb) | (apply v_add; exact rfl; exact rfl; exact rfl; exact (by omega))))
          exact v_again ih (i + 1, t2) idN trivial (by repeat (first | exact trivial | refine ⟨rfl, ?_⟩)) (by repeat (first | exact trivial | refine ⟨rfl, ?_⟩)) rfl ⟨by omega, h3⟩ (by simp only; omega)
        · rw [h2 h0] at hrel
          refine p_is 56 true rfl (by simpa using h0) ?_
          (repeat (first | (apply p_idxL; exact slA rfl; exact tyA rfl; exact rfl; exact rfl; exact rfl; exact rfl; exact (by omega); (first | exact hx2); exact rfl; exact rfl) | (apply p_cx; exact rfl; exact cbA rfl; (first | exact hrel); exact rfl; exact rfl; exact rfl) | (apply p_move; exact rfl; exact rfl; exact rfl) | (apply p_fldA; exact flA rfl; exact rfl; exact rfl; exact rfl; exact rfl) | (apply p_loadA; exact tyA rfl; exact rfl; exact rfl; exact rfl; exact rfl; exact rfl; exact rfl; exact rfl) | (apply p_pick_t; exact rfl; exact rfl; exact rfl; exact rfl) | (apply p_pick_f; exact rfl; exact rfl; exact rfl; exact rfl)))
          refine planL_nil (by kernel_rfl) ?_
          (repeat (first | (apply v_move; exact rfl; exact rfl) | (apply v_assign; exact rfl; exact rfl) | refine run_region ?_ | refine runL_nil ?_ | refine run_skip ?_ | refine run_inBlock ?_ | (apply run_cond; exact rfl; (focus (intro hb; cases hb; done)); intro hb; clear hb) | (apply v_add; exact rfl; exact rfl; exact rfl; exact (by omega))))
          exact v_again ih (i + 1, t2) idN trivial (by repeat (first | exact trivial | refine ⟨rfl, ?_⟩)) (by repeat (first | exact trivial | refine ⟨rfl, ?_⟩)) rfl ⟨by omega, h3⟩ (by simp only; omega)
    · (repeat (first | (apply v_assign; exact rfl; exact rfl) | refine run_seq ?_ | refine run_region ?_ | refine runL_nil ?_ | (apply run_exit; exact rfl)))
      exact run_ret idN _ Try.func29 ⟨_, _, rfl, rfl, rfl⟩ rfl trivial trivial rfl
theorem pathHides_walk (A : Option Addr) (c0 : Nat) (xs : List Ac) (target related : Int) (comp : Bool) (W : World) (hv : AVRs ι0 (old W) W [.sem (listS acE xs)] [.slice A xs.length c0]) (hs : ∀ x ∈ xs, AcStr x) (hm : xs.length ≤ 9223372036854775807) (w1 : (Lit.int .i64 target).wf = true) (w2 : (Lit.int .i64 related).wf = true) : Calls Try.prog 29 #[.slice A xs.length c0, .int .i64 target, .int .i64 related, .bool comp] W fun e w' => e = .returned (.bool true) ∧ Below W.heap.size W w' :=
  acts_walk (vs := [.int .i64 target, .int .i64 related, .bool comp]) hv (pathHides_f target related comp hm hs)
theorem pathEnds_f {xs : List Ac} (target related : Int) (comp : Bool) (hm : xs.length ≤ 9223372036854775807) (hs : ∀ x ∈ xs, AcStr x) : Fun Try.prog 28 [.sem (listS acE xs), .v (.int .i64 target), .v (.int .i64 related), .v (.bool comp)] [] (.v (.bool true)) [] := by
  have hgr := great14 hm
  cases hg : greatM xs with
  | true =>
    rw [hg] at hgr
    refine fun_intro 101 Try.func28 rfl rfl rfl (fun ι F S w => ?_)
    (repeat (first | (apply v_cx; exact rfl; exact cbA rfl; (first | exact awake14 | exact hgr); exact rfl; exact rfl) | (apply v_move; exact rfl; exact rfl) | (apply v_assign; exact rfl; exact rfl) | refine run_seq ?_ | refine run_region ?_ | refine runL_nil ?_ | refine run_skip ?_ | (apply run_cond; exact rfl; rotate_left; (focus (intro hb; cases hb; done)); intro hb; clear hb) | (apply run_cond; exact rfl; (focus (intro hb; cases hb; done)); intro hb; clear hb) | (apply v_not; exact rfl; exact rfl)))
    exact run_ret idN _ Try.func28 ⟨_, _, rfl, rfl, rfl⟩ rfl trivial trivial rfl
  | false =>
    rw [hg] at hgr
    obtain ⟨hl, hx⟩ := acts_ok hg fun x hx => ⟨(hs x hx).s, (hs x hx).name, (hs x hx).want⟩
    have hw := wf_nodes hx
    have hmade := made14 hl hx
    generalize nodesM xs = l at hw hmade
    have hpath := path_p hw target 0 comp
    have hpath2 := path_p hw target related comp
    have hlen := pathM_len l target 0 comp
    have hlen2 := pathM_len l target related comp
    cases ht : nodeAt l target with
    | none =>
      have e1 : pathM l target 0 comp = [] := by rw [pathM, if_pos ht]
      have e2 : pathM l target related comp = [] := by rw [pathM, if_pos ht]
      rw [e1] at hpath
      rw [e2] at hpath2
      refine fun_intro 101 Try.func28 rfl rfl rfl (fun ι F S w => ?_)
      (repeat (first | (apply v_cx; exact rfl; exact cbA rfl; (first | exact awake14 | exact hgr | exact hmade | exact hpath | exact hpath2 | exact node_n hw ht); exact rfl; exact rfl) | (apply v_move; exact rfl; exact rfl) | (apply v_assign; exact rfl; exact rfl) | refine run_seq ?_ | refine run_region ?_ | refine runL_nil ?_ | refine run_skip ?_ | (apply v_extract; exact rfl; exact rfl; exact rfl) | (apply v_on; exact rfl) | (apply v_pick_t; exact rfl; exact rfl; exact rfl) | (apply run_cond; exact rfl; rotate_left; (focus (intro hb; cases hb; done)); intro hb; clear hb) | (apply run_cond; exact rfl; (focus (intro hb; cases hb; done)); intro hb; clear hb) | (apply v_not; exact rfl; exact rfl) | (apply v_eql; exact rfl; exact rfl; exact rfl) | (apply v_lenL; exact slA rfl; exact rfl; exact rfl) | (apply v_allocD; exact tyA rfl; exact rfl; exact rfl; exact rfl; exact rfl) | (apply v_storeW; exact tyA rfl; exact rfl; exact rfl; exact rfl; exact rfl; exact rfl; exact rfl; exact rfl)))
      exact run_ret idN _ Try.func28 ⟨_, _, rfl, rfl, rfl⟩ rfl trivial trivial rfl
    | some n0 =>
      obtain ⟨⟨s0, xs0, e0⟩, hrel, hend, zs, hpre⟩ := path_ends hw ht related comp
      generalize pathM l target 0 comp = p at *
      generalize pathM l target related comp = q at *
      have hpl : 0 < p.length := by rw [e0]; simp
      have hql : q.length ≤ p.length := by rw [hpre]; simp
      obtain ⟨sl, hsl⟩ : ∃ s, p[((p.length : Int) - 1).toNat]? = some s := ⟨p[p.length - 1], by rw [show ((p.length : Int) - 1).toNat = p.length - 1 by omega, List.getElem?_eq_getElem]⟩
      have hevl := evp_f hw sl.node target comp
      rw [hend sl (by rw [List.getLast?_eq_getElem?, ← hsl, show ((p.length : Int) - 1).toNat = p.length - 1 by omega])] at hevl
      refine fun_intro 101 Try.func28 rfl rfl rfl (fun ι F S w => ?_)
      (repeat (first | (apply v_cx; exact rfl; exact cbA rfl; (first | exact awake14 | exact hgr | exact hmade | exact hpath | exact hpath2 | exact node_s hw ht); exact rfl; exact rfl) | (apply v_move; exact rfl; exact rfl) | (apply v_assign; exact rfl; exact rfl) | refine run_seq ?_ | refine run_region ?_ | refine runL_nil ?_ | refine run_skip ?_ | (apply v_extract; exact rfl; exact rfl; exact rfl) | (apply run_cond; exact rfl; (focus (intro hb; cases hb; done)); intro hb; clear hb) | (apply v_not; exact rfl; exact rfl) | (apply v_eql; exact rfl; exact rfl; exact rfl) | (apply v_lenL; exact slA rfl; exact rfl; exact rfl) | (apply v_allocD; exact tyA rfl; exact rfl; exact rfl; exact rfl; exact rfl) | (apply v_storeW; exact tyA rfl; exact rfl; exact rfl; exact rfl; exact rfl; exact rfl; exact rfl; exact rfl)))
      refine v_is 51 false rfl (by rw [beq_eq_false_iff_ne]; omega) ?_
      (repeat (first | (apply v_move; exact rfl; exact rfl) | (apply v_on; exact rfl) | (apply v_pick_f; exact rfl; exact rfl; exact rfl) | (apply v_gtr; exact rfl; exact rfl; exact rfl) | (apply v_lenL; exact slA rfl; exact rfl; exact rfl)))
      refine v_is 58 false rfl (decide_eq_false (Int.not_lt.2 (Int.ofNat_le.2 hql))) ?_
      (repeat (first | (apply v_idxL; exact slA rfl; exact tyA rfl; exact rfl; exact rfl; exact rfl; exact rfl; exact (by omega); (first | exact hsl); exact rfl) | (apply v_cx; exact rfl; exact cbA rfl; (first | exact hevl); exact rfl; exact rfl) | (apply v_move; exact rfl; exact rfl) | (apply v_assign; exact rfl; exact rfl) | refine run_seq ?_ | refine run_region ?_ | refine runL_nil ?_ | refine run_skip ?_ | refine run_block ?_ | (apply v_fldA; exact flA rfl; exact rfl; exact rfl; exact rfl) | (apply v_loadA; exact tyA rfl; exact rfl; exact rfl; exact rfl; exact rfl; exact rfl; exact rfl) | (apply v_on; exact rfl) | (apply v_pick_f; exact rfl; exact rfl; exact rfl) | (apply run_cond; exact rfl; (focus (intro hb; cases hb; done)); intro hb; clear hb) | (apply v_neq; exact rfl; exact rfl; exact rfl) | (apply v_lenL; exact slA rfl; exact rfl; exact rfl) | (apply v_sub; exact rfl; exact rfl; exact rfl; exact (by omega))))
      refine v_loop (fun i : Nat => ⟨[(10, .sem (listS stE p)), (11, .sem (listS stE q)), (14, .v (.int .i64 i))], []⟩) (fun i => i ≤ p.length) (fun i => p.length - i) 0 idN trivial (by repeat (first | exact trivial | refine ⟨rfl, ?_⟩)) (by repeat (first | exact trivial | refine ⟨rfl, ?_⟩)) rfl (by omega) fun i hi ih => ?_
      (repeat (first | (apply v_move; exact rfl; exact rfl) | refine run_seq ?_ | refine run_region ?_ | refine runL_nil ?_ | (apply v_lss; exact rfl; exact rfl; exact rfl) | (apply v_lenL; exact slA rfl; exact rfl; exact rfl)))
      refine run_cond rfl (fun hb => ?_) (fun hb => ?_)
      · have hlt : i < p.length := by simpa using hb
        have hx2 : p[((i : Int)).toNat]? = some p[i] := by simp [hlt]
        have hr := hrel _ (List.getElem_mem hlt)
        generalize p[i] = s at *
        (repeat (first | (apply v_idxL; exact slA rfl; exact tyA rfl; exact rfl; exact rfl; exact rfl; exact rfl; exact (by omega); (first | exact hx2); exact rfl) | (apply v_move; exact rfl; exact rfl) | refine run_seq ?_ | refine run_region ?_ | refine runL_nil ?_ | refine run_skip ?_ | refine run_block ?_ | (apply v_fldA; exact flA rfl; exact rfl; exact rfl; exact rfl) | (apply v_loadA; exact tyA rfl; exact rfl; exact rfl; exact rfl; exact rfl; exact rfl; exact rfl) | (apply v_neq; exact rfl; exact rfl; exact rfl)))
        refine run_condN rfl (by simpa using hr) ?_
        (repeat (first | (apply v_move; exact rfl; exact rfl) | (apply v_assign; exact rfl; exact rfl) | refine run_region ?_ | refine runL_nil ?_ | refine run_skip ?_ | refine run_inBlock ?_ | (apply v_add; exact rfl; exact rfl; exact rfl; exact (by omega))))
        exact v_again ih (i + 1) idN trivial (by repeat (first | exact trivial | refine ⟨rfl, ?_⟩)) (by repeat (first | exact trivial | refine ⟨rfl, ?_⟩)) rfl (by omega) (by omega)
      · (repeat (first | (apply v_assign; exact rfl; exact rfl) | refine run_seq ?_ | refine run_region ?_ | refine runL_nil ?_ | refine run_block ?_ | (apply run_exit; exact rfl)))
        refine v_loop (fun i : Nat => ⟨[(10, .sem (listS stE p)), (11, .sem (listS stE q)), (15, .v (.int .i64 i))], []⟩) (fun i => i ≤ q.length) (fun i => q.length - i) 0 idN trivial (by repeat (first | exact trivial | refine ⟨rfl, ?_⟩)) (by repeat (first | exact trivial | refine ⟨rfl, ?_⟩)) rfl (by omega) fun i hi ih2 => ?_
        (repeat (first | (apply v_move; exact rfl; exact rfl) | refine run_seq ?_ | refine run_region ?_ | refine runL_nil ?_ | (apply v_lss; exact rfl; exact rfl; exact rfl) | (apply v_lenL; exact slA rfl; exact rfl; exact rfl)))
        refine run_cond rfl (fun hb => ?_) (fun hb => ?_)
        · have hlt : i < q.length := by simpa using hb
          have hx2 : q[((i : Int)).toNat]? = some q[i] := by simp [hlt]
          have hx3 : p[((i : Int)).toNat]? = some (noRel q[i]) := by
            rw [hpre, show ((i : Int)).toNat = i by omega, List.getElem?_append_left (by simpa using hlt), List.getElem?_map, List.getElem?_eq_getElem hlt]
            rfl
          generalize q[i] = s at *
          (repeat (first | (apply v_idxL; exact slA rfl; exact tyA rfl; exact rfl; exact rfl; exact rfl; exact rfl; exact (by omega); (first | exact hx2); exact rfl) | (apply v_move; exact rfl; exact rfl) | refine run_seq ?_ | refine run_region ?_ | refine runL_nil ?_ | refine run_skip ?_ | refine run_block ?_ | (apply v_fldP; exact flA rfl; exact rfl; exact rfl; exact rfl) | (apply v_loadA; exact tyA rfl; exact rfl; exact rfl; exact rfl; exact rfl; exact rfl; exact rfl) | (apply v_allocD; exact tyA rfl; exact rfl; exact rfl; exact rfl; exact rfl) | (apply v_storeW; exact tyA rfl; exact rfl; exact rfl; exact rfl; exact rfl; exact rfl; exact rfl; exact rfl) | (apply v_storeB; exact tyA rfl; exact rfl; exact rfl; exact rfl; exact rfl; exact rfl; exact rfl; exact rfl)))
          refine run_draws (by kernel_rfl) (by kernel_rfl) ?_
          (repeat (first | (apply p_idxL; exact slA rfl; exact tyA rfl; exact rfl; exact rfl; exact rfl; exact rfl; exact (by omega); (first | exact hx3); exact rfl; exact rfl) | (apply p_move; exact rfl; exact rfl; exact rfl) | (apply p_loadB; exact tyA rfl; exact rfl; exact rfl; exact rfl; exact rfl; exact rfl; exact rfl; exact rfl) | (apply p_loadA; exact tyA rfl; exact rfl; exact rfl; exact rfl; exact rfl; exact rfl; exact rfl; exact rfl)))
          refine p_neqSt (a := noRel s) (b := noRel s) rfl rfl rfl rfl rfl ?_
          skip
          refine planL_nil (by kernel_rfl) ?_
          refine run_condN rfl (by simp) ?_
          (repeat (first | (apply v_move; exact rfl; exact rfl) | (apply v_assign; exact rfl; exact rfl) | refine run_region ?_ | refine runL_nil ?_ | refine run_skip ?_ | refine run_inBlock ?_ | (apply v_add; exact rfl; exact rfl; exact rfl; exact (by omega))))
          exact v_again ih2 (i + 1) idN trivial (by repeat (first | exact trivial | refine ⟨rfl, ?_⟩)) (by repeat (first | exact trivial | refine ⟨rfl, ?_⟩)) rfl (by omega) (by omega)
        · (repeat (first | (apply v_assign; exact rfl; exact rfl) | refine run_seq ?_ | refine run_region ?_ | refine runL_nil ?_ | (apply run_exit; exact rfl)))
          exact run_ret idN _ Try.func28 ⟨_, _, rfl, rfl, rfl⟩ rfl trivial trivial rfl
theorem pathEnds_walk (A : Option Addr) (c0 : Nat) (xs : List Ac) (target related : Int) (comp : Bool) (W : World) (hv : AVRs ι0 (old W) W [.sem (listS acE xs)] [.slice A xs.length c0]) (hs : ∀ x ∈ xs, AcStr x) (hm : xs.length ≤ 9223372036854775807) (w1 : (Lit.int .i64 target).wf = true) (w2 : (Lit.int .i64 related).wf = true) : Calls Try.prog 28 #[.slice A xs.length c0, .int .i64 target, .int .i64 related, .bool comp] W fun e w' => e = .returned (.bool true) ∧ Below W.heap.size W w' :=
  acts_walk (vs := [.int .i64 target, .int .i64 related, .bool comp]) hv (pathEnds_f target related comp hm hs)
end Go.Proofs.Ytjkidecaciomgaa
