/- Law 14: PathUp. -/
import Derived.Test.YtjkidecaciomgaaLa14
import Derived.Test.YtjkidecaciomgaaFoP3
namespace Go.Proofs.Ytjkidecaciomgaa
set_option linter.unusedVariables false
set_option linter.unusedSimpArgs false
set_option maxRecDepth 100000
open Go.RowKit

theorem pathUp_f {xs : List Ac} (target related : Int) (comp : Bool) (hm : xs.length ≤ 9223372036854775807) (hs : ∀ x ∈ xs, AcStr x) : Fun Try.prog 27 [.sem (listS acE xs), .v (.int .i64 target), .v (.int .i64 related), .v (.bool comp)] [] (.v (.bool true)) [] := by
  have hgr := great14 hm
  cases hg : greatM xs with
  | true =>
    rw [hg] at hgr
    refine fun_intro 126 Try.func27 rfl rfl rfl (fun ι F S w => ?_)
    (repeat (first | (apply v_cx; exact rfl; exact cbA rfl; (first | exact awake14 | exact hgr); exact rfl; exact rfl) | (apply v_move; exact rfl; exact rfl) | (apply v_assign; exact rfl; exact rfl) | refine run_seq ?_ | refine run_region ?_ | refine runL_nil ?_ | refine run_skip ?_ | (apply run_cond; exact rfl; rotate_left; (focus (intro hb; cases hb; done)); intro hb; clear hb) | (apply run_cond; exact rfl; (focus (intro hb; cases hb; done)); intro hb; clear hb) | (apply v_not; exact rfl; exact rfl)))
    exact run_ret idN _ Try.func27 ⟨_, _, rfl, rfl, rfl⟩ rfl trivial trivial rfl
  | false =>
    rw [hg] at hgr
    obtain ⟨hl, hx⟩ := acts_ok hg fun x hx => ⟨(hs x hx).s, (hs x hx).name, (hs x hx).want⟩
    have hw := wf_nodes hx
    have hmade := made14 hl hx
    generalize nodesM xs = l at hw hmade
    have hpath := path_p hw target related comp
    have hlen := pathM_len l target related comp
    have hup := path_up hw target related comp
    have hrt := root_f hw target
    generalize pathM l target related comp = p at *
    obtain ⟨uhd, unx, und, urt, utg⟩ := hup
    generalize rootM l target = R at *
    refine fun_intro 126 Try.func27 rfl rfl rfl (fun ι F S w => ?_)
    (repeat (first | (apply v_cx; exact rfl; exact cbA rfl; (first | exact awake14 | exact hgr | exact hmade | exact hpath | exact hrt); exact rfl; exact rfl) | (apply v_move; exact rfl; exact rfl) | (apply v_assign; exact rfl; exact rfl) | refine run_seq ?_ | refine run_region ?_ | refine runL_nil ?_ | refine run_skip ?_ | refine run_block ?_ | (apply run_cond; exact rfl; (focus (intro hb; cases hb; done)); intro hb; clear hb) | (apply v_not; exact rfl; exact rfl)))
    refine v_loop (fun i : Nat => ⟨[(1, .v (.int .i64 target)), (3, .v (.bool comp)), (9, forA l), (10, .sem (listS stE p)), (11, .v (.int .i64 R)), (12, .v (.int .i64 i))], []⟩) (fun i => i ≤ p.length) (fun i => p.length - i) 0 idN trivial (by repeat (first | exact trivial | refine ⟨rfl, ?_⟩)) (by repeat (first | exact trivial | refine ⟨rfl, ?_⟩)) rfl (by omega) fun i hi ih => ?_
    (repeat (first | (apply v_move; exact rfl; exact rfl) | refine run_seq ?_ | refine run_region ?_ | refine runL_nil ?_ | (apply v_lss; exact rfl; exact rfl; exact rfl) | (apply v_lenL; exact slA rfl; exact rfl; exact rfl)))
    refine run_cond rfl (fun hb => ?_) (fun hb => ?_)
    · have hlt : i < p.length := by simpa using hb
      have hx2 : p[((i : Int)).toNat]? = some p[i] := by simp [hlt]
      have hmem : p[i] ∈ p := List.getElem_mem hlt
      have hprev : 0 < i → ∃ s, p[((i : Int) - 1).toNat]? = some s ∧ p[i].node = evP l target comp s.node := fun h0 => ⟨p[i - 1]'(by omega), by rw [show ((i : Int) - 1).toNat = i - 1 by omega, List.getElem?_eq_getElem], unx (i - 1) _ _ (List.getElem?_eq_getElem (by omega)) (by rw [show i - 1 + 1 = i by omega]; exact List.getElem?_eq_getElem hlt)⟩
      have hdif : ∀ k (hk : k < i), (p[k]'(by omega)).node ≠ p[i].node := fun k hk e => by
        have h1 := (List.getElem_inj (xs := p.map St.node) (i := k) (j := i) (h₀ := by simp; omega) (h₁ := by simpa using hlt) und).1 (by simpa using e)
        omega
      have hfst : i = 0 → p[0]? = some p[i] := fun e => by subst e; exact List.getElem?_eq_getElem hlt
      have htg := utg _ hmem
      have hrt2 := fun e => urt e _ hmem
      generalize p[i] = s at *
      -- the first one
      apply via3
      rotate_left
      · intro key
        by_cases h0 : i = 0
        · have h00 : p[(0 : Int).toNat]? = some s := hfst h0
          obtain ⟨e1, e2, e3⟩ := uhd s (hfst h0)
          (repeat (first | (apply v_move; exact rfl; exact rfl) | refine run_seq ?_ | refine run_region ?_ | refine run_skip ?_ | refine run_block ?_ | (apply v_eql; exact rfl; exact rfl; exact rfl)))
          refine v_is 36 true rfl (by simpa using h0) ?_
          (repeat (first | (apply v_idxL; exact slA rfl; exact tyA rfl; exact rfl; exact rfl; exact rfl; exact rfl; exact (by omega); (first | exact h00); exact rfl) | (apply v_move; exact rfl; exact rfl) | (apply v_fldA; exact flA rfl; exact rfl; exact rfl; exact rfl) | (apply v_loadA; exact tyA rfl; exact rfl; exact rfl; exact rfl; exact rfl; exact rfl; exact rfl) | (apply v_on; exact rfl) | (apply v_neq; exact rfl; exact rfl; exact rfl)))
          refine v_is 43 false rfl (by simpa using e1) ?_
          (repeat (first | (apply v_idxL; exact slA rfl; exact tyA rfl; exact rfl; exact rfl; exact rfl; exact rfl; exact (by omega); (first | exact h00); exact rfl) | (apply v_move; exact rfl; exact rfl) | (apply v_fldA; exact flA rfl; exact rfl; exact rfl; exact rfl) | (apply v_loadA; exact tyA rfl; exact rfl; exact rfl; exact rfl; exact rfl; exact rfl; exact rfl) | (apply v_on; exact rfl) | (apply v_pick_f; exact rfl; exact rfl; exact rfl) | (apply v_neq; exact rfl; exact rfl; exact rfl)))
          refine v_is 51 false rfl (by simpa using e2) ?_
          (repeat (first | (apply v_idxL; exact slA rfl; exact tyA rfl; exact rfl; exact rfl; exact rfl; exact rfl; exact (by omega); (first | exact h00); exact rfl) | (apply v_move; exact rfl; exact rfl) | refine runL_nil ?_ | (apply v_fldA; exact flA rfl; exact rfl; exact rfl; exact rfl) | (apply v_loadA; exact tyA rfl; exact rfl; exact rfl; exact rfl; exact rfl; exact rfl; exact rfl) | (apply v_on; exact rfl) | (apply v_pick_t; exact rfl; exact rfl; exact rfl) | (apply v_pick_f; exact rfl; exact rfl; exact rfl)))
          refine run_condN rfl (by simpa using e3) ?_
          (repeat (first | refine run_seq ?_ | refine run_skip ?_))
          refine run_draws (by kernel_rfl) (by kernel_rfl) ?_
          (repeat (first | (apply p_move; exact rfl; exact rfl; exact rfl) | (apply p_gtr; exact rfl; exact rfl; exact rfl; exact rfl)))
          refine p_is 60 false rfl (by simp; omega) ?_
          (repeat (first | (apply p_off; exact rfl; exact rfl) | (apply p_pick_f; exact rfl; exact rfl; exact rfl; exact rfl)))
          refine planL_nil (by kernel_rfl) ?_
          (repeat (first | (apply v_assign; exact rfl; exact rfl) | refine run_seq ?_ | refine run_region ?_ | refine runL_nil ?_ | refine run_skip ?_ | refine run_block ?_ | (apply run_cond; exact rfl; (focus (intro hb; cases hb; done)); intro hb; clear hb)))
          refine run_weak idN (σ2 := ⟨[(1, .v (.int .i64 target)), (3, .v (.bool comp)), (9, forA l), (10, .sem (listS stE p)), (11, .v (.int .i64 R)), (12, .v (.int .i64 i)), (13, .v (.int .i64 0))], []⟩) ?_ ?_ ?_ ?_ key.out <;> first | exact trivial | exact ⟨rfl, rfl, rfl, rfl, rfl, rfl, rfl, trivial⟩ | rfl
        · obtain ⟨s0, hs0, he⟩ := hprev (by omega)
          have hev := evp_f hw s0.node target comp
          (repeat (first | (apply v_move; exact rfl; exact rfl) | refine run_seq ?_ | refine run_region ?_ | refine run_skip ?_ | refine run_block ?_ | (apply v_eql; exact rfl; exact rfl; exact rfl)))
          refine v_is 36 false rfl (by simpa using h0) ?_
          (repeat (first | refine run_seq ?_ | refine runL_nil ?_ | refine run_skip ?_ | (apply v_off; exact rfl; exact rfl) | (apply v_pick_f; exact rfl; exact rfl; exact rfl) | (apply run_cond; exact rfl; (focus (intro hb; cases hb; done)); intro hb; clear hb)))
          refine run_draws (by kernel_rfl) (by kernel_rfl) ?_
          (repeat (first | (apply p_move; exact rfl; exact rfl; exact rfl) | (apply p_gtr; exact rfl; exact rfl; exact rfl; exact rfl)))
          refine p_is 60 true rfl (by simp; omega) ?_
          (repeat (first | (apply p_idxL; exact slA rfl; exact tyA rfl; exact rfl; exact rfl; exact rfl; exact rfl; exact (by omega); (first | exact hx2 | exact hs0); exact rfl; exact rfl) | (apply p_cx; exact rfl; exact cbA rfl; (first | exact hev); exact rfl; exact rfl; exact rfl) | (apply p_move; exact rfl; exact rfl; exact rfl) | (apply p_fldA; exact flA rfl; exact rfl; exact rfl; exact rfl; exact rfl) | (apply p_loadA; exact tyA rfl; exact rfl; exact rfl; exact rfl; exact rfl; exact rfl; exact rfl; exact rfl) | (apply p_pick_t; exact rfl; exact rfl; exact rfl; exact rfl) | (apply p_neq; exact rfl; exact rfl; exact rfl; exact rfl) | (apply p_sub; exact rfl; exact rfl; exact rfl; exact (by omega); exact rfl)))
          refine planL_nil (by kernel_rfl) ?_
          refine run_condN rfl (by simpa using he) ?_
          (repeat (first | (apply v_assign; exact rfl; exact rfl) | refine run_seq ?_ | refine run_region ?_ | refine runL_nil ?_ | refine run_skip ?_ | refine run_block ?_))
          refine run_weak idN (σ2 := ⟨[(1, .v (.int .i64 target)), (3, .v (.bool comp)), (9, forA l), (10, .sem (listS stE p)), (11, .v (.int .i64 R)), (12, .v (.int .i64 i)), (13, .v (.int .i64 0))], []⟩) ?_ ?_ ?_ ?_ key.out <;> first | exact trivial | exact ⟨rfl, rfl, rfl, rfl, rfl, rfl, rfl, trivial⟩ | rfl
      · clear hfst hprev uhd unx
        refine v_loop (fun k : Nat => ⟨[(1, .v (.int .i64 target)), (3, .v (.bool comp)), (9, forA l), (10, .sem (listS stE p)), (11, .v (.int .i64 R)), (12, .v (.int .i64 i)), (13, .v (.int .i64 k))], []⟩) (fun k => k ≤ i) (fun k => i - k) 0 idN trivial (by repeat (first | exact trivial | refine ⟨rfl, ?_⟩)) (by repeat (first | exact trivial | refine ⟨rfl, ?_⟩)) rfl (by omega) fun k hk ih2 => ?_
        (repeat (first | (apply v_move; exact rfl; exact rfl) | refine run_seq ?_ | refine run_region ?_ | refine runL_nil ?_ | (apply v_lss; exact rfl; exact rfl; exact rfl)))
        refine run_cond rfl (fun hb => ?_) (fun hb => ?_)
        · have hltk : k < i := by simpa using hb
          have hkx : p[((k : Int)).toNat]? = some (p[k]'(by omega)) := by simp [show k < p.length by omega]
          have hd := hdif k hltk
          generalize p[k]'(by omega) = s1 at *
          (repeat (first | refine run_seq ?_ | refine run_skip ?_ | refine run_block ?_))
          refine run_draws (by kernel_rfl) (by kernel_rfl) ?_
          (repeat (first | (apply p_idxL; exact slA rfl; exact tyA rfl; exact rfl; exact rfl; exact rfl; exact rfl; exact (by omega); (first | exact hkx | exact hx2); exact rfl; exact rfl) | (apply p_move; exact rfl; exact rfl; exact rfl) | (apply p_fldA; exact flA rfl; exact rfl; exact rfl; exact rfl; exact rfl) | (apply p_loadA; exact tyA rfl; exact rfl; exact rfl; exact rfl; exact rfl; exact rfl; exact rfl; exact rfl) | (apply p_eql; exact rfl; exact rfl; exact rfl; exact rfl)))
          refine planL_nil (by kernel_rfl) ?_
          refine run_condN rfl (by simpa using hd) ?_
          (repeat (first | (apply v_move; exact rfl; exact rfl) | (apply v_assign; exact rfl; exact rfl) | refine run_region ?_ | refine runL_nil ?_ | refine run_skip ?_ | refine run_inBlock ?_ | (apply v_add; exact rfl; exact rfl; exact rfl; exact (by omega))))
          exact v_again ih2 (k + 1) idN trivial (by repeat (first | exact trivial | refine ⟨rfl, ?_⟩)) (by repeat (first | exact trivial | refine ⟨rfl, ?_⟩)) rfl (by omega) (by omega)
        · clear ih2 hdif
          cases comp with
          | true =>
            (repeat (first | (apply v_move; exact rfl; exact rfl) | refine run_seq ?_ | refine run_region ?_ | refine runL_nil ?_ | refine run_skip ?_ | (apply run_exit; exact rfl) | (apply v_off; exact rfl; exact rfl) | (apply v_pick_f; exact rfl; exact rfl; exact rfl) | (apply run_cond; exact rfl; (focus (intro hb; cases hb; done)); intro hb; clear hb) | (apply v_not; exact rfl; exact rfl)))
            refine run_draws (by kernel_rfl) (by kernel_rfl) ?_
            (repeat (first | (apply p_idxL; exact slA rfl; exact tyA rfl; exact rfl; exact rfl; exact rfl; exact rfl; exact (by omega); (first | exact hx2); exact rfl; exact rfl) | (apply p_move; exact rfl; exact rfl; exact rfl) | (apply p_fldA; exact flA rfl; exact rfl; exact rfl; exact rfl; exact rfl) | (apply p_loadA; exact tyA rfl; exact rfl; exact rfl; exact rfl; exact rfl; exact rfl; exact rfl; exact rfl) | (apply p_neq; exact rfl; exact rfl; exact rfl; exact rfl)))
            by_cases h0 : s.target = 0
            · refine p_is 113 false rfl (by simpa using h0) ?_
              (repeat (first | (apply p_off; exact rfl; exact rfl) | (apply p_pick_f; exact rfl; exact rfl; exact rfl; exact rfl)))
              refine planL_nil (by kernel_rfl) ?_
              (repeat (first | (apply v_move; exact rfl; exact rfl) | (apply v_assign; exact rfl; exact rfl) | refine run_region ?_ | refine runL_nil ?_ | refine run_skip ?_ | refine run_inBlock ?_ | (apply run_cond; exact rfl; (focus (intro hb; cases hb; done)); intro hb; clear hb) | (apply v_add; exact rfl; exact rfl; exact rfl; exact (by omega))))
              exact v_again ih (i + 1) idN trivial (by repeat (first | exact trivial | refine ⟨rfl, ?_⟩)) (by repeat (first | exact trivial | refine ⟨rfl, ?_⟩)) rfl (by omega) (by omega)
            · refine p_is 113 true rfl (by simpa using h0) ?_
              (repeat (first | (apply p_idxL; exact slA rfl; exact tyA rfl; exact rfl; exact rfl; exact rfl; exact rfl; exact (by omega); (first | exact hx2); exact rfl; exact rfl) | (apply p_move; exact rfl; exact rfl; exact rfl) | (apply p_fldA; exact flA rfl; exact rfl; exact rfl; exact rfl; exact rfl) | (apply p_loadA; exact tyA rfl; exact rfl; exact rfl; exact rfl; exact rfl; exact rfl; exact rfl; exact rfl) | (apply p_pick_t; exact rfl; exact rfl; exact rfl; exact rfl) | (apply p_neq; exact rfl; exact rfl; exact rfl; exact rfl)))
              refine planL_nil (by kernel_rfl) ?_
              refine run_condN rfl (by simpa using htg.resolve_left h0) ?_
              (repeat (first | (apply v_move; exact rfl; exact rfl) | (apply v_assign; exact rfl; exact rfl) | refine run_region ?_ | refine runL_nil ?_ | refine run_skip ?_ | refine run_inBlock ?_ | (apply v_add; exact rfl; exact rfl; exact rfl; exact (by omega))))
              exact v_again ih (i + 1) idN trivial (by repeat (first | exact trivial | refine ⟨rfl, ?_⟩)) (by repeat (first | exact trivial | refine ⟨rfl, ?_⟩)) rfl (by omega) (by omega)
          | false =>
            have hh := holds_f hw R s.node
            rw [decide_eq_true (hrt2 rfl)] at hh
            (repeat (first | (apply v_idxL; exact slA rfl; exact tyA rfl; exact rfl; exact rfl; exact rfl; exact rfl; exact (by omega); (first | exact hx2); exact rfl) | (apply v_cx; exact rfl; exact cbA rfl; (first | exact hh); exact rfl; exact rfl) | (apply v_move; exact rfl; exact rfl) | refine run_seq ?_ | refine run_region ?_ | refine runL_nil ?_ | refine run_skip ?_ | (apply run_exit; exact rfl) | (apply v_fldA; exact flA rfl; exact rfl; exact rfl; exact rfl) | (apply v_loadA; exact tyA rfl; exact rfl; exact rfl; exact rfl; exact rfl; exact rfl; exact rfl) | (apply v_on; exact rfl) | (apply v_pick_t; exact rfl; exact rfl; exact rfl) | (apply run_cond; exact rfl; (focus (intro hb; cases hb; done)); intro hb; clear hb) | (apply v_not; exact rfl; exact rfl)))
            refine run_draws (by kernel_rfl) (by kernel_rfl) ?_
            (repeat (first | (apply p_idxL; exact slA rfl; exact tyA rfl; exact rfl; exact rfl; exact rfl; exact rfl; exact (by omega); (first | exact hx2); exact rfl; exact rfl) | (apply p_move; exact rfl; exact rfl; exact rfl) | (apply p_fldA; exact flA rfl; exact rfl; exact rfl; exact rfl; exact rfl) | (apply p_loadA; exact tyA rfl; exact rfl; exact rfl; exact rfl; exact rfl; exact rfl; exact rfl; exact rfl) | (apply p_neq; exact rfl; exact rfl; exact rfl; exact rfl)))
            by_cases h0 : s.target = 0
            · refine p_is 113 false rfl (by simpa using h0) ?_
              (repeat (first | (apply p_off; exact rfl; exact rfl) | (apply p_pick_f; exact rfl; exact rfl; exact rfl; exact rfl)))
              refine planL_nil (by kernel_rfl) ?_
              (repeat (first | (apply v_move; exact rfl; exact rfl) | (apply v_assign; exact rfl; exact rfl) | refine run_region ?_ | refine runL_nil ?_ | refine run_skip ?_ | refine run_inBlock ?_ | (apply run_cond; exact rfl; (focus (intro hb; cases hb; done)); intro hb; clear hb) | (apply v_add; exact rfl; exact rfl; exact rfl; exact (by omega))))
              exact v_again ih (i + 1) idN trivial (by repeat (first | exact trivial | refine ⟨rfl, ?_⟩)) (by repeat (first | exact trivial | refine ⟨rfl, ?_⟩)) rfl (by omega) (by omega)
            · refine p_is 113 true rfl (by simpa using h0) ?_
              (repeat (first | (apply p_idxL; exact slA rfl; exact tyA rfl; exact rfl; exact rfl; exact rfl; exact rfl; exact (by omega); (first | exact hx2); exact rfl; exact rfl) | (apply p_move; exact rfl; exact rfl; exact rfl) | (apply p_fldA; exact flA rfl; exact rfl; exact rfl; exact rfl; exact rfl) | (apply p_loadA; exact tyA rfl; exact rfl; exact rfl; exact rfl; exact rfl; exact rfl; exact rfl; exact rfl) | (apply p_pick_t; exact rfl; exact rfl; exact rfl; exact rfl) | (apply p_neq; exact rfl; exact rfl; exact rfl; exact rfl)))
              refine planL_nil (by kernel_rfl) ?_
              refine run_condN rfl (by simpa using htg.resolve_left h0) ?_
              (repeat (first | (apply v_move; exact rfl; exact rfl) | (apply v_assign; exact rfl; exact rfl) | refine run_region ?_ | refine runL_nil ?_ | refine run_skip ?_ | refine run_inBlock ?_ | (apply v_add; exact rfl; exact rfl; exact rfl; exact (by omega))))
              exact v_again ih (i + 1) idN trivial (by repeat (first | exact trivial | refine ⟨rfl, ?_⟩)) (by repeat (first | exact trivial | refine ⟨rfl, ?_⟩)) rfl (by omega) (by omega)
    · (repeat (first | (apply v_assign; exact rfl; exact rfl) | refine run_seq ?_ | refine run_region ?_ | refine runL_nil ?_ | (apply run_exit; exact rfl)))
      exact run_ret idN _ Try.func27 ⟨_, _, rfl, rfl, rfl⟩ rfl trivial trivial rfl
theorem pathUp_walk (A : Option Addr) (c0 : Nat) (xs : List Ac) (target related : Int) (comp : Bool) (W : World) (hv : AVRs ι0 (old W) W [.sem (listS acE xs)] [.slice A xs.length c0]) (hs : ∀ x ∈ xs, AcStr x) (hm : xs.length ≤ 9223372036854775807) (w1 : (Lit.int .i64 target).wf = true) (w2 : (Lit.int .i64 related).wf = true) : Calls Try.prog 27 #[.slice A xs.length c0, .int .i64 target, .int .i64 related, .bool comp] W fun e w' => e = .returned (.bool true) ∧ Below W.heap.size W w' :=
  acts_walk (vs := [.int .i64 target, .int .i64 related, .bool comp]) hv (pathUp_f target related comp hm hs)
end Go.Proofs.Ytjkidecaciomgaa
