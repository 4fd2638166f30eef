/- Law 10: AimTells. -/
import Derived.Test.YtjkidecaciomgaaLa10
import Derived.Test.YtjkidecaciomgaaRf8
namespace Go.Proofs.Ytjkidecaciomgaa
set_option linter.unusedVariables false
set_option linter.unusedSimpArgs false
set_option maxRecDepth 100000
open Go.RowKit

theorem aimTells_f {xs : List Ac} (a : Int) (b : Int) (hm : xs.length ≤ 9223372036854775807) (hs : ∀ x ∈ xs, AcStr x) : Fun Try.prog 10 [.sem (listS acE xs), .v (.int .i64 a), .v (.int .i64 b)] [] (.v (.bool true)) [] := by
  have hgr := great10 hm
  cases hg : greatM xs with
  | true =>
    rw [hg] at hgr
    refine fun_intro 51 Try.func10 rfl rfl rfl (fun ι F S w => ?_)
    (repeat (first | (apply v_cx; exact rfl; exact cbA rfl; (first | exact awake10 | exact hgr); exact rfl; exact rfl) | (apply v_move; exact rfl; exact rfl) | (apply v_assign; exact rfl; exact rfl) | refine run_seq ?_ | refine run_region ?_ | refine runL_nil ?_ | refine run_skip ?_ | (apply run_cond; exact rfl; rotate_left; (focus (intro hb; cases hb; done)); intro hb; clear hb) | (apply run_cond; exact rfl; (focus (intro hb; cases hb; done)); intro hb; clear hb) | (apply v_not; exact rfl; exact rfl)))
    exact run_ret idN _ Try.func10 ⟨_, _, rfl, rfl, rfl⟩ rfl trivial trivial rfl
  | false =>
    rw [hg] at hgr
    obtain ⟨hl, hx⟩ := acts_ok hg fun x hx => ⟨(hs x hx).s, (hs x hx).name, (hs x hx).want⟩
    have hw := wf_nodes hx
    have hmade := made10 hl hx
    have hnr := nodes_r hl hx
    generalize nodesM xs = l at hw hmade hnr
    have h1 := both_f hw a b
    have h2 := aim_f hw a b
    have h3 := aim10 hw a b
    have h4 := aim10 hw b a
    generalize aimM l a b = u at *
    generalize aimM l b a = v at *
    refine fun_intro 51 Try.func10 rfl rfl rfl (fun ι F S w => ?_)
    (repeat (first | (apply v_cx; exact rfl; exact cbA rfl; (first | exact awake10 | exact hgr | exact hmade | exact hnr | exact h1 | exact h2 | exact h3 | exact h4); exact rfl; exact rfl) | (apply v_move; exact rfl; exact rfl) | (apply v_assign; exact rfl; exact rfl) | refine run_seq ?_ | refine run_region ?_ | refine runL_nil ?_ | refine run_skip ?_ | (apply v_extract; exact rfl; exact rfl; exact rfl) | (apply run_cond; exact rfl; (focus (intro hb; cases hb; done)); intro hb; clear hb) | (apply v_not; exact rfl; exact rfl) | (apply v_eql; exact rfl; exact rfl; exact rfl)))
    refine v_is 35 true rfl (by simp) ?_
    (repeat (first | (apply v_cx; exact rfl; exact cbA rfl; (first | exact h3); exact rfl; exact rfl) | (apply v_move; exact rfl; exact rfl) | (apply v_on; exact rfl) | (apply v_pick_t; exact rfl; exact rfl; exact rfl) | (apply v_eql; exact rfl; exact rfl; exact rfl)))
    refine v_is 43 true rfl (by simp) ?_
    (repeat (first | (apply v_cx; exact rfl; exact cbA rfl; (first | exact h4); exact rfl; exact rfl) | (apply v_move; exact rfl; exact rfl) | (apply v_assign; exact rfl; exact rfl) | refine runL_nil ?_ | (apply v_on; exact rfl) | (apply v_pick_t; exact rfl; exact rfl; exact rfl) | (apply v_eql; exact rfl; exact rfl; exact rfl)))
    exact run_ret idN _ Try.func10 ⟨_, _, rfl, rfl, rfl⟩ (by simp [AV.ren, oneA]) trivial trivial rfl
theorem aimTells_walk (A : Option Addr) (c0 : Nat) (xs : List Ac) (a b : Int) (W : World) (hv : AVRs ι0 (old W) W [.sem (listS acE xs)] [.slice A xs.length c0]) (hs : ∀ x ∈ xs, AcStr x) (hm : xs.length ≤ 9223372036854775807) (w1 : (Lit.int .i64 a).wf = true) (w2 : (Lit.int .i64 b).wf = true) : Calls Try.prog 10 #[.slice A xs.length c0, .int .i64 a, .int .i64 b] W fun e w' => e = .returned (.bool true) ∧ Below W.heap.size W w' :=
  acts_walk (vs := [.int .i64 a, .int .i64 b]) hv (aimTells_f a b hm hs)
end Go.Proofs.Ytjkidecaciomgaa
