/- Law 14: PathTells. -/
import Derived.Test.YtjkidecaciomgaaLa14
import Derived.Test.YtjkidecaciomgaaStE
import Derived.Test.YtjkidecaciomgaaRf13
namespace Go.Proofs.Ytjkidecaciomgaa
set_option linter.unusedVariables false
set_option linter.unusedSimpArgs false
set_option maxRecDepth 100000
open Go.RowKit

theorem pathTells_f {xs : List Ac} (target related id : Int) (comp : Bool) (hm : xs.length ≤ 9223372036854775807) (hs : ∀ x ∈ xs, AcStr x) : Fun Try.prog 26 [.sem (listS acE xs), .v (.int .i64 target), .v (.int .i64 related), .v (.int .i64 id), .v (.bool comp)] [] (.v (.bool true)) [] := by
  have hgr := great14 hm
  cases hg : greatM xs with
  | true =>
    rw [hg] at hgr
    refine fun_intro 45 Try.func26 rfl rfl rfl (fun ι F S w => ?_)
    (repeat (first | (apply v_cx; exact rfl; exact cbA rfl; (first | exact awake14 | exact hgr); exact rfl; exact rfl) | (apply v_move; exact rfl; exact rfl) | (apply v_assign; exact rfl; exact rfl) | refine run_seq ?_ | refine run_region ?_ | refine runL_nil ?_ | refine run_skip ?_ | (apply run_cond; exact rfl; rotate_left; (focus (intro hb; cases hb; done)); intro hb; clear hb) | (apply run_cond; exact rfl; (focus (intro hb; cases hb; done)); intro hb; clear hb) | (apply v_not; exact rfl; exact rfl)))
    exact run_ret idN _ Try.func26 ⟨_, _, rfl, rfl, rfl⟩ rfl trivial trivial rfl
  | false =>
    rw [hg] at hgr
    obtain ⟨hl, hx⟩ := acts_ok hg fun x hx => ⟨(hs x hx).s, (hs x hx).name, (hs x hx).want⟩
    have hw := wf_nodes hx
    have hmade := made14 hl hx
    have hnodes := nodes_r hl hx
    generalize nodesM xs = l at hw hmade hnodes
    have h1 := evp_f hw id target comp
    have h2 := evp14 hw id target comp
    have h3 := path_p hw target related comp
    have h4 := make14 hw target related comp
    have hlen := pathM_len l target related comp
    have h5 := samePath_f (a := pathM l target related comp) (b := pathM l target related comp) (by omega) (by omega)
    rw [decide_eq_true rfl] at h5
    generalize pathM l target related comp = p at *
    generalize evP l target comp id = v at *
    refine fun_intro 45 Try.func26 rfl rfl rfl (fun ι F S w => ?_)
    (repeat (first | (apply v_cx; exact rfl; exact cbA rfl; (first | exact awake14 | exact hgr | exact hmade | exact hnodes | exact h1 | exact h2); exact rfl; exact rfl) | (apply v_move; exact rfl; exact rfl) | (apply v_assign; exact rfl; exact rfl) | refine run_seq ?_ | refine run_region ?_ | refine runL_nil ?_ | refine run_skip ?_ | (apply run_cond; exact rfl; (focus (intro hb; cases hb; done)); intro hb; clear hb) | (apply v_not; exact rfl; exact rfl) | (apply v_eql; exact rfl; exact rfl; exact rfl)))
    refine v_is 32 true rfl (by simp) ?_
    (repeat (first | (apply v_cx; exact rfl; exact cbA rfl; (first | exact h3 | exact h4 | exact h5); exact rfl; exact rfl) | (apply v_move; exact rfl; exact rfl) | (apply v_assign; exact rfl; exact rfl) | refine runL_nil ?_ | (apply v_on; exact rfl) | (apply v_pick_t; exact rfl; exact rfl; exact rfl)))
    exact run_ret idN _ Try.func26 ⟨_, _, rfl, rfl, rfl⟩ rfl trivial trivial rfl
theorem pathTells_walk (A : Option Addr) (c0 : Nat) (xs : List Ac) (target related id : Int) (comp : Bool) (W : World) (hv : AVRs ι0 (old W) W [.sem (listS acE xs)] [.slice A xs.length c0]) (hs : ∀ x ∈ xs, AcStr x) (hm : xs.length ≤ 9223372036854775807) (w1 : (Lit.int .i64 target).wf = true) (w2 : (Lit.int .i64 related).wf = true) (w3 : (Lit.int .i64 id).wf = true) : Calls Try.prog 26 #[.slice A xs.length c0, .int .i64 target, .int .i64 related, .int .i64 id, .bool comp] W fun e w' => e = .returned (.bool true) ∧ Below W.heap.size W w' :=
  acts_walk (vs := [.int .i64 target, .int .i64 related, .int .i64 id, .bool comp]) hv (pathTells_f target related id comp hm hs)
end Go.Proofs.Ytjkidecaciomgaa
