/- Law 08: ShadeTells, ShadeAttaches. -/
import Derived.Test.YtjkidecaciomgaaLa08
import Derived.Test.YtjkidecaciomgaaRf9
import Derived.Test.YtjkidecaciomgaaVL16
namespace Go.Proofs.Ytjkidecaciomgaa
set_option linter.unusedVariables false
set_option linter.unusedSimpArgs false
set_option maxRecDepth 100000
open Go.RowKit

theorem shadeTells_f {xs : List Ac} (a : Int) (b : Int) (hm : xs.length ≤ 9223372036854775807) (hs : ∀ x ∈ xs, AcStr x) : Fun Try.prog 18 [.sem (listS acE xs), .v (.int .i64 a), .v (.int .i64 b)] [] (.v (.bool true)) [] := by
  have hgr := great08 hm
  cases hg : greatM xs with
  | true =>
    rw [hg] at hgr
    refine fun_intro 55 Try.func18 rfl rfl rfl (fun ι F S w => ?_)
    (repeat (first | (apply v_cx; exact rfl; exact cbA rfl; (first | exact awake08 | exact hgr); exact rfl; exact rfl) | (apply v_move; exact rfl; exact rfl) | (apply v_assign; exact rfl; exact rfl) | refine run_seq ?_ | refine run_region ?_ | refine runL_nil ?_ | refine run_skip ?_ | (apply run_cond; exact rfl; rotate_left; (focus (intro hb; cases hb; done)); intro hb; clear hb) | (apply run_cond; exact rfl; (focus (intro hb; cases hb; done)); intro hb; clear hb) | (apply v_not; exact rfl; exact rfl)))
    exact run_ret idN _ Try.func18 ⟨_, _, rfl, rfl, rfl⟩ rfl trivial trivial rfl
  | false =>
    rw [hg] at hgr
    obtain ⟨hl, hx⟩ := acts_ok hg fun x hx => ⟨(hs x hx).s, (hs x hx).name, (hs x hx).want⟩
    have hw := wf_nodes hx
    have hmade := made08 hl hx
    have hnr := nodes_r hl hx
    generalize nodesM xs = l at hw hmade hnr
    have h1 := whole_f hw a
    have h2 := whole8 hw a
    have h3 := holds_f hw a b
    have h4 := holds8 hw a b
    have h5 := hidden_f hw a b
    have h6 := hidden8 hw a b
    have h7 := closed_p hw a
    have h8 := closed8p hw a
    have hcn : (closedM l a).length ≤ 128 := Nat.le_trans (List.length_filter_le _ _) (roots_len hw a)
    have h9 := ints_f (xs := closedM l a) (ys := closedM l a) (by omega)
    rw [decide_eq_true rfl] at h9
    generalize wholeM l a = u at *
    generalize decide (a ∈ ch l upX b) = p1 at *
    generalize hiddenM l a b = p2 at *
    generalize closedM l a = cl at *
    refine fun_intro 55 Try.func18 rfl rfl rfl (fun ι F S w => ?_)
    (repeat (first | (apply v_cx; exact rfl; exact cbA rfl; (first | exact awake08 | exact hgr | exact hmade | exact hnr | exact h1 | exact h2); exact rfl; exact rfl) | (apply v_move; exact rfl; exact rfl) | (apply v_assign; exact rfl; exact rfl) | refine run_seq ?_ | refine run_region ?_ | refine runL_nil ?_ | refine run_skip ?_ | (apply run_cond; exact rfl; (focus (intro hb; cases hb; done)); intro hb; clear hb) | (apply v_not; exact rfl; exact rfl) | (apply v_eql; exact rfl; exact rfl; exact rfl)))
    refine v_is 24 true rfl (by simp) ?_
    (repeat (first | (apply v_cx; exact rfl; exact cbA rfl; (first | exact h3 | exact h4); exact rfl; exact rfl) | (apply v_move; exact rfl; exact rfl) | (apply v_on; exact rfl) | (apply v_pick_t; exact rfl; exact rfl; exact rfl) | (apply v_eqlB; exact boA rfl; exact rfl; exact rfl; exact rfl)))
    refine v_is 35 true rfl (by simp) ?_
    (repeat (first | (apply v_cx; exact rfl; exact cbA rfl; (first | exact h5 | exact h6); exact rfl; exact rfl) | (apply v_move; exact rfl; exact rfl) | (apply v_on; exact rfl) | (apply v_pick_t; exact rfl; exact rfl; exact rfl) | (apply v_eqlB; exact boA rfl; exact rfl; exact rfl; exact rfl)))
    refine v_is 46 true rfl (by simp) ?_
    (repeat (first | (apply v_cx; exact rfl; exact cbA rfl; (first | exact h7 | exact h8 | exact h9); exact rfl; exact rfl) | (apply v_move; exact rfl; exact rfl) | (apply v_assign; exact rfl; exact rfl) | refine runL_nil ?_ | (apply v_on; exact rfl) | (apply v_pick_t; exact rfl; exact rfl; exact rfl)))
    exact run_ret idN _ Try.func18 ⟨_, _, rfl, rfl, rfl⟩ rfl trivial trivial rfl
theorem shadeTells_walk (A : Option Addr) (c0 : Nat) (xs : List Ac) (a b : Int) (W : World) (hv : AVRs ι0 (old W) W [.sem (listS acE xs)] [.slice A xs.length c0]) (hs : ∀ x ∈ xs, AcStr x) (hm : xs.length ≤ 9223372036854775807) (w1 : (Lit.int .i64 a).wf = true) (w2 : (Lit.int .i64 b).wf = true) : Calls Try.prog 18 #[.slice A xs.length c0, .int .i64 a, .int .i64 b] W fun e w' => e = .returned (.bool true) ∧ Below W.heap.size W w' :=
  acts_walk (vs := [.int .i64 a, .int .i64 b]) hv (shadeTells_f a b hm hs)
theorem all_w {l : List Nd} (h : WF l) : Fun Try.prog 41 [forA l] [] (.sem (listS nodeE l)) [] := (all_f (by have := h.len; omega) (kids_all h)).freeze
theorem shadeAttaches_f {xs : List Ac} (a : Int) (b : Int) (hm : xs.length ≤ 9223372036854775807) (hs : ∀ x ∈ xs, AcStr x) : Fun Try.prog 15 [.sem (listS acE xs), .v (.int .i64 a), .v (.int .i64 b)] [] (.v (.bool true)) [] := by
  have hgr := great08 hm
  cases hg : greatM xs with
  | true =>
    rw [hg] at hgr
    refine fun_intro 49 Try.func15 rfl rfl rfl (fun ι F S w => ?_)
    (repeat (first | (apply v_cx; exact rfl; exact cbA rfl; (first | exact awake08 | exact hgr); exact rfl; exact rfl) | (apply v_move; exact rfl; exact rfl) | (apply v_assign; exact rfl; exact rfl) | refine run_seq ?_ | refine run_region ?_ | refine runL_nil ?_ | refine run_skip ?_ | (apply run_cond; exact rfl; rotate_left; (focus (intro hb; cases hb; done)); intro hb; clear hb) | (apply run_cond; exact rfl; (focus (intro hb; cases hb; done)); intro hb; clear hb) | (apply v_not; exact rfl; exact rfl)))
    exact run_ret idN _ Try.func15 ⟨_, _, rfl, rfl, rfl⟩ rfl trivial trivial rfl
  | false =>
    rw [hg] at hgr
    obtain ⟨hl, hx⟩ := acts_ok hg fun x hx => ⟨(hs x hx).s, (hs x hx).name, (hs x hx).want⟩
    have hw := wf_nodes hx
    have hmade := madeL08 hl hx
    have hnr := nodes_r hl hx
    generalize nodesM xs = l at hw hmade hnr
    have h1 := attach8 hw a b
    have h2 := attach_f hw a b
    have hw2 := wf_attach hw a b
    generalize attachM l a b = T at *
    have h3 := all_w hw2
    have hlen := hw2.len
    have h4 := same_r (l := T.1) (m := T.1) (by omega) (kids_all hw2)
    rw [decide_eq_true rfl] at h4
    refine fun_intro 49 Try.func15 rfl rfl rfl (fun ι F S w => ?_)
    (repeat (first | (apply v_cx; exact rfl; exact cbA rfl; (first | exact awake08 | exact hgr); exact rfl; exact rfl) | (apply v_move; exact rfl; exact rfl) | (apply v_assign; exact rfl; exact rfl) | refine run_seq ?_ | refine run_region ?_ | refine runL_nil ?_ | refine run_skip ?_ | (apply run_cond; exact rfl; (focus (intro hb; cases hb; done)); intro hb; clear hb) | (apply v_not; exact rfl; exact rfl)))
    refine v_cR (mp []) hmade rfl (cbA rfl) trivial (by kernel_rfl) (by kernel_rfl) (by kernel_rfl) (by kernel_rfl) (by kernel_rfl) (by kernel_rfl) (by kernel_rfl) (by kernel_rfl) rfl ?_
    (repeat (first | (apply v_cx; exact rfl; exact cbA rfl; (first | exact hnr | exact h1); exact rfl; exact rfl) | (apply v_move; exact rfl; exact rfl) | (apply v_assign; exact rfl; exact rfl) | refine run_seq ?_ | refine run_region ?_ | refine runL_nil ?_ | (apply v_extract; exact rfl; exact rfl; exact rfl)))
    refine v_cR (mp []) h2 rfl (cbA rfl) ⟨rfl, rfl, trivial⟩ (by kernel_rfl) (by kernel_rfl) (by kernel_rfl) (by kernel_rfl) (by kernel_rfl) (by kernel_rfl) (by kernel_rfl) (by kernel_rfl) rfl ?_
    (repeat (first | (apply v_move; exact rfl; exact rfl) | (apply v_assign; exact rfl; exact rfl) | refine run_seq ?_ | refine run_region ?_ | refine runL_nil ?_ | (apply v_extract; exact rfl; exact rfl; exact rfl) | (apply v_eql; exact rfl; exact rfl; exact rfl)))
    refine v_is 38 true rfl (by simp) ?_
    (repeat (first | (apply v_move; exact rfl; exact rfl) | (apply v_on; exact rfl) | (apply v_pick_t; exact rfl; exact rfl; exact rfl) | (apply v_eql; exact rfl; exact rfl; exact rfl)))
    refine v_is 43 true rfl (by simp) ?_
    refine runL_freezeIn 0 2 rfl rfl rfl ?_
    refine runL_pub 7 0 rfl rfl rfl ?_
    (repeat (first | (apply v_cx; exact rfl; exact cbA rfl; (first | exact h3 | exact h4); exact rfl; exact rfl) | (apply v_move; exact rfl; exact rfl) | (apply v_assign; exact rfl; exact rfl) | refine runL_nil ?_ | (apply v_on; exact rfl) | (apply v_pick_t; exact rfl; exact rfl; exact rfl)))
    exact run_ret idN _ Try.func15 ⟨_, _, rfl, rfl, rfl⟩ rfl trivial trivial rfl
theorem shadeAttaches_walk (A : Option Addr) (c0 : Nat) (xs : List Ac) (a b : Int) (W : World) (hv : AVRs ι0 (old W) W [.sem (listS acE xs)] [.slice A xs.length c0]) (hs : ∀ x ∈ xs, AcStr x) (hm : xs.length ≤ 9223372036854775807) (w1 : (Lit.int .i64 a).wf = true) (w2 : (Lit.int .i64 b).wf = true) : Calls Try.prog 15 #[.slice A xs.length c0, .int .i64 a, .int .i64 b] W fun e w' => e = .returned (.bool true) ∧ Below W.heap.size W w' :=
  acts_walk (vs := [.int .i64 a, .int .i64 b]) hv (shadeAttaches_f a b hm hs)
end Go.Proofs.Ytjkidecaciomgaa
