/- Law 10: awake, AimHolds, AimHides. -/
import Derived.Test.YtjkidecaciomgaaLaC10
import Derived.Test.YtjkidecaciomgaaSh1
import Derived.Test.YtjkidecaciomgaaFoE
import Derived.Test.YtjkidecaciomgaaKinPlW
namespace Go.Proofs.Ytjkidecaciomgaa
set_option linter.unusedVariables false
set_option linter.unusedSimpArgs false
set_option maxRecDepth 100000
open Go.RowKit

def ex10 : List Ac := [acN ndE, acN ndE, acN (ndS 1), acN ndE, acP 1 [2], acT 2 3, acP 3 [4]]
def fo10 : List Nd := [{ ndE with kids := [2] }, { ndE with parent := 1, shadow := 3 }, { ndS 1 with host := 2, kids := [4] }, { ndE with parent := 3 }]
theorem ok10 : (∀ x ∈ ex10, AcOk x) ∧ nodesM ex10 = fo10 ∧ WF fo10 := nodes_ex (by decide) (by kernel_rfl)
theorem awake10 : Fun Try.prog 69 [] [] (.v (.bool true)) [] := by
  have hm := made10 (xs := ex10) (by decide) ok10.1
  rw [ok10.2.1] at hm
  have hw := ok10.2.2
  have h1 := aim_f hw 4 1
  rw [show aimM fo10 4 1 = 2 by kernel_rfl] at h1
  have h2 := aim_f hw 1 4
  rw [show aimM fo10 1 4 = 1 by kernel_rfl] at h2
  refine fun_intro 27 Try.func69 rfl rfl rfl (fun ι F S w => ?_)
  (repeat (first | (apply v_assign; exact rfl; exact rfl) | refine run_seq ?_ | refine run_region ?_ | refine runL_nil ?_ | (apply v_loadB; exact tyA rfl; exact rfl; exact rfl; exact rfl; exact rfl; exact rfl; exact rfl) | (apply v_allocD; exact tyA rfl; exact rfl; exact rfl; exact rfl; exact rfl) | (apply v_storeW; exact tyA rfl; exact rfl; exact rfl; exact rfl; exact rfl; exact rfl; exact rfl; exact rfl) | (apply v_b; exact plA rfl; exact tyA rfl; exact rfl; exact rfl; exact rfl)))
  refine v_l intE [2] (slA rfl) (tyA rfl) rfl rfl rfl rfl rfl rfl rfl rfl rfl rfl ?_
  (repeat (first | (apply v_b; exact plA rfl; exact tyA rfl; exact rfl; exact rfl; exact rfl)))
  refine v_l intE [4] (slA rfl) (tyA rfl) rfl rfl rfl rfl rfl rfl rfl rfl rfl rfl ?_
  (repeat (first | (apply v_b; exact plA rfl; exact tyA rfl; exact rfl; exact rfl; exact rfl)))
  refine runL_le 5 rfl (y := .agg (acE.f (acN ndE))) (Le.agg (by repeat (first | exact trivial | refine ⟨Le.refl, ?_⟩ | refine ⟨Le.nil, ?_⟩))) ?_
  refine runL_le 7 rfl (y := .agg (acE.f (acN ndE))) (Le.agg (by repeat (first | exact trivial | refine ⟨Le.refl, ?_⟩ | refine ⟨Le.nil, ?_⟩))) ?_
  refine runL_le 9 rfl (y := .agg (acE.f (acN (ndS 1)))) (Le.agg (by repeat (first | exact trivial | refine ⟨Le.refl, ?_⟩ | refine ⟨Le.nil, ?_⟩))) ?_
  refine runL_le 11 rfl (y := .agg (acE.f (acN ndE))) (Le.agg (by repeat (first | exact trivial | refine ⟨Le.refl, ?_⟩ | refine ⟨Le.nil, ?_⟩))) ?_
  refine runL_le 13 rfl (y := .agg (acE.f (acP 1 [2]))) (Le.agg (by repeat (first | exact trivial | refine ⟨Le.refl, ?_⟩ | refine ⟨Le.nil, ?_⟩))) ?_
  refine runL_le 14 rfl (y := .agg (acE.f (acT 2 3))) (Le.agg (by repeat (first | exact trivial | refine ⟨Le.refl, ?_⟩ | refine ⟨Le.nil, ?_⟩))) ?_
  refine runL_le 16 rfl (y := .agg (acE.f (acP 3 [4]))) (Le.agg (by repeat (first | exact trivial | refine ⟨Le.refl, ?_⟩ | refine ⟨Le.nil, ?_⟩))) ?_
  refine v_l acE ex10 (slA rfl) (tyA rfl) rfl rfl rfl rfl rfl rfl rfl rfl rfl rfl ?_
  (repeat (first | (apply v_cx; exact rfl; exact cbA rfl; (first | exact hm | exact h1 | exact h2); exact rfl; exact rfl) | (apply v_move; exact rfl; exact rfl) | (apply v_assign; exact rfl; exact rfl) | refine run_seq ?_ | refine run_region ?_ | refine runL_nil ?_ | (apply v_on; exact rfl) | (apply v_pick_t; exact rfl; exact rfl; exact rfl) | (apply v_eql; exact rfl; exact rfl; exact rfl)))
  exact run_ret idN _ Try.func69 ⟨_, _, rfl, rfl, rfl⟩ rfl trivial trivial rfl
theorem aimHolds_f {xs : List Ac} (a b : Int) (hm : xs.length ≤ 9223372036854775807) (hs : ∀ x ∈ xs, AcStr x) : Fun Try.prog 9 [.sem (listS acE xs), .v (.int .i64 a), .v (.int .i64 b)] [] (.v (.bool true)) [] := by
  have hgr := great10 hm
  cases hg : greatM xs with
  | true =>
    rw [hg] at hgr
    refine fun_intro 64 Try.func9 rfl rfl rfl (fun ι F S w => ?_)
    (repeat (first | (apply v_cx; exact rfl; exact cbA rfl; (first | exact awake10 | exact hgr); exact rfl; exact rfl) | (apply v_move; exact rfl; exact rfl) | (apply v_assign; exact rfl; exact rfl) | refine run_seq ?_ | refine run_region ?_ | refine runL_nil ?_ | refine run_skip ?_ | (apply run_cond; exact rfl; rotate_left; (focus (intro hb; cases hb; done)); intro hb; clear hb) | (apply run_cond; exact rfl; (focus (intro hb; cases hb; done)); intro hb; clear hb) | (apply v_not; exact rfl; exact rfl)))
    exact run_ret idN _ Try.func9 ⟨_, _, rfl, rfl, rfl⟩ rfl trivial trivial rfl
  | false =>
    rw [hg] at hgr
    obtain ⟨hl, hx⟩ := acts_ok hg fun x hx => ⟨(hs x hx).s, (hs x hx).name, (hs x hx).want⟩
    have hw := wf_nodes hx
    have hmade := made10 hl hx
    generalize nodesM xs = l at hw hmade
    have hai := aim_f hw a b
    rcases aim_ok hw a b with ⟨hn, h0⟩ | ⟨⟨y, hy, hys⟩, hc, hup⟩
    · rw [h0] at hai
      refine fun_intro 64 Try.func9 rfl rfl rfl (fun ι F S w => ?_)
      (repeat (first | (apply v_cx; exact rfl; exact cbA rfl; (first | exact awake10 | exact hgr | exact hmade | exact hai | exact node_n hw hn); exact rfl; exact rfl) | (apply v_move; exact rfl; exact rfl) | (apply v_assign; exact rfl; exact rfl) | refine run_seq ?_ | refine run_region ?_ | refine runL_nil ?_ | refine run_skip ?_ | (apply v_extract; exact rfl; exact rfl; exact rfl) | (apply run_cond; exact rfl; rotate_left; (focus (intro hb; cases hb; done)); intro hb; clear hb) | (apply run_cond; exact rfl; (focus (intro hb; cases hb; done)); intro hb; clear hb) | (apply v_not; exact rfl; exact rfl) | (apply v_eql; exact rfl; exact rfl; exact rfl) | (apply v_allocD; exact tyA rfl; exact rfl; exact rfl; exact rfl; exact rfl) | (apply v_storeW; exact tyA rfl; exact rfl; exact rfl; exact rfl; exact rfl; exact rfl; exact rfl; exact rfl)))
      exact run_ret idN _ Try.func9 ⟨_, _, rfl, rfl, rfl⟩ rfl trivial trivial rfl
    · have hne : aimM l a b ≠ 0 := fun e => by rw [e, nodeAt_zero] at hy; cases hy
      have hho := holds_f hw (aimM l a b) a
      rw [decide_eq_true hup] at hho
      have hai2 := aim_f hw (aimM l a b) (aimM l a b)
      rw [aim_self hw hy] at hai2
      have hnd := node_s hw hy
      generalize aimM l a b = u at *
      refine fun_intro 64 Try.func9 rfl rfl rfl (fun ι F S w => ?_)
      (repeat (first | (apply v_cx; exact rfl; exact cbA rfl; (first | exact awake10 | exact hgr | exact hmade | exact hai); exact rfl; exact rfl) | (apply v_move; exact rfl; exact rfl) | (apply v_assign; exact rfl; exact rfl) | refine run_seq ?_ | refine run_region ?_ | refine runL_nil ?_ | refine run_skip ?_ | (apply run_cond; exact rfl; (focus (intro hb; cases hb; done)); intro hb; clear hb) | (apply v_not; exact rfl; exact rfl) | (apply v_eql; exact rfl; exact rfl; exact rfl)))
      refine run_condN rfl (by simpa using hne) ?_
      (repeat (first | (apply v_cx; exact rfl; exact cbA rfl; (first | exact hnd | exact hho); exact rfl; exact rfl) | (apply v_move; exact rfl; exact rfl) | (apply v_assign; exact rfl; exact rfl) | refine run_seq ?_ | refine run_region ?_ | refine runL_nil ?_ | refine run_skip ?_ | (apply v_extract; exact rfl; exact rfl; exact rfl) | (apply v_on; exact rfl) | (apply v_pick_t; exact rfl; exact rfl; exact rfl) | (apply v_eql; exact rfl; exact rfl; exact rfl) | (apply v_allocD; exact tyA rfl; exact rfl; exact rfl; exact rfl; exact rfl) | (apply v_storeW; exact tyA rfl; exact rfl; exact rfl; exact rfl; exact rfl; exact rfl; exact rfl; exact rfl)))
      by_cases he : u = a
      · refine v_is 50 true rfl (by simpa using he) ?_
        (repeat (first | (apply v_cx; exact rfl; exact cbA rfl; (first | exact hai2); exact rfl; exact rfl) | (apply v_move; exact rfl; exact rfl) | (apply v_assign; exact rfl; exact rfl) | refine runL_nil ?_ | (apply v_on; exact rfl) | (apply v_off; exact rfl; exact rfl) | (apply v_pick_t; exact rfl; exact rfl; exact rfl) | (apply v_eql; exact rfl; exact rfl; exact rfl)))
        exact run_ret idN _ Try.func9 ⟨_, _, rfl, rfl, rfl⟩ (by simp [AV.ren, oneA]) trivial trivial rfl
      · refine v_is 50 false rfl (by simpa using he) ?_
        (repeat (first | (apply v_move; exact rfl; exact rfl) | (apply v_fldP; exact flA rfl; exact rfl; exact rfl; exact rfl) | (apply v_loadB; exact tyA rfl; exact rfl; exact rfl; exact rfl; exact rfl; exact rfl; exact rfl) | (apply v_on; exact rfl) | (apply v_pick_t; exact rfl; exact rfl; exact rfl) | (apply v_pick_f; exact rfl; exact rfl; exact rfl) | (apply v_neq; exact rfl; exact rfl; exact rfl)))
        refine v_is 56 true rfl (by simpa using hys.resolve_left he) ?_
        (repeat (first | (apply v_cx; exact rfl; exact cbA rfl; (first | exact hai2); exact rfl; exact rfl) | (apply v_move; exact rfl; exact rfl) | (apply v_assign; exact rfl; exact rfl) | refine runL_nil ?_ | (apply v_on; exact rfl) | (apply v_pick_t; exact rfl; exact rfl; exact rfl) | (apply v_eql; exact rfl; exact rfl; exact rfl)))
        exact run_ret idN _ Try.func9 ⟨_, _, rfl, rfl, rfl⟩ (by simp [AV.ren, oneA]) trivial trivial rfl
theorem aimHides_f {xs : List Ac} (a b : Int) (hm : xs.length ≤ 9223372036854775807) (hs : ∀ x ∈ xs, AcStr x) : Fun Try.prog 11 [.sem (listS acE xs), .v (.int .i64 a), .v (.int .i64 b)] [] (.v (.bool true)) [] := by
  have hgr := great10 hm
  cases hg : greatM xs with
  | true =>
    rw [hg] at hgr
    refine fun_intro 52 Try.func11 rfl rfl rfl (fun ι F S w => ?_)
    (repeat (first | (apply v_cx; exact rfl; exact cbA rfl; (first | exact awake10 | exact hgr); exact rfl; exact rfl) | (apply v_move; exact rfl; exact rfl) | (apply v_assign; exact rfl; exact rfl) | refine run_seq ?_ | refine run_region ?_ | refine runL_nil ?_ | refine run_skip ?_ | (apply run_cond; exact rfl; rotate_left; (focus (intro hb; cases hb; done)); intro hb; clear hb) | (apply run_cond; exact rfl; (focus (intro hb; cases hb; done)); intro hb; clear hb) | (apply v_not; exact rfl; exact rfl)))
    exact run_ret idN _ Try.func11 ⟨_, _, rfl, rfl, rfl⟩ rfl trivial trivial rfl
  | false =>
    rw [hg] at hgr
    obtain ⟨hl, hx⟩ := acts_ok hg fun x hx => ⟨(hs x hx).s, (hs x hx).name, (hs x hx).want⟩
    have hw := wf_nodes hx
    have hmade := made10 hl hx
    generalize nodesM xs = l at hw hmade
    have hai := aim_f hw a b
    cases hn : nodeAt l a with
    | none =>
      rw [aim_none hw hn] at hai
      refine fun_intro 52 Try.func11 rfl rfl rfl (fun ι F S w => ?_)
      (repeat (first | (apply v_cx; exact rfl; exact cbA rfl; (first | exact awake10 | exact hgr | exact hmade | exact hai | exact node_n hw hn); exact rfl; exact rfl) | (apply v_move; exact rfl; exact rfl) | (apply v_assign; exact rfl; exact rfl) | refine run_seq ?_ | refine run_region ?_ | refine runL_nil ?_ | refine run_skip ?_ | (apply v_extract; exact rfl; exact rfl; exact rfl) | (apply run_cond; exact rfl; rotate_left; (focus (intro hb; cases hb; done)); intro hb; clear hb) | (apply run_cond; exact rfl; (focus (intro hb; cases hb; done)); intro hb; clear hb) | (apply v_not; exact rfl; exact rfl) | (apply v_eql; exact rfl; exact rfl; exact rfl) | (apply v_allocD; exact tyA rfl; exact rfl; exact rfl; exact rfl; exact rfl) | (apply v_storeW; exact tyA rfl; exact rfl; exact rfl; exact rfl; exact rfl; exact rfl; exact rfl; exact rfl)))
      exact run_ret idN _ Try.func11 ⟨_, _, rfl, rfl, rfl⟩ rfl trivial trivial rfl
    | some x =>
      have hhi := hidden_f hw (aimM l a b) b
      rw [aim_seen hw hn b] at hhi
      have hai2 := aim_f hw (aimM l a b) b
      rw [aim_again hw hn b] at hai2
      have hai3 := aim_f hw a a
      rw [aim_self hw hn] at hai3
      generalize aimM l a b = u at *
      refine fun_intro 52 Try.func11 rfl rfl rfl (fun ι F S w => ?_)
      (repeat (first | (apply v_cx; exact rfl; exact cbA rfl; (first | exact awake10 | exact hgr | exact hmade | exact hai | exact node_s hw hn | exact hhi | exact hai2); exact rfl; exact rfl) | (apply v_move; exact rfl; exact rfl) | (apply v_assign; exact rfl; exact rfl) | refine run_seq ?_ | refine run_region ?_ | refine runL_nil ?_ | refine run_skip ?_ | (apply v_extract; exact rfl; exact rfl; exact rfl) | (apply v_on; exact rfl) | (apply v_pick_t; exact rfl; exact rfl; exact rfl) | (apply run_cond; exact rfl; (focus (intro hb; cases hb; done)); intro hb; clear hb) | (apply v_not; exact rfl; exact rfl) | (apply v_eql; exact rfl; exact rfl; exact rfl) | (apply v_allocD; exact tyA rfl; exact rfl; exact rfl; exact rfl; exact rfl) | (apply v_storeW; exact tyA rfl; exact rfl; exact rfl; exact rfl; exact rfl; exact rfl; exact rfl; exact rfl)))
      refine v_is 44 true rfl (by simp) ?_
      (repeat (first | (apply v_cx; exact rfl; exact cbA rfl; (first | exact hai3); exact rfl; exact rfl) | (apply v_move; exact rfl; exact rfl) | (apply v_assign; exact rfl; exact rfl) | refine runL_nil ?_ | (apply v_on; exact rfl) | (apply v_pick_t; exact rfl; exact rfl; exact rfl) | (apply v_eql; exact rfl; exact rfl; exact rfl)))
      exact run_ret idN _ Try.func11 ⟨_, _, rfl, rfl, rfl⟩ (by simp [AV.ren, oneA]) trivial trivial rfl
theorem aimHolds_walk (A : Option Addr) (c : Nat) (xs : List Ac) (a b : Int) (W : World) (hv : AVRs ι0 (old W) W [.sem (listS acE xs)] [.slice A xs.length c]) (hs : ∀ x ∈ xs, AcStr x) (hm : xs.length ≤ 9223372036854775807) (w1 : (Lit.int .i64 a).wf = true) (w2 : (Lit.int .i64 b).wf = true) : Calls Try.prog 9 #[.slice A xs.length c, .int .i64 a, .int .i64 b] W fun e w' => e = .returned (.bool true) ∧ Below W.heap.size W w' :=
  acts_walk (vs := [.int .i64 a, .int .i64 b]) hv (aimHolds_f a b hm hs)
theorem aimHides_walk (A : Option Addr) (c : Nat) (xs : List Ac) (a b : Int) (W : World) (hv : AVRs ι0 (old W) W [.sem (listS acE xs)] [.slice A xs.length c]) (hs : ∀ x ∈ xs, AcStr x) (hm : xs.length ≤ 9223372036854775807) (w1 : (Lit.int .i64 a).wf = true) (w2 : (Lit.int .i64 b).wf = true) : Calls Try.prog 11 #[.slice A xs.length c, .int .i64 a, .int .i64 b] W fun e w' => e = .returned (.bool true) ∧ Below W.heap.size W w' :=
  acts_walk (vs := [.int .i64 a, .int .i64 b]) hv (aimHides_f a b hm hs)
end Go.Proofs.Ytjkidecaciomgaa
