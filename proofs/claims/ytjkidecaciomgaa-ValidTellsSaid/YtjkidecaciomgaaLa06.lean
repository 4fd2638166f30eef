/- Law 06: awake, ValidUp, ValidTells. -/
import Derived.Test.YtjkidecaciomgaaLaC06
import Derived.Test.YtjkidecaciomgaaVa3
import Derived.Test.YtjkidecaciomgaaFoE
import Derived.Test.YtjkidecaciomgaaKinPlW
import Derived.Test.YtjkidecaciomgaaFoO
namespace Go.Proofs.Ytjkidecaciomgaa
set_option linter.unusedVariables false
set_option linter.unusedSimpArgs false
set_option maxRecDepth 100000
open Go.RowKit

theorem all_v {l : List Nd} (h : WF l) : Fun Try.prog 41 [forA l] [] (.sem (listS nodeE l)) [] := (all_f (by have := h.len; omega) (kids_all h)).freeze
def ex06 : List Ac := [acN (ndK 1), acN ndE, acN ndE, acP 1 [2]]
def fo06 : List Nd := [{ ndK 1 with kids := [2] }, { ndE with parent := 1 }, ndE]
theorem ok06 : (∀ x ∈ ex06, AcOk x) ∧ nodesM ex06 = fo06 ∧ WF fo06 := nodes_ex (by decide) (by kernel_rfl)
theorem awake06 : Fun Try.prog 82 [] [] (.v (.bool true)) [] := by
  have hm := made06 (xs := ex06) (by decide) ok06.1
  rw [ok06.2.1] at hm
  have hw := ok06.2.2
  have h1 := check_f hw 3 1 0
  rw [show checkM fo06 3 1 0 = 3 by kernel_rfl] at h1
  have h2 := vhost_f hw 1 2
  rw [show decide ((1 : Int) ∈ ch fo06 upX 2) = true by kernel_rfl] at h2
  refine fun_intro 19 Try.func82 rfl rfl rfl (fun ι F S w => ?_)
  (repeat (first | (apply v_assign; exact rfl; exact rfl) | refine run_seq ?_ | refine run_region ?_ | refine runL_nil ?_ | (apply v_b; exact plA rfl; exact tyA rfl; exact rfl; exact rfl; exact rfl)))
  refine v_l intE [2] (slA rfl) (tyA rfl) rfl rfl rfl rfl rfl rfl rfl rfl rfl rfl ?_
  (repeat (first | (apply v_b; exact plA rfl; exact tyA rfl; exact rfl; exact rfl; exact rfl)))
  refine runL_le 3 rfl (y := .agg (acE.f (acN (ndK 1)))) (Le.agg (by repeat (first | exact trivial | refine ⟨Le.refl, ?_⟩ | refine ⟨Le.nil, ?_⟩))) ?_
  refine runL_le 5 rfl (y := .agg (acE.f (acN ndE))) (Le.agg (by repeat (first | exact trivial | refine ⟨Le.refl, ?_⟩ | refine ⟨Le.nil, ?_⟩))) ?_
  refine runL_le 7 rfl (y := .agg (acE.f (acN ndE))) (Le.agg (by repeat (first | exact trivial | refine ⟨Le.refl, ?_⟩ | refine ⟨Le.nil, ?_⟩))) ?_
  refine runL_le 9 rfl (y := .agg (acE.f (acP 1 [2]))) (Le.agg (by repeat (first | exact trivial | refine ⟨Le.refl, ?_⟩ | refine ⟨Le.nil, ?_⟩))) ?_
  refine v_l acE ex06 (slA rfl) (tyA rfl) rfl rfl rfl rfl rfl rfl rfl rfl rfl rfl ?_
  (repeat (first | (apply v_cx; exact rfl; exact cbA rfl; (first | exact hm | exact h1 | exact h2); exact rfl; exact rfl) | (apply v_move; exact rfl; exact rfl) | (apply v_assign; exact rfl; exact rfl) | refine run_seq ?_ | refine run_region ?_ | refine runL_nil ?_ | (apply v_on; exact rfl) | (apply v_pick_t; exact rfl; exact rfl; exact rfl) | (apply v_eql; exact rfl; exact rfl; exact rfl)))
  exact run_ret idN _ Try.func82 ⟨_, _, rfl, rfl, rfl⟩ rfl trivial trivial rfl
theorem check_up {l : List Nd} {a b : Int} (hm : a ∈ ch l upX b) (ha : (nodeAt l a).isSome = true) (hb : (nodeAt l b).isSome = true) : checkM l a b 0 = 3 := by
  obtain ⟨x, hx⟩ := Option.isSome_iff_exists.1 ha
  obtain ⟨y, hy⟩ := Option.isSome_iff_exists.1 hb
  simp only [checkM, hx, hy, nodeAt_zero]
  rw [if_neg (by simp), if_pos (by simpa using hm)]
theorem validUp_f {xs : List Ac} (a : Int) (b : Int) (hm : xs.length ≤ 9223372036854775807) (hs : ∀ x ∈ xs, AcStr x) : Fun Try.prog 13 [.sem (listS acE xs), .v (.int .i64 a), .v (.int .i64 b)] [] (.v (.bool true)) [] := by
  have hgr := great06 hm
  cases hg : greatM xs with
  | true =>
    rw [hg] at hgr
    refine fun_intro 66 Try.func13 rfl rfl rfl (fun ι F S w => ?_)
    (repeat (first | (apply v_cx; exact rfl; exact cbA rfl; (first | exact awake06 | exact hgr); exact rfl; exact rfl) | (apply v_move; exact rfl; exact rfl) | (apply v_assign; exact rfl; exact rfl) | refine run_seq ?_ | refine run_region ?_ | refine runL_nil ?_ | refine run_skip ?_ | (apply run_cond; exact rfl; rotate_left; (focus (intro hb; cases hb; done)); intro hb; clear hb) | (apply run_cond; exact rfl; (focus (intro hb; cases hb; done)); intro hb; clear hb) | (apply v_not; exact rfl; exact rfl)))
    exact run_ret idN _ Try.func13 ⟨_, _, rfl, rfl, rfl⟩ rfl trivial trivial rfl
  | false =>
    rw [hg] at hgr
    obtain ⟨hl, hx⟩ := acts_ok hg fun x hx => ⟨(hs x hx).s, (hs x hx).name, (hs x hx).want⟩
    have hw := wf_nodes hx
    have hmade := made06 hl hx
    generalize nodesM xs = l at hw hmade
    cases hn : nodeAt l a with
    | none =>
      have h1 := check_f hw a b 0
      rw [show checkM l a b 0 = 1 by simp [checkM, hn]] at h1
      have h2 := vhost_f hw a b
      rw [decide_eq_false fun e => by obtain ⟨⟨x, hx⟩, _⟩ := up_there hw e; rw [hn] at hx; cases hx] at h2
      refine fun_intro 66 Try.func13 rfl rfl rfl (fun ι F S w => ?_)
      (repeat (first | (apply v_cx; exact rfl; exact cbA rfl; (first | exact awake06 | exact hgr | exact hmade | exact node_n hw hn | exact h1 | exact h2); exact rfl; exact rfl) | (apply v_move; exact rfl; exact rfl) | (apply v_assign; exact rfl; exact rfl) | refine run_seq ?_ | refine run_region ?_ | refine runL_nil ?_ | refine run_skip ?_ | (apply v_extract; exact rfl; exact rfl; exact rfl) | (apply v_on; exact rfl) | (apply v_pick_t; exact rfl; exact rfl; exact rfl) | (apply run_cond; exact rfl; rotate_left; (focus (intro hb; cases hb; done)); intro hb; clear hb) | (apply run_cond; exact rfl; (focus (intro hb; cases hb; done)); intro hb; clear hb) | (apply v_not; exact rfl; exact rfl) | (apply v_eql; exact rfl; exact rfl; exact rfl) | (apply v_allocD; exact tyA rfl; exact rfl; exact rfl; exact rfl; exact rfl) | (apply v_storeW; exact tyA rfl; exact rfl; exact rfl; exact rfl; exact rfl; exact rfl; exact rfl; exact rfl)))
      exact run_ret idN _ Try.func13 ⟨_, _, rfl, rfl, rfl⟩ rfl trivial trivial rfl
    | some x =>
      have h1 := vhost_f hw a a
      rw [decide_eq_true (up_self hw hn)] at h1
      have h2 := check_f hw a a 0
      rw [check_up (up_self hw hn) (by rw [hn]; rfl) (by rw [hn]; rfl)] at h2
      refine fun_intro 66 Try.func13 rfl rfl rfl (fun ι F S w => ?_)
      (repeat (first | (apply v_cx; exact rfl; exact cbA rfl; (first | exact awake06 | exact hgr | exact hmade | exact node_s hw hn | exact h1 | exact h2); exact rfl; exact rfl) | (apply v_move; exact rfl; exact rfl) | (apply v_assign; exact rfl; exact rfl) | refine run_seq ?_ | refine run_region ?_ | refine runL_nil ?_ | refine run_skip ?_ | (apply v_extract; exact rfl; exact rfl; exact rfl) | (apply v_fldP; exact flA rfl; exact rfl; exact rfl; exact rfl) | (apply v_loadB; exact tyA rfl; exact rfl; exact rfl; exact rfl; exact rfl; exact rfl; exact rfl) | (apply v_on; exact rfl) | (apply v_pick_f; exact rfl; exact rfl; exact rfl) | (apply run_cond; exact rfl; (focus (intro hb; cases hb; done)); intro hb; clear hb) | (apply v_not; exact rfl; exact rfl) | (apply v_eql; exact rfl; exact rfl; exact rfl) | (apply v_neq; exact rfl; exact rfl; exact rfl) | (apply v_allocD; exact tyA rfl; exact rfl; exact rfl; exact rfl; exact rfl) | (apply v_storeW; exact tyA rfl; exact rfl; exact rfl; exact rfl; exact rfl; exact rfl; exact rfl; exact rfl)))
      by_cases h0 : x.shadow = 0
      · refine v_is 51 true rfl (by simpa using h0) ?_
        (repeat (first | (apply v_assign; exact rfl; exact rfl) | refine runL_nil ?_ | (apply v_off; exact rfl; exact rfl) | (apply v_pick_t; exact rfl; exact rfl; exact rfl)))
        exact run_ret idN _ Try.func13 ⟨_, _, rfl, rfl, rfl⟩ rfl trivial trivial rfl
      · obtain ⟨y, hy, hyh⟩ := ((hw.shad hn).resolve_left h0).2
        have hup : a ∈ ch l upX x.shadow := by
          have hrt : rootedB y = true := by
            rcases hw.host hy with e | ⟨e, _⟩
            · rw [hyh] at e
              have := nodeAt_some hn
              omega
            · simp [rootedB, e]
          have hp := hw.root hy hrt
          rw [up_step hw hy, show upX y = a by simp [upX, hp, hyh]]
          exact List.mem_cons_of_mem _ (up_self hw hn)
        have h3 := vhost_f hw a x.shadow
        rw [decide_eq_true hup] at h3
        have h4 := check_f hw a x.shadow 0
        rw [check_up hup (by rw [hn]; rfl) (by rw [hy]; rfl)] at h4
        refine v_is 51 false rfl (by simpa using h0) ?_
        (repeat (first | (apply v_cx; exact rfl; exact cbA rfl; (first | exact h3 | exact h4); exact rfl; exact rfl) | (apply v_move; exact rfl; exact rfl) | (apply v_assign; exact rfl; exact rfl) | refine runL_nil ?_ | (apply v_fldP; exact flA rfl; exact rfl; exact rfl; exact rfl) | (apply v_loadB; exact tyA rfl; exact rfl; exact rfl; exact rfl; exact rfl; exact rfl; exact rfl) | (apply v_on; exact rfl) | (apply v_pick_t; exact rfl; exact rfl; exact rfl) | (apply v_pick_f; exact rfl; exact rfl; exact rfl) | (apply v_eql; exact rfl; exact rfl; exact rfl)))
        exact run_ret idN _ Try.func13 ⟨_, _, rfl, rfl, rfl⟩ rfl trivial trivial rfl
theorem validUp_walk (A : Option Addr) (c0 : Nat) (xs : List Ac) (a b : Int) (W : World) (hv : AVRs ι0 (old W) W [.sem (listS acE xs)] [.slice A xs.length c0]) (hs : ∀ x ∈ xs, AcStr x) (hm : xs.length ≤ 9223372036854775807) (w1 : (Lit.int .i64 a).wf = true) (w2 : (Lit.int .i64 b).wf = true) : Calls Try.prog 13 #[.slice A xs.length c0, .int .i64 a, .int .i64 b] W fun e w' => e = .returned (.bool true) ∧ Below W.heap.size W w' :=
  acts_walk (vs := [.int .i64 a, .int .i64 b]) hv (validUp_f a b hm hs)
theorem validTells_f {xs : List Ac} (a : Int) (b : Int) (c : Int) (hm : xs.length ≤ 9223372036854775807) (hs : ∀ x ∈ xs, AcStr x) : Fun Try.prog 14 [.sem (listS acE xs), .v (.int .i64 a), .v (.int .i64 b), .v (.int .i64 c)] [] (.v (.bool true)) [] := by
  have hgr := great06 hm
  cases hg : greatM xs with
  | true =>
    rw [hg] at hgr
    refine fun_intro 47 Try.func14 rfl rfl rfl (fun ι F S w => ?_)
    (repeat (first | (apply v_cx; exact rfl; exact cbA rfl; (first | exact awake06 | exact hgr); exact rfl; exact rfl) | (apply v_move; exact rfl; exact rfl) | (apply v_assign; exact rfl; exact rfl) | refine run_seq ?_ | refine run_region ?_ | refine runL_nil ?_ | refine run_skip ?_ | (apply run_cond; exact rfl; rotate_left; (focus (intro hb; cases hb; done)); intro hb; clear hb) | (apply run_cond; exact rfl; (focus (intro hb; cases hb; done)); intro hb; clear hb) | (apply v_not; exact rfl; exact rfl)))
    exact run_ret idN _ Try.func14 ⟨_, _, rfl, rfl, rfl⟩ rfl trivial trivial rfl
  | false =>
    rw [hg] at hgr
    obtain ⟨hl, hx⟩ := acts_ok hg fun x hx => ⟨(hs x hx).s, (hs x hx).name, (hs x hx).want⟩
    have hw := wf_nodes hx
    have hmade := made06 hl hx
    have hnr := nodes_r hl hx
    have hkd := kd_nodes xs
    generalize nodesM xs = l at hw hmade hnr hkd
    have h1 := vhost_f hw a b
    have h2 := host6 hw a b
    have h3 := check_f hw a b c
    have h4 := check6 hw hkd a b c
    have h5 := all_v hw
    have hlen := hw.len
    have h6 := same_r (l := l) (m := l) (by omega) (kids_all hw)
    rw [decide_eq_true rfl] at h6
    generalize decide (a ∈ ch l upX b) = p1 at *
    generalize checkM l a b c = p2 at *
    refine fun_intro 47 Try.func14 rfl rfl rfl (fun ι F S w => ?_)
    (repeat (first | (apply v_cx; exact rfl; exact cbA rfl; (first | exact awake06 | exact hgr | exact hmade | exact hnr | exact h1 | exact h2); exact rfl; exact rfl) | (apply v_move; exact rfl; exact rfl) | (apply v_assign; exact rfl; exact rfl) | refine run_seq ?_ | refine run_region ?_ | refine runL_nil ?_ | refine run_skip ?_ | (apply run_cond; exact rfl; (focus (intro hb; cases hb; done)); intro hb; clear hb) | (apply v_not; exact rfl; exact rfl) | (apply v_eqlB; exact boA rfl; exact rfl; exact rfl; exact rfl)))
    refine v_is 28 true rfl (by simp) ?_
    (repeat (first | (apply v_cx; exact rfl; exact cbA rfl; (first | exact h3 | exact h4); exact rfl; exact rfl) | (apply v_move; exact rfl; exact rfl) | (apply v_on; exact rfl) | (apply v_pick_t; exact rfl; exact rfl; exact rfl) | (apply v_eql; exact rfl; exact rfl; exact rfl)))
    refine v_is 41 true rfl (by simp) ?_
    (repeat (first | (apply v_cx; exact rfl; exact cbA rfl; (first | exact h5 | exact h6); exact rfl; exact rfl) | (apply v_move; exact rfl; exact rfl) | (apply v_assign; exact rfl; exact rfl) | refine runL_nil ?_ | (apply v_on; exact rfl) | (apply v_pick_t; exact rfl; exact rfl; exact rfl)))
    exact run_ret idN _ Try.func14 ⟨_, _, rfl, rfl, rfl⟩ rfl trivial trivial rfl
theorem validTells_walk (A : Option Addr) (c0 : Nat) (xs : List Ac) (a b c : Int) (W : World) (hv : AVRs ι0 (old W) W [.sem (listS acE xs)] [.slice A xs.length c0]) (hs : ∀ x ∈ xs, AcStr x) (hm : xs.length ≤ 9223372036854775807) (w1 : (Lit.int .i64 a).wf = true) (w2 : (Lit.int .i64 b).wf = true) (w3 : (Lit.int .i64 c).wf = true) : Calls Try.prog 14 #[.slice A xs.length c0, .int .i64 a, .int .i64 b, .int .i64 c] W fun e w' => e = .returned (.bool true) ∧ Below W.heap.size W w' :=
  acts_walk (vs := [.int .i64 a, .int .i64 b, .int .i64 c]) hv (validTells_f a b c hm hs)
end Go.Proofs.Ytjkidecaciomgaa
