/- Law 08: awake, ShadeWhole, ShadeHidden. -/
import Derived.Test.YtjkidecaciomgaaLaC08
import Derived.Test.YtjkidecaciomgaaSh2
import Derived.Test.YtjkidecaciomgaaFoE
import Derived.Test.YtjkidecaciomgaaKinPlW
namespace Go.Proofs.Ytjkidecaciomgaa
set_option linter.unusedVariables false
set_option linter.unusedSimpArgs false
set_option maxRecDepth 100000
open Go.RowKit

def attachC (l : List Nd) (host mode : Int) : List Nd × Int × Int :=
  match nodeAt l host with
  | none => (l, 0, 1)
  | some h =>
    if mode ≠ 1 ∧ mode ≠ 2 then (l, 0, 1)
    else if h.kind ≠ 2 ∨ h.shadow ≠ 0 then (l, 0, 5)
    else if (makeM l { nd0 with kind := 3, mode := mode }).2.2 ≠ 0 then (l, 0, (makeM l { nd0 with kind := 3, mode := mode }).2.2)
    else ((tieC (makeM l { nd0 with kind := 3, mode := mode }).1 host (makeM l { nd0 with kind := 3, mode := mode }).2.1).1, (makeM l { nd0 with kind := 3, mode := mode }).2.1, (tieC (makeM l { nd0 with kind := 3, mode := mode }).1 host (makeM l { nd0 with kind := 3, mode := mode }).2.1).2)
theorem attach_C {l : List Nd} (h : WF l) (host mode : Int) : attachM l host mode = attachC l host mode := by
  unfold attachM attachC
  have hw := wf_make h (n := { nd0 with kind := 3, mode := mode }) (by show nd0.name.size ≤ _; decide) (by show nd0.want.size ≤ _; decide)
  cases nodeAt l host with
  | none => rfl
  | some x => simp only [tie_C hw]
theorem wf_attach {l : List Nd} (h : WF l) (host mode : Int) : WF (attachM l host mode).1 := by
  have hw := wf_make h (n := { nd0 with kind := 3, mode := mode }) (by show nd0.name.size ≤ _; decide) (by show nd0.want.size ≤ _; decide)
  unfold attachM
  cases nodeAt l host with
  | none => exact h
  | some x =>
    simp only
    split
    · exact h
    · split
      · exact h
      · split
        · exact h
        · exact wf_tie hw _ _
def ex08 : List Ac := [acN ndE, acN ndE]
def fo08 : List Nd := [{ ndE with shadow := 3 }, ndE, { ndS 2 with host := 1 }]
def fo08b : List Nd := [{ ndE with shadow := 3 }, { ndE with parent := 3 }, { ndS 2 with host := 1, kids := [2] }]
theorem ok08 : (∀ x ∈ ex08, AcOk x) ∧ nodesM ex08 = [ndE, ndE] ∧ WF [ndE, ndE] := nodes_ex (by decide) (by kernel_rfl)
theorem at08 : attachM [ndE, ndE] 1 2 = (fo08, 3, 0) := (attach_C ok08.2.2 1 2).trans (by kernel_rfl)
theorem wf08 : WF fo08 := by
  have := wf_attach ok08.2.2 1 2
  rwa [at08] at this
theorem pt08 : putM fo08 3 [2] = (fo08b, 0) := (put_C wf08 3 [2]).trans (by kernel_rfl)
theorem wf08b : WF fo08b := by
  have := wf_put wf08 3 [2]
  rwa [pt08] at this
theorem awake08 : Fun Try.prog 89 [] [] (.v (.bool true)) [] := by
  have hm := madeL08 (xs := ex08) (by decide) ok08.1
  rw [ok08.2.1] at hm
  have ha := attach_f ok08.2.2 1 2
  rw [at08] at ha
  have hp := put_f wf08.ups 3 [2] (by decide) (by decide) (kids_ok wf08 3)
  rw [pt08] at hp
  have h1 := lend 3 rfl rfl (hidden_f wf08b 2 1)
  rw [show hiddenM fo08b 2 1 = true by kernel_rfl] at h1
  have h2 := lend 3 rfl rfl (hidden_f wf08b 1 2)
  rw [show hiddenM fo08b 1 2 = false by kernel_rfl] at h2
  refine fun_intro 35 Try.func89 rfl rfl rfl (fun ι F S w => ?_)
  (repeat (first | (apply v_assign; exact rfl; exact rfl) | refine run_seq ?_ | refine run_region ?_ | refine runL_nil ?_ | (apply v_b; exact plA rfl; exact tyA rfl; exact rfl; exact rfl; exact rfl)))
  refine runL_le 6 rfl (y := .agg (acE.f (acN ndE))) (Le.agg (by repeat (first | exact trivial | refine ⟨Le.refl, ?_⟩ | refine ⟨Le.nil, ?_⟩))) ?_
  refine runL_le 8 rfl (y := .agg (acE.f (acN ndE))) (Le.agg (by repeat (first | exact trivial | refine ⟨Le.refl, ?_⟩ | refine ⟨Le.nil, ?_⟩))) ?_
  refine v_l acE ex08 (slA rfl) (tyA rfl) rfl rfl rfl rfl rfl rfl rfl rfl rfl rfl ?_
  skip
  refine v_cR (mp []) hm rfl (cbA rfl) trivial (by kernel_rfl) (by kernel_rfl) (by kernel_rfl) (by kernel_rfl) (by kernel_rfl) (by kernel_rfl) (by kernel_rfl) (by kernel_rfl) rfl ?_
  (repeat (first | (apply v_move; exact rfl; exact rfl) | (apply v_assign; exact rfl; exact rfl) | refine run_seq ?_ | refine run_region ?_ | refine runL_nil ?_))
  refine v_cR (mp []) ha rfl (cbA rfl) ⟨rfl, rfl, trivial⟩ (by kernel_rfl) (by kernel_rfl) (by kernel_rfl) (by kernel_rfl) (by kernel_rfl) (by kernel_rfl) (by kernel_rfl) (by kernel_rfl) rfl ?_
  (repeat (first | (apply v_move; exact rfl; exact rfl) | (apply v_assign; exact rfl; exact rfl) | refine run_seq ?_ | refine run_region ?_ | refine runL_nil ?_ | (apply v_extract; exact rfl; exact rfl; exact rfl)))
  refine v_l intE [2] (slA rfl) (tyA rfl) rfl rfl rfl rfl rfl rfl rfl rfl rfl rfl ?_
  skip
  refine v_cR (mp [(1, 2), (2, 3)]) hp rfl (cbA rfl) ⟨rfl, rfl, trivial⟩ (by kernel_rfl) (by kernel_rfl) (by kernel_rfl) (by kernel_rfl) (by kernel_rfl) (by kernel_rfl) (by kernel_rfl) (by kernel_rfl) rfl ?_
  (repeat (first | (apply v_cSx; exact rfl; exact cbA rfl; (first | exact h1 | exact h2); (repeat (first | exact trivial | refine ⟨rfl, ?_⟩)); exact rfl; exact rfl; exact rfl; exact rfl; exact rfl) | (apply v_move; exact rfl; exact rfl) | (apply v_assign; exact rfl; exact rfl) | refine run_seq ?_ | refine run_region ?_ | refine runL_nil ?_ | (apply v_on; exact rfl) | (apply v_pick_t; exact rfl; exact rfl; exact rfl) | (apply v_not; exact rfl; exact rfl) | (apply v_eql; exact rfl; exact rfl; exact rfl)))
  exact run_ret idN _ Try.func89 ⟨_, _, rfl, rfl, rfl⟩ rfl trivial trivial rfl
theorem shadeWhole_f {xs : List Ac} (a b c : Int) (hm : xs.length ≤ 9223372036854775807) (hs : ∀ x ∈ xs, AcStr x) : Fun Try.prog 16 [.sem (listS acE xs), .v (.int .i64 a), .v (.int .i64 b), .v (.int .i64 c)] [] (.v (.bool true)) [] := by
  have hgr := great08 hm
  cases hg : greatM xs with
  | true =>
    rw [hg] at hgr
    refine fun_intro 108 Try.func16 rfl rfl rfl (fun ι F S w => ?_)
    (repeat (first | (apply v_cx; exact rfl; exact cbA rfl; (first | exact awake08 | exact hgr); exact rfl; exact rfl) | (apply v_move; exact rfl; exact rfl) | (apply v_assign; exact rfl; exact rfl) | refine run_seq ?_ | refine run_region ?_ | refine runL_nil ?_ | refine run_skip ?_ | (apply run_cond; exact rfl; rotate_left; (focus (intro hb; cases hb; done)); intro hb; clear hb) | (apply run_cond; exact rfl; (focus (intro hb; cases hb; done)); intro hb; clear hb) | (apply v_not; exact rfl; exact rfl)))
    exact run_ret idN _ Try.func16 ⟨_, _, rfl, rfl, rfl⟩ rfl trivial trivial rfl
  | false =>
    rw [hg] at hgr
    obtain ⟨hl, hx⟩ := acts_ok hg fun x hx => ⟨(hs x hx).s, (hs x hx).name, (hs x hx).want⟩
    have hw := wf_nodes hx
    have hmade := made08 hl hx
    generalize nodesM xs = l at hw hmade
    have hwh := whole_f hw a
    have hab := holds_f hw a b
    have hba := holds_f hw b a
    have hbc := holds_f hw b c
    have hac := holds_f hw a c
    cases hn : nodeAt l a with
    | none =>
      rw [whole_none hw hn] at hwh
      rw [decide_eq_false fun e => by obtain ⟨⟨x, hx⟩, _⟩ := up_there hw e; rw [hn] at hx; cases hx] at hab
      rw [decide_eq_false fun e => by rw [ch_none hn] at e; cases e] at hba
      refine fun_intro 108 Try.func16 rfl rfl rfl (fun ι F S w => ?_)
      (repeat (first | (apply v_cx; exact rfl; exact cbA rfl; (first | exact awake08 | exact hgr | exact hmade | exact node_n hw hn | exact hwh | exact hab | exact hba); exact rfl; exact rfl) | (apply v_move; exact rfl; exact rfl) | (apply v_assign; exact rfl; exact rfl) | refine run_seq ?_ | refine run_region ?_ | refine runL_nil ?_ | refine run_skip ?_ | (apply v_extract; exact rfl; exact rfl; exact rfl) | (apply v_on; exact rfl) | (apply v_pick_t; exact rfl; exact rfl; exact rfl) | (apply run_cond; exact rfl; rotate_left; (focus (intro hb; cases hb; done)); intro hb; clear hb) | (apply run_cond; exact rfl; (focus (intro hb; cases hb; done)); intro hb; clear hb) | (apply v_not; exact rfl; exact rfl) | (apply v_eql; exact rfl; exact rfl; exact rfl) | (apply v_allocD; exact tyA rfl; exact rfl; exact rfl; exact rfl; exact rfl) | (apply v_storeW; exact tyA rfl; exact rfl; exact rfl; exact rfl; exact rfl; exact rfl; exact rfl; exact rfl)))
      exact run_ret idN _ Try.func16 ⟨_, _, rfl, rfl, rfl⟩ rfl trivial trivial rfl
    | some x =>
      obtain ⟨h1, h2⟩ := whole_ok hw hn
      have hne : wholeM l a ≠ 0 := fun e => by
        obtain ⟨⟨y, hy⟩, _⟩ := up_there hw h1
        rw [e, nodeAt_zero] at hy
        cases hy
      have hwh2 := whole_f hw (wholeM l a)
      rw [h2] at hwh2
      have hwa := holds_f hw (wholeM l a) a
      rw [decide_eq_true h1] at hwa
      have haa := holds_f hw a a
      rw [decide_eq_true (up_self hw hn)] at haa
      generalize wholeM l a = u at *
      by_cases eab : a ∈ ch l upX b
      · rw [decide_eq_true eab] at hab
        by_cases eba : b ∈ ch l upX a
        · rw [decide_eq_true eba] at hba
          have hanti := up_anti hw eab eba
          by_cases ebc : b ∈ ch l upX c
          · rw [decide_eq_true ebc] at hbc
            rw [decide_eq_true (up_trans hw eab ebc)] at hac
            refine fun_intro 108 Try.func16 rfl rfl rfl (fun ι F S w => ?_)
            (repeat (first | (apply v_cx; exact rfl; exact cbA rfl; (first | exact awake08 | exact hgr | exact hmade | exact node_s hw hn | exact hwh); exact rfl; exact rfl) | (apply v_move; exact rfl; exact rfl) | (apply v_assign; exact rfl; exact rfl) | refine run_seq ?_ | refine run_region ?_ | refine runL_nil ?_ | refine run_skip ?_ | (apply v_extract; exact rfl; exact rfl; exact rfl) | (apply run_cond; exact rfl; (focus (intro hb; cases hb; done)); intro hb; clear hb) | (apply v_not; exact rfl; exact rfl) | (apply v_neq; exact rfl; exact rfl; exact rfl) | (apply v_allocD; exact tyA rfl; exact rfl; exact rfl; exact rfl; exact rfl) | (apply v_storeW; exact tyA rfl; exact rfl; exact rfl; exact rfl; exact rfl; exact rfl; exact rfl; exact rfl)))
            refine v_is 50 true rfl (by simpa using hne) ?_
            (repeat (first | (apply v_cx; exact rfl; exact cbA rfl; (first | exact hwh2); exact rfl; exact rfl) | (apply v_move; exact rfl; exact rfl) | (apply v_on; exact rfl) | (apply v_pick_t; exact rfl; exact rfl; exact rfl) | (apply v_eql; exact rfl; exact rfl; exact rfl)))
            refine v_is 57 true rfl (by simp) ?_
            (repeat (first | (apply v_cx; exact rfl; exact cbA rfl; (first | exact hwa | exact haa | exact hab | exact hba | exact hbc | exact hac); exact rfl; exact rfl) | (apply v_move; exact rfl; exact rfl) | (apply v_assign; exact rfl; exact rfl) | refine runL_nil ?_ | (apply v_on; exact rfl) | (apply v_pick_t; exact rfl; exact rfl; exact rfl) | (apply v_pick_f; exact rfl; exact rfl; exact rfl) | (apply v_not; exact rfl; exact rfl) | (apply v_eql; exact rfl; exact rfl; exact rfl)))
            subst hanti
            exact run_ret idN _ Try.func16 ⟨_, _, rfl, rfl, rfl⟩ (by simp [AV.ren, oneA]) trivial trivial rfl
          · rw [decide_eq_false ebc] at hbc
            refine fun_intro 108 Try.func16 rfl rfl rfl (fun ι F S w => ?_)
            (repeat (first | (apply v_cx; exact rfl; exact cbA rfl; (first | exact awake08 | exact hgr | exact hmade | exact node_s hw hn | exact hwh); exact rfl; exact rfl) | (apply v_move; exact rfl; exact rfl) | (apply v_assign; exact rfl; exact rfl) | refine run_seq ?_ | refine run_region ?_ | refine runL_nil ?_ | refine run_skip ?_ | (apply v_extract; exact rfl; exact rfl; exact rfl) | (apply run_cond; exact rfl; (focus (intro hb; cases hb; done)); intro hb; clear hb) | (apply v_not; exact rfl; exact rfl) | (apply v_neq; exact rfl; exact rfl; exact rfl) | (apply v_allocD; exact tyA rfl; exact rfl; exact rfl; exact rfl; exact rfl) | (apply v_storeW; exact tyA rfl; exact rfl; exact rfl; exact rfl; exact rfl; exact rfl; exact rfl; exact rfl)))
            refine v_is 50 true rfl (by simpa using hne) ?_
            (repeat (first | (apply v_cx; exact rfl; exact cbA rfl; (first | exact hwh2); exact rfl; exact rfl) | (apply v_move; exact rfl; exact rfl) | (apply v_on; exact rfl) | (apply v_pick_t; exact rfl; exact rfl; exact rfl) | (apply v_eql; exact rfl; exact rfl; exact rfl)))
            refine v_is 57 true rfl (by simp) ?_
            (repeat (first | (apply v_cx; exact rfl; exact cbA rfl; (first | exact hwa | exact haa | exact hab | exact hba | exact hbc | exact hac); exact rfl; exact rfl) | (apply v_move; exact rfl; exact rfl) | (apply v_assign; exact rfl; exact rfl) | refine runL_nil ?_ | (apply v_on; exact rfl) | (apply v_off; exact rfl; exact rfl) | (apply v_pick_t; exact rfl; exact rfl; exact rfl) | (apply v_pick_f; exact rfl; exact rfl; exact rfl) | (apply v_not; exact rfl; exact rfl) | (apply v_eql; exact rfl; exact rfl; exact rfl)))
            subst hanti
            exact run_ret idN _ Try.func16 ⟨_, _, rfl, rfl, rfl⟩ (by simp [AV.ren, oneA]) trivial trivial rfl
        · rw [decide_eq_false eba] at hba
          by_cases ebc : b ∈ ch l upX c
          · rw [decide_eq_true ebc] at hbc
            rw [decide_eq_true (up_trans hw eab ebc)] at hac
            refine fun_intro 108 Try.func16 rfl rfl rfl (fun ι F S w => ?_)
            (repeat (first | (apply v_cx; exact rfl; exact cbA rfl; (first | exact awake08 | exact hgr | exact hmade | exact node_s hw hn | exact hwh); exact rfl; exact rfl) | (apply v_move; exact rfl; exact rfl) | (apply v_assign; exact rfl; exact rfl) | refine run_seq ?_ | refine run_region ?_ | refine runL_nil ?_ | refine run_skip ?_ | (apply v_extract; exact rfl; exact rfl; exact rfl) | (apply run_cond; exact rfl; (focus (intro hb; cases hb; done)); intro hb; clear hb) | (apply v_not; exact rfl; exact rfl) | (apply v_neq; exact rfl; exact rfl; exact rfl) | (apply v_allocD; exact tyA rfl; exact rfl; exact rfl; exact rfl; exact rfl) | (apply v_storeW; exact tyA rfl; exact rfl; exact rfl; exact rfl; exact rfl; exact rfl; exact rfl; exact rfl)))
            refine v_is 50 true rfl (by simpa using hne) ?_
            (repeat (first | (apply v_cx; exact rfl; exact cbA rfl; (first | exact hwh2); exact rfl; exact rfl) | (apply v_move; exact rfl; exact rfl) | (apply v_on; exact rfl) | (apply v_pick_t; exact rfl; exact rfl; exact rfl) | (apply v_eql; exact rfl; exact rfl; exact rfl)))
            refine v_is 57 true rfl (by simp) ?_
            (repeat (first | (apply v_cx; exact rfl; exact cbA rfl; (first | exact hwa | exact haa | exact hab | exact hba | exact hbc | exact hac); exact rfl; exact rfl) | (apply v_move; exact rfl; exact rfl) | (apply v_assign; exact rfl; exact rfl) | refine runL_nil ?_ | (apply v_on; exact rfl) | (apply v_off; exact rfl; exact rfl) | (apply v_pick_t; exact rfl; exact rfl; exact rfl) | (apply v_pick_f; exact rfl; exact rfl; exact rfl) | (apply v_not; exact rfl; exact rfl)))
            exact run_ret idN _ Try.func16 ⟨_, _, rfl, rfl, rfl⟩ rfl trivial trivial rfl
          · rw [decide_eq_false ebc] at hbc
            refine fun_intro 108 Try.func16 rfl rfl rfl (fun ι F S w => ?_)
            (repeat (first | (apply v_cx; exact rfl; exact cbA rfl; (first | exact awake08 | exact hgr | exact hmade | exact node_s hw hn | exact hwh); exact rfl; exact rfl) | (apply v_move; exact rfl; exact rfl) | (apply v_assign; exact rfl; exact rfl) | refine run_seq ?_ | refine run_region ?_ | refine runL_nil ?_ | refine run_skip ?_ | (apply v_extract; exact rfl; exact rfl; exact rfl) | (apply run_cond; exact rfl; (focus (intro hb; cases hb; done)); intro hb; clear hb) | (apply v_not; exact rfl; exact rfl) | (apply v_neq; exact rfl; exact rfl; exact rfl) | (apply v_allocD; exact tyA rfl; exact rfl; exact rfl; exact rfl; exact rfl) | (apply v_storeW; exact tyA rfl; exact rfl; exact rfl; exact rfl; exact rfl; exact rfl; exact rfl; exact rfl)))
            refine v_is 50 true rfl (by simpa using hne) ?_
            (repeat (first | (apply v_cx; exact rfl; exact cbA rfl; (first | exact hwh2); exact rfl; exact rfl) | (apply v_move; exact rfl; exact rfl) | (apply v_on; exact rfl) | (apply v_pick_t; exact rfl; exact rfl; exact rfl) | (apply v_eql; exact rfl; exact rfl; exact rfl)))
            refine v_is 57 true rfl (by simp) ?_
            (repeat (first | (apply v_cx; exact rfl; exact cbA rfl; (first | exact hwa | exact haa | exact hab | exact hba | exact hbc | exact hac); exact rfl; exact rfl) | (apply v_move; exact rfl; exact rfl) | (apply v_assign; exact rfl; exact rfl) | refine runL_nil ?_ | (apply v_on; exact rfl) | (apply v_off; exact rfl; exact rfl) | (apply v_pick_t; exact rfl; exact rfl; exact rfl) | (apply v_pick_f; exact rfl; exact rfl; exact rfl) | (apply v_not; exact rfl; exact rfl)))
            exact run_ret idN _ Try.func16 ⟨_, _, rfl, rfl, rfl⟩ rfl trivial trivial rfl
      · rw [decide_eq_false eab] at hab
        refine fun_intro 108 Try.func16 rfl rfl rfl (fun ι F S w => ?_)
        (repeat (first | (apply v_cx; exact rfl; exact cbA rfl; (first | exact awake08 | exact hgr | exact hmade | exact node_s hw hn | exact hwh); exact rfl; exact rfl) | (apply v_move; exact rfl; exact rfl) | (apply v_assign; exact rfl; exact rfl) | refine run_seq ?_ | refine run_region ?_ | refine runL_nil ?_ | refine run_skip ?_ | (apply v_extract; exact rfl; exact rfl; exact rfl) | (apply run_cond; exact rfl; (focus (intro hb; cases hb; done)); intro hb; clear hb) | (apply v_not; exact rfl; exact rfl) | (apply v_neq; exact rfl; exact rfl; exact rfl) | (apply v_allocD; exact tyA rfl; exact rfl; exact rfl; exact rfl; exact rfl) | (apply v_storeW; exact tyA rfl; exact rfl; exact rfl; exact rfl; exact rfl; exact rfl; exact rfl; exact rfl)))
        refine v_is 50 true rfl (by simpa using hne) ?_
        (repeat (first | (apply v_cx; exact rfl; exact cbA rfl; (first | exact hwh2); exact rfl; exact rfl) | (apply v_move; exact rfl; exact rfl) | (apply v_on; exact rfl) | (apply v_pick_t; exact rfl; exact rfl; exact rfl) | (apply v_eql; exact rfl; exact rfl; exact rfl)))
        refine v_is 57 true rfl (by simp) ?_
        (repeat (first | (apply v_cx; exact rfl; exact cbA rfl; (first | exact hwa | exact haa | exact hab | exact hba | exact hbc | exact hac); exact rfl; exact rfl) | (apply v_move; exact rfl; exact rfl) | (apply v_assign; exact rfl; exact rfl) | refine runL_nil ?_ | (apply v_on; exact rfl) | (apply v_off; exact rfl; exact rfl) | (apply v_pick_t; exact rfl; exact rfl; exact rfl) | (apply v_not; exact rfl; exact rfl)))
        exact run_ret idN _ Try.func16 ⟨_, _, rfl, rfl, rfl⟩ rfl trivial trivial rfl
theorem shadeHidden_f {xs : List Ac} (a b : Int) (hm : xs.length ≤ 9223372036854775807) (hs : ∀ x ∈ xs, AcStr x) : Fun Try.prog 17 [.sem (listS acE xs), .v (.int .i64 a), .v (.int .i64 b)] [] (.v (.bool true)) [] := by
  have hgr := great08 hm
  cases hg : greatM xs with
  | true =>
    rw [hg] at hgr
    refine fun_intro 100 Try.func17 rfl rfl rfl (fun ι F S w => ?_)
    (repeat (first | (apply v_cx; exact rfl; exact cbA rfl; (first | exact awake08 | exact hgr); exact rfl; exact rfl) | (apply v_move; exact rfl; exact rfl) | (apply v_assign; exact rfl; exact rfl) | refine run_seq ?_ | refine run_region ?_ | refine runL_nil ?_ | refine run_skip ?_ | (apply run_cond; exact rfl; rotate_left; (focus (intro hb; cases hb; done)); intro hb; clear hb) | (apply run_cond; exact rfl; (focus (intro hb; cases hb; done)); intro hb; clear hb) | (apply v_not; exact rfl; exact rfl)))
    exact run_ret idN _ Try.func17 ⟨_, _, rfl, rfl, rfl⟩ rfl trivial trivial rfl
  | false =>
    rw [hg] at hgr
    obtain ⟨hl, hx⟩ := acts_ok hg fun x hx => ⟨(hs x hx).s, (hs x hx).name, (hs x hx).want⟩
    have hw := wf_nodes hx
    have hmade := made08 hl hx
    generalize nodesM xs = l at hw hmade
    have hhi := hidden_f hw a b
    cases hn : nodeAt l a with
    | none =>
      rw [hid_none hw hn] at hhi
      refine fun_intro 100 Try.func17 rfl rfl rfl (fun ι F S w => ?_)
      (repeat (first | (apply v_cx; exact rfl; exact cbA rfl; (first | exact awake08 | exact hgr | exact hmade | exact node_n hw hn | exact hhi); exact rfl; exact rfl) | (apply v_move; exact rfl; exact rfl) | (apply v_assign; exact rfl; exact rfl) | refine run_seq ?_ | refine run_region ?_ | refine runL_nil ?_ | refine run_skip ?_ | (apply v_extract; exact rfl; exact rfl; exact rfl) | (apply run_cond; exact rfl; rotate_left; (focus (intro hb; cases hb; done)); intro hb; clear hb) | (apply run_cond; exact rfl; (focus (intro hb; cases hb; done)); intro hb; clear hb) | (apply v_not; exact rfl; exact rfl) | (apply v_allocD; exact tyA rfl; exact rfl; exact rfl; exact rfl; exact rfl) | (apply v_storeW; exact tyA rfl; exact rfl; exact rfl; exact rfl; exact rfl; exact rfl; exact rfl; exact rfl)))
      exact run_ret idN _ Try.func17 ⟨_, _, rfl, rfl, rfl⟩ rfl trivial trivial rfl
    | some x =>
      cases hn2 : nodeAt l b with
      | none =>
        rw [show hiddenM l a b = false by rw [hiddenM, hn2]; rfl] at hhi
        refine fun_intro 100 Try.func17 rfl rfl rfl (fun ι F S w => ?_)
        (repeat (first | (apply v_cx; exact rfl; exact cbA rfl; (first | exact awake08 | exact hgr | exact hmade | exact node_s hw hn | exact node_n hw hn2 | exact hhi); exact rfl; exact rfl) | (apply v_move; exact rfl; exact rfl) | (apply v_assign; exact rfl; exact rfl) | refine run_seq ?_ | refine run_region ?_ | refine runL_nil ?_ | refine run_skip ?_ | (apply v_extract; exact rfl; exact rfl; exact rfl) | (apply run_cond; exact rfl; rotate_left; (focus (intro hb; cases hb; done)); intro hb; clear hb) | (apply run_cond; exact rfl; (focus (intro hb; cases hb; done)); intro hb; clear hb) | (apply v_not; exact rfl; exact rfl) | (apply v_allocD; exact tyA rfl; exact rfl; exact rfl; exact rfl; exact rfl) | (apply v_storeW; exact tyA rfl; exact rfl; exact rfl; exact rfl; exact rfl; exact rfl; exact rfl; exact rfl)))
        exact run_ret idN _ Try.func17 ⟨_, _, rfl, rfl, rfl⟩ rfl trivial trivial rfl
      | some y =>
        have hcl := closed_p hw a
        have hcn : (closedM l a).length ≤ 128 := Nat.le_trans (List.length_filter_le _ _) (roots_len hw a)
        have hsome := hid_some hw (a := a) (b := b)
        have haa := hidden_f hw a a
        rw [hid_self hw a] at haa
        have hrt := root_f hw a
        have hrb := holds_f hw (rootM l a) b
        have hroot := hid_root hw (a := a) (b := b)
        generalize closedM l a = u at *
        generalize hiddenM l a b = hd at *
        generalize rootM l a = r0 at *
        refine fun_intro 100 Try.func17 rfl rfl rfl (fun ι F S w => ?_)
        (repeat (first | (apply v_cx; exact rfl; exact cbA rfl; (first | exact awake08 | exact hgr | exact hmade | exact node_s hw hn | exact node_s hw hn2 | exact hcl); exact rfl; exact rfl) | (apply v_move; exact rfl; exact rfl) | (apply v_assign; exact rfl; exact rfl) | refine run_seq ?_ | refine run_region ?_ | refine runL_nil ?_ | refine run_skip ?_ | refine run_block ?_ | (apply v_extract; exact rfl; exact rfl; exact rfl) | (apply run_cond; exact rfl; (focus (intro hb; cases hb; done)); intro hb; clear hb) | (apply v_not; exact rfl; exact rfl) | (apply v_allocD; exact tyA rfl; exact rfl; exact rfl; exact rfl; exact rfl) | (apply v_storeW; exact tyA rfl; exact rfl; exact rfl; exact rfl; exact rfl; exact rfl; exact rfl; exact rfl)))
        refine v_loop (fun q : Nat × Bool => ⟨[(1, .v (.int .i64 a)), (2, .v (.int .i64 b)), (7, forA l), (12, .v (.bool q.2)), (13, .sem (listS intE u)), (14, .v (.int .i64 q.1))], []⟩) (fun q => q.1 ≤ u.length ∧ q.2 = (u.take q.1).any fun r => !decide (r ∈ ch l upX b)) (fun q => u.length - q.1) (0, false) idN trivial (by repeat (first | exact trivial | refine ⟨rfl, ?_⟩)) (by repeat (first | exact trivial | refine ⟨rfl, ?_⟩)) rfl ⟨by simp, rfl⟩ fun ⟨i, sm⟩ ⟨hi, hsm⟩ ih => ?_
        simp only at hi hsm
        (repeat (first | (apply v_move; exact rfl; exact rfl) | refine run_seq ?_ | refine run_region ?_ | refine runL_nil ?_ | (apply v_lss; exact rfl; exact rfl; exact rfl) | (apply v_lenL; exact slA rfl; exact rfl; exact rfl)))
        refine run_cond rfl (fun hb => ?_) (fun hb => ?_)
        · have hlt : i < u.length := by simpa using hb
          have hx : u[((i : Int)).toNat]? = some u[i] := by simp [hlt]
          have hst : ((u.take (i + 1)).any fun r => !decide (r ∈ ch l upX b)) = (sm || !decide (u[i] ∈ ch l upX b)) := by
            rw [List.take_add_one, List.any_append, ← hsm, List.getElem?_eq_getElem hlt]
            simp
          have hho := holds_f hw u[i] b
          cases sm with
          | true =>
            (repeat (first | (apply v_move; exact rfl; exact rfl) | (apply v_assign; exact rfl; exact rfl) | refine run_seq ?_ | refine run_region ?_ | refine runL_nil ?_ | refine run_skip ?_ | refine run_block ?_ | refine run_inBlock ?_ | (apply v_off; exact rfl; exact rfl) | (apply v_pick_t; exact rfl; exact rfl; exact rfl) | (apply v_add; exact rfl; exact rfl; exact rfl; exact (by omega))))
            exact v_again ih (i + 1, true) idN trivial (by repeat (first | exact trivial | refine ⟨rfl, ?_⟩)) (by repeat (first | exact trivial | refine ⟨rfl, ?_⟩)) rfl ⟨by simp only; omega, by simp only; rw [hst]; rfl⟩ (by simp only; omega)
          | false =>
            (repeat (first | (apply v_idxL; exact slA rfl; exact tyA rfl; exact rfl; exact rfl; exact rfl; exact rfl; exact (by omega); (first | exact hx); exact rfl) | (apply v_cx; exact rfl; exact cbA rfl; (first | exact hho); exact rfl; exact rfl) | (apply v_move; exact rfl; exact rfl) | (apply v_assign; exact rfl; exact rfl) | refine run_seq ?_ | refine run_region ?_ | refine runL_nil ?_ | refine run_skip ?_ | refine run_block ?_ | refine run_inBlock ?_ | (apply v_loadA; exact tyA rfl; exact rfl; exact rfl; exact rfl; exact rfl; exact rfl; exact rfl) | (apply v_on; exact rfl) | (apply v_pick_f; exact rfl; exact rfl; exact rfl) | (apply v_not; exact rfl; exact rfl) | (apply v_add; exact rfl; exact rfl; exact rfl; exact (by omega))))
            exact v_again ih (i + 1, !decide (u[i] ∈ ch l upX b)) idN trivial (by repeat (first | exact trivial | refine ⟨rfl, ?_⟩)) (by repeat (first | exact trivial | refine ⟨rfl, ?_⟩)) rfl ⟨by simp only; omega, by simp only; rw [hst]; rfl⟩ (by simp only; omega)
        · have hge : i = u.length := by have : ¬ i < u.length := (by simpa using hb); omega
          rw [hge, List.take_length] at hsm
          clear ih
          cases hd with
          | true =>
            obtain ⟨r, h1, h2⟩ := hsome rfl
            have hst : sm = true := by
              rw [hsm, List.any_eq_true]
              exact ⟨r, h1, by simpa using h2⟩
            subst hst
            by_cases er : r0 ∈ ch l upX b
            · cases hroot er
            · rw [decide_eq_false er] at hrb
              (repeat (first | (apply v_cx; exact rfl; exact cbA rfl; (first | exact hhi | exact haa | exact hrt | exact hrb); exact rfl; exact rfl) | (apply v_move; exact rfl; exact rfl) | (apply v_assign; exact rfl; exact rfl) | refine run_seq ?_ | refine run_region ?_ | refine runL_nil ?_ | refine run_skip ?_ | (apply run_exit; exact rfl) | (apply v_on; exact rfl) | (apply v_off; exact rfl; exact rfl) | (apply v_pick_t; exact rfl; exact rfl; exact rfl) | (apply v_pick_f; exact rfl; exact rfl; exact rfl) | (apply run_cond; exact rfl; (focus (intro hb; cases hb; done)); intro hb; clear hb) | (apply v_not; exact rfl; exact rfl) | (apply v_neqB; exact boA rfl; exact rfl; exact rfl; exact rfl)))
              exact run_ret idN _ Try.func17 ⟨_, _, rfl, rfl, rfl⟩ rfl trivial trivial rfl
          | false =>
            by_cases er : r0 ∈ ch l upX b
            · rw [decide_eq_true er] at hrb
              cases sm with
              | true =>
                (repeat (first | (apply v_cx; exact rfl; exact cbA rfl; (first | exact hhi | exact haa | exact hrt | exact hrb); exact rfl; exact rfl) | (apply v_move; exact rfl; exact rfl) | (apply v_assign; exact rfl; exact rfl) | refine run_seq ?_ | refine run_region ?_ | refine runL_nil ?_ | refine run_skip ?_ | (apply run_exit; exact rfl) | (apply v_on; exact rfl) | (apply v_pick_t; exact rfl; exact rfl; exact rfl) | (apply v_pick_f; exact rfl; exact rfl; exact rfl) | (apply run_cond; exact rfl; (focus (intro hb; cases hb; done)); intro hb; clear hb) | (apply v_not; exact rfl; exact rfl) | (apply v_neqB; exact boA rfl; exact rfl; exact rfl; exact rfl)))
                exact run_ret idN _ Try.func17 ⟨_, _, rfl, rfl, rfl⟩ rfl trivial trivial rfl
              | false =>
                (repeat (first | (apply v_cx; exact rfl; exact cbA rfl; (first | exact hhi | exact haa | exact hrt | exact hrb); exact rfl; exact rfl) | (apply v_move; exact rfl; exact rfl) | (apply v_assign; exact rfl; exact rfl) | refine run_seq ?_ | refine run_region ?_ | refine runL_nil ?_ | refine run_skip ?_ | (apply run_exit; exact rfl) | (apply v_on; exact rfl) | (apply v_off; exact rfl; exact rfl) | (apply v_pick_t; exact rfl; exact rfl; exact rfl) | (apply v_pick_f; exact rfl; exact rfl; exact rfl) | (apply run_cond; exact rfl; (focus (intro hb; cases hb; done)); intro hb; clear hb) | (apply v_not; exact rfl; exact rfl) | (apply v_neqB; exact boA rfl; exact rfl; exact rfl; exact rfl)))
                exact run_ret idN _ Try.func17 ⟨_, _, rfl, rfl, rfl⟩ rfl trivial trivial rfl
            · rw [decide_eq_false er] at hrb
              cases sm with
              | true =>
                (repeat (first | (apply v_cx; exact rfl; exact cbA rfl; (first | exact hhi | exact haa | exact hrt | exact hrb); exact rfl; exact rfl) | (apply v_move; exact rfl; exact rfl) | (apply v_assign; exact rfl; exact rfl) | refine run_seq ?_ | refine run_region ?_ | refine runL_nil ?_ | refine run_skip ?_ | (apply run_exit; exact rfl) | (apply v_on; exact rfl) | (apply v_off; exact rfl; exact rfl) | (apply v_pick_t; exact rfl; exact rfl; exact rfl) | (apply run_cond; exact rfl; (focus (intro hb; cases hb; done)); intro hb; clear hb) | (apply v_not; exact rfl; exact rfl) | (apply v_neqB; exact boA rfl; exact rfl; exact rfl; exact rfl)))
                exact run_ret idN _ Try.func17 ⟨_, _, rfl, rfl, rfl⟩ rfl trivial trivial rfl
              | false =>
                (repeat (first | (apply v_cx; exact rfl; exact cbA rfl; (first | exact hhi | exact haa | exact hrt | exact hrb); exact rfl; exact rfl) | (apply v_move; exact rfl; exact rfl) | (apply v_assign; exact rfl; exact rfl) | refine run_seq ?_ | refine run_region ?_ | refine runL_nil ?_ | refine run_skip ?_ | (apply run_exit; exact rfl) | (apply v_on; exact rfl) | (apply v_off; exact rfl; exact rfl) | (apply v_pick_t; exact rfl; exact rfl; exact rfl) | (apply v_pick_f; exact rfl; exact rfl; exact rfl) | (apply run_cond; exact rfl; (focus (intro hb; cases hb; done)); intro hb; clear hb) | (apply v_not; exact rfl; exact rfl) | (apply v_neqB; exact boA rfl; exact rfl; exact rfl; exact rfl)))
                exact run_ret idN _ Try.func17 ⟨_, _, rfl, rfl, rfl⟩ rfl trivial trivial rfl
theorem shadeWhole_walk (A : Option Addr) (c0 : Nat) (xs : List Ac) (a b c : Int) (W : World) (hv : AVRs ι0 (old W) W [.sem (listS acE xs)] [.slice A xs.length c0]) (hs : ∀ x ∈ xs, AcStr x) (hm : xs.length ≤ 9223372036854775807) (w1 : (Lit.int .i64 a).wf = true) (w2 : (Lit.int .i64 b).wf = true) (w3 : (Lit.int .i64 c).wf = true) : Calls Try.prog 16 #[.slice A xs.length c0, .int .i64 a, .int .i64 b, .int .i64 c] W fun e w' => e = .returned (.bool true) ∧ Below W.heap.size W w' :=
  acts_walk (vs := [.int .i64 a, .int .i64 b, .int .i64 c]) hv (shadeWhole_f a b c hm hs)
theorem shadeHidden_walk (A : Option Addr) (c0 : Nat) (xs : List Ac) (a b : Int) (W : World) (hv : AVRs ι0 (old W) W [.sem (listS acE xs)] [.slice A xs.length c0]) (hs : ∀ x ∈ xs, AcStr x) (hm : xs.length ≤ 9223372036854775807) (w1 : (Lit.int .i64 a).wf = true) (w2 : (Lit.int .i64 b).wf = true) : Calls Try.prog 17 #[.slice A xs.length c0, .int .i64 a, .int .i64 b] W fun e w' => e = .returned (.bool true) ∧ Below W.heap.size W w' :=
  acts_walk (vs := [.int .i64 a, .int .i64 b]) hv (shadeHidden_f a b hm hs)
end Go.Proofs.Ytjkidecaciomgaa
