/- Law 09: awake, SlotOnce, SlotFlat. -/
import Derived.Test.YtjkidecaciomgaaLaC09
import Derived.Test.YtjkidecaciomgaaSl4
import Derived.Test.YtjkidecaciomgaaRf8
import Derived.Test.YtjkidecaciomgaaFoE
import Derived.Test.YtjkidecaciomgaaKinPlW
namespace Go.Proofs.Ytjkidecaciomgaa
set_option linter.unusedVariables false
set_option linter.unusedSimpArgs false
set_option maxRecDepth 100000
open Go.RowKit

def ndL : Nd := { nd0 with kind := 2, slot := true }
def ex09 : List Ac := [acN ndE, acN ndE, acN (ndS 1), acN ndL, acP 1 [2], acT 1 3, acP 3 [4]]
def fo09 : List Nd := [{ ndE with kids := [2], shadow := 3 }, { ndE with parent := 1 }, { ndS 1 with host := 1, kids := [4] }, { ndL with parent := 3 }]
theorem ok09 : (∀ x ∈ ex09, AcOk x) ∧ nodesM ex09 = fo09 ∧ WF fo09 := nodes_ex (by decide) (by kernel_rfl)
theorem awake09 : Fun Try.prog 100 [] [] (.v (.bool true)) [] := by
  have hm := made09 (xs := ex09) (by decide) ok09.1
  rw [ok09.2.1] at hm
  have hw := ok09.2.2
  have h1 := of_f hw 2
  rw [show ofM fo09 2 = 4 by kernel_rfl] at h1
  have h2 := assigned_p hw 4
  rw [show assignedM fo09 4 = [2] by kernel_rfl] at h2
  have h3 := ints_f (xs := [2]) (ys := [2]) (by decide)
  rw [show decide (([2] : List Int) = [2]) = true by decide] at h3
  refine fun_intro 28 Try.func100 rfl rfl rfl (fun ι F S w => ?_)
  (repeat (first | (apply v_assign; exact rfl; exact rfl) | refine run_seq ?_ | refine run_region ?_ | refine runL_nil ?_ | (apply v_loadB; exact tyA rfl; exact rfl; exact rfl; exact rfl; exact rfl; exact rfl; exact rfl) | (apply v_allocD; exact tyA rfl; exact rfl; exact rfl; exact rfl; exact rfl) | (apply v_storeW; exact tyA rfl; exact rfl; exact rfl; exact rfl; exact rfl; exact rfl; exact rfl; exact rfl) | (apply v_b; exact plA rfl; exact tyA rfl; exact rfl; exact rfl; exact rfl)))
  refine v_l intE [2] (slA rfl) (tyA rfl) rfl rfl rfl rfl rfl rfl rfl rfl rfl rfl ?_
  (repeat (first | (apply v_b; exact plA rfl; exact tyA rfl; exact rfl; exact rfl; exact rfl)))
  refine v_l intE [4] (slA rfl) (tyA rfl) rfl rfl rfl rfl rfl rfl rfl rfl rfl rfl ?_
  (repeat (first | (apply v_b; exact plA rfl; exact tyA rfl; exact rfl; exact rfl; exact rfl)))
  refine runL_le 5 rfl (y := .agg (acE.f (acN ndE))) (Le.agg (by repeat (first | exact trivial | refine ⟨Le.refl, ?_⟩ | refine ⟨Le.nil, ?_⟩))) ?_
  refine runL_le 7 rfl (y := .agg (acE.f (acN ndE))) (Le.agg (by repeat (first | exact trivial | refine ⟨Le.refl, ?_⟩ | refine ⟨Le.nil, ?_⟩))) ?_
  refine runL_le 9 rfl (y := .agg (acE.f (acN (ndS 1)))) (Le.agg (by repeat (first | exact trivial | refine ⟨Le.refl, ?_⟩ | refine ⟨Le.nil, ?_⟩))) ?_
  refine runL_le 11 rfl (y := .agg (acE.f (acN ndL))) (Le.agg (by repeat (first | exact trivial | refine ⟨Le.refl, ?_⟩ | refine ⟨Le.nil, ?_⟩))) ?_
  refine runL_le 13 rfl (y := .agg (acE.f (acP 1 [2]))) (Le.agg (by repeat (first | exact trivial | refine ⟨Le.refl, ?_⟩ | refine ⟨Le.nil, ?_⟩))) ?_
  refine runL_le 14 rfl (y := .agg (acE.f (acT 1 3))) (Le.agg (by repeat (first | exact trivial | refine ⟨Le.refl, ?_⟩ | refine ⟨Le.nil, ?_⟩))) ?_
  refine runL_le 16 rfl (y := .agg (acE.f (acP 3 [4]))) (Le.agg (by repeat (first | exact trivial | refine ⟨Le.refl, ?_⟩ | refine ⟨Le.nil, ?_⟩))) ?_
  refine v_l acE ex09 (slA rfl) (tyA rfl) rfl rfl rfl rfl rfl rfl rfl rfl rfl rfl ?_
  (repeat (first | (apply v_cx; exact rfl; exact cbA rfl; (first | exact hm | exact h1 | exact h2); exact rfl; exact rfl) | (apply v_move; exact rfl; exact rfl) | (apply v_assign; exact rfl; exact rfl) | refine run_seq ?_ | refine run_region ?_ | refine runL_nil ?_ | (apply v_on; exact rfl) | (apply v_eql; exact rfl; exact rfl; exact rfl)))
  refine v_l intE [2] (slA rfl) (tyA rfl) rfl rfl rfl rfl rfl rfl rfl rfl rfl rfl ?_
  (repeat (first | (apply v_cx; exact rfl; exact cbA rfl; (first | exact h3); exact rfl; exact rfl) | (apply v_assign; exact rfl; exact rfl) | refine runL_nil ?_ | (apply v_on; exact rfl) | (apply v_pick_t; exact rfl; exact rfl; exact rfl)))
  exact run_ret idN _ Try.func100 ⟨_, _, rfl, rfl, rfl⟩ rfl trivial trivial rfl
theorem asg_idx {l : List Nd} (h : WF l) {s a b : Int} {i : Nat} (ha : (assignedM l s)[i]? = some a) (hb : (assignedM l s)[i + 1]? = some b) : indexM l a < indexM l b := by
  obtain ⟨p, n, hp, hk, hn, hnp, _⟩ := asg_kid h (List.mem_of_getElem? ha)
  obtain ⟨p', n', hp', hk', hn', hnp', _⟩ := asg_kid h (List.mem_of_getElem? hb)
  rw [hp] at hp'
  cases hp'
  have hp0 : hostM l s ≠ 0 := by have := nodeAt_some hp; omega
  have ia : indexM l a = (p.kids.idxOf a : Nat) := by
    rw [indexM, sibs, nodeR_some hn, hnp, if_neg hp0, if_neg hp0, nodeR_some hp, idxI, if_pos hk]
  have ib : indexM l b = (p.kids.idxOf b : Nat) := by
    rw [indexM, sibs, nodeR_some hn', hnp', if_neg hp0, if_neg hp0, nodeR_some hp, idxI, if_pos hk']
  have hpw := (nodup_pair (h.nod hp)).sublist (List.filter_sublist (p := fun x => !(delC l s x)))
  have e : assignedM l s = p.kids.filter fun x => !(delC l s x) := by rw [assignedM, hp]
  rw [← e] at hpw
  rw [List.pairwise_iff_getElem] at hpw
  obtain ⟨h1, e1⟩ := List.getElem?_eq_some_iff.1 ha
  obtain ⟨h2, e2⟩ := List.getElem?_eq_some_iff.1 hb
  have := hpw i (i + 1) h1 h2 (by omega)
  rw [e1, e2] at this
  omega
theorem exp_ok {l : List Nd} (h : WF l) : ∀ (n : Nat) (s : Int), deepM l s < n → shownB l s = true → ∀ c ∈ expN l n s, ∃ x, nodeAt l c = some x ∧ x.kind = 2 ∧ shownB l c = false
  | 0, s, hd, _, _, _ => by omega
  | n + 1, s, hd, hs, c, hc => by
    rw [expN, if_pos hs] at hc
    obtain ⟨e, he, hc⟩ := List.mem_flatMap.1 hc
    by_cases hse : shownB l e = true
    · exact exp_ok h n e (by have := deep_once h he; omega) hse c hc
    · have hse := Bool.eq_false_iff.2 hse
      rw [exp_not hse, List.mem_singleton] at hc
      subst hc
      obtain ⟨x, hx⟩ := once_there h he
      have hk := once_elem h he
      rw [nodeR_some hx] at hk
      exact ⟨x, hx, hk, hse⟩
theorem flat_ok {l : List Nd} (h : WF l) (s : Int) : (∀ c ∈ flatM l s, ∃ x r, nodeAt l c = some x ∧ nodeAt l (rootM l c) = some r ∧ x.kind = 2 ∧ (x.slot && decide (r.kind = 3)) = false) ∧ (flatM l s ≠ [] → (nodeR l s).slot = true) ∧ (flatM l s).length ≤ 128 := by
  unfold flatM
  by_cases hs : shownB l s = true
  · rw [if_pos hs]
    refine ⟨fun c hc => ?_, fun _ => ?_, exp_len h _ (shown_there hs)⟩
    · obtain ⟨x, hx, hk, hsh⟩ := exp_ok h 30000 s (deep_max h s) hs c hc
      obtain ⟨r, hr, _⟩ := root_some h hx
      refine ⟨x, r, hx, hr, hk, ?_⟩
      rw [shownB, nodeR_some hx, nodeR_some hr] at hsh
      exact hsh
    · rw [shownB, Bool.and_eq_true] at hs
      exact hs.1
  · rw [if_neg hs]
    exact ⟨fun c hc => (by cases hc), fun e => absurd rfl e, by simp⟩
theorem slotFlat_f {xs : List Ac} (id : Int) (hm : xs.length ≤ 9223372036854775807) (hs : ∀ x ∈ xs, AcStr x) : Fun Try.prog 21 [.sem (listS acE xs), .v (.int .i64 id)] [] (.v (.bool true)) [] := by
  have hgr := great09 hm
  cases hg : greatM xs with
  | true =>
    rw [hg] at hgr
    refine fun_intro 83 Try.func21 rfl rfl rfl (fun ι F S w => ?_)
    (repeat (first | (apply v_cx; exact rfl; exact cbA rfl; (first | exact awake09 | exact hgr); exact rfl; exact rfl) | (apply v_move; exact rfl; exact rfl) | (apply v_assign; exact rfl; exact rfl) | refine run_seq ?_ | refine run_region ?_ | refine runL_nil ?_ | refine run_skip ?_ | (apply run_cond; exact rfl; rotate_left; (focus (intro hb; cases hb; done)); intro hb; clear hb) | (apply run_cond; exact rfl; (focus (intro hb; cases hb; done)); intro hb; clear hb) | (apply v_not; exact rfl; exact rfl)))
    exact run_ret idN _ Try.func21 ⟨_, _, rfl, rfl, rfl⟩ rfl trivial trivial rfl
  | false =>
    rw [hg] at hgr
    obtain ⟨hl, hx⟩ := acts_ok hg fun x hx => ⟨(hs x hx).s, (hs x hx).name, (hs x hx).want⟩
    have hw := wf_nodes hx
    have hmade := made09 hl hx
    generalize nodesM xs = l at hw hmade
    have hfl := flat_p hw id
    have hn := node_w hw id
    obtain ⟨hok, hne, hlen⟩ := flat_ok hw id
    generalize flatM l id = u at *
    generalize nodeR l id = n at *
    generalize (nodeAt l id).isSome = ok at *
    refine fun_intro 83 Try.func21 rfl rfl rfl (fun ι F S w => ?_)
    apply via3
    rotate_left
    · intro key
      by_cases h0 : u = []
      · (repeat (first | (apply v_cx; exact rfl; exact cbA rfl; (first | exact awake09 | exact hgr | exact hmade | exact hfl | exact hn); exact rfl; exact rfl) | (apply v_move; exact rfl; exact rfl) | (apply v_assign; exact rfl; exact rfl) | refine run_seq ?_ | refine run_region ?_ | refine runL_nil ?_ | refine run_skip ?_ | (apply v_extract; exact rfl; exact rfl; exact rfl) | (apply run_cond; exact rfl; (focus (intro hb; cases hb; done)); intro hb; clear hb) | (apply v_not; exact rfl; exact rfl) | (apply v_gtr; exact rfl; exact rfl; exact rfl) | (apply v_lenL; exact slA rfl; exact rfl; exact rfl) | (apply v_allocD; exact tyA rfl; exact rfl; exact rfl; exact rfl; exact rfl) | (apply v_storeW; exact tyA rfl; exact rfl; exact rfl; exact rfl; exact rfl; exact rfl; exact rfl; exact rfl)))
        refine v_is 32 false rfl (by rw [h0]; rfl) ?_
        (repeat (first | (apply v_assign; exact rfl; exact rfl) | refine run_seq ?_ | refine run_region ?_ | refine runL_nil ?_ | refine run_skip ?_ | refine run_block ?_ | (apply v_off; exact rfl; exact rfl) | (apply v_pick_f; exact rfl; exact rfl; exact rfl) | (apply run_cond; exact rfl; (focus (intro hb; cases hb; done)); intro hb; clear hb)))
        refine run_weak idN (σ2 := ⟨[(5, forA l), (6, .sem (listS intE u)), (9, .v (.int .i64 0))], []⟩) ?_ ?_ ?_ ?_ key.out <;> first | exact trivial | exact ⟨rfl, rfl, rfl, trivial⟩ | rfl
      · have hpos : 0 < u.length := List.length_pos_iff.2 h0
        have hsl := hne h0
        (repeat (first | (apply v_cx; exact rfl; exact cbA rfl; (first | exact awake09 | exact hgr | exact hmade | exact hfl | exact hn); exact rfl; exact rfl) | (apply v_move; exact rfl; exact rfl) | (apply v_assign; exact rfl; exact rfl) | refine run_seq ?_ | refine run_region ?_ | refine runL_nil ?_ | refine run_skip ?_ | (apply v_extract; exact rfl; exact rfl; exact rfl) | (apply run_cond; exact rfl; (focus (intro hb; cases hb; done)); intro hb; clear hb) | (apply v_not; exact rfl; exact rfl) | (apply v_gtr; exact rfl; exact rfl; exact rfl) | (apply v_lenL; exact slA rfl; exact rfl; exact rfl) | (apply v_allocD; exact tyA rfl; exact rfl; exact rfl; exact rfl; exact rfl) | (apply v_storeW; exact tyA rfl; exact rfl; exact rfl; exact rfl; exact rfl; exact rfl; exact rfl; exact rfl)))
        refine v_is 32 true rfl (by rw [decide_eq_true_iff]; omega) ?_
        (repeat (first | refine runL_nil ?_ | (apply v_fldP; exact flA rfl; exact rfl; exact rfl; exact rfl) | (apply v_loadB; exact tyA rfl; exact rfl; exact rfl; exact rfl; exact rfl; exact rfl; exact rfl) | (apply v_on; exact rfl) | (apply v_pick_t; exact rfl; exact rfl; exact rfl) | (apply v_not; exact rfl; exact rfl)))
        refine run_condN rfl (by rw [hsl]; rfl) ?_
        (repeat (first | (apply v_assign; exact rfl; exact rfl) | refine run_seq ?_ | refine run_region ?_ | refine runL_nil ?_ | refine run_skip ?_ | refine run_block ?_))
        refine run_weak idN (σ2 := ⟨[(5, forA l), (6, .sem (listS intE u)), (9, .v (.int .i64 0))], []⟩) ?_ ?_ ?_ ?_ key.out <;> first | exact trivial | exact ⟨rfl, rfl, rfl, trivial⟩ | rfl
    · refine v_loop (fun i : Nat => ⟨[(5, forA l), (6, .sem (listS intE u)), (9, .v (.int .i64 i))], []⟩) (fun i => i ≤ u.length) (fun i => u.length - i) 0 idN trivial (by repeat (first | exact trivial | refine ⟨rfl, ?_⟩)) (by repeat (first | exact trivial | refine ⟨rfl, ?_⟩)) rfl (by omega) fun i hi ih => ?_
      (repeat (first | (apply v_move; exact rfl; exact rfl) | refine run_seq ?_ | refine run_region ?_ | refine runL_nil ?_ | (apply v_lss; exact rfl; exact rfl; exact rfl) | (apply v_lenL; exact slA rfl; exact rfl; exact rfl)))
      refine run_cond rfl (fun hb => ?_) (fun hb => ?_)
      · have hlt : i < u.length := by simpa using hb
        have hxu : u[((i : Int)).toNat]? = some u[i] := by simp [hlt]
        obtain ⟨x, r, hx, hr, hk, hsh⟩ := hok _ (List.getElem_mem hlt)
        generalize u[i] = c at *
        have hrt := root_f hw c
        generalize rootM l c = R at *
        (repeat (first | (apply v_idxL; exact slA rfl; exact tyA rfl; exact rfl; exact rfl; exact rfl; exact rfl; exact (by omega); (first | exact hxu); exact rfl) | (apply v_cx; exact rfl; exact cbA rfl; (first | exact node_s hw hx | exact hrt | exact node_s hw hr); exact rfl; exact rfl) | (apply v_move; exact rfl; exact rfl) | (apply v_assign; exact rfl; exact rfl) | refine run_seq ?_ | refine run_region ?_ | refine runL_nil ?_ | refine run_skip ?_ | refine run_block ?_ | (apply v_extract; exact rfl; exact rfl; exact rfl) | (apply v_fldP; exact flA rfl; exact rfl; exact rfl; exact rfl) | (apply v_loadB; exact tyA rfl; exact rfl; exact rfl; exact rfl; exact rfl; exact rfl; exact rfl) | (apply v_loadA; exact tyA rfl; exact rfl; exact rfl; exact rfl; exact rfl; exact rfl; exact rfl) | (apply v_on; exact rfl) | (apply v_pick_f; exact rfl; exact rfl; exact rfl) | (apply v_not; exact rfl; exact rfl) | (apply v_neq; exact rfl; exact rfl; exact rfl) | (apply v_allocD; exact tyA rfl; exact rfl; exact rfl; exact rfl; exact rfl) | (apply v_storeW; exact tyA rfl; exact rfl; exact rfl; exact rfl; exact rfl; exact rfl; exact rfl; exact rfl)))
        refine v_is 74 false rfl (by simpa using hk) ?_
        (repeat (first | (apply v_move; exact rfl; exact rfl) | (apply v_fldP; exact flA rfl; exact rfl; exact rfl; exact rfl) | (apply v_loadB; exact tyA rfl; exact rfl; exact rfl; exact rfl; exact rfl; exact rfl; exact rfl) | (apply v_on; exact rfl)))
        by_cases hsl : x.slot = true
        · refine v_is 77 true rfl hsl ?_
          (repeat (first | refine runL_nil ?_ | (apply v_fldP; exact flA rfl; exact rfl; exact rfl; exact rfl) | (apply v_loadB; exact tyA rfl; exact rfl; exact rfl; exact rfl; exact rfl; exact rfl; exact rfl) | (apply v_on; exact rfl) | (apply v_pick_t; exact rfl; exact rfl; exact rfl) | (apply v_pick_f; exact rfl; exact rfl; exact rfl) | (apply v_eql; exact rfl; exact rfl; exact rfl)))
          refine run_condN rfl (by rw [hsl, Bool.true_and] at hsh; exact hsh) ?_
          (repeat (first | (apply v_move; exact rfl; exact rfl) | (apply v_assign; exact rfl; exact rfl) | refine run_region ?_ | refine runL_nil ?_ | refine run_skip ?_ | refine run_inBlock ?_ | (apply v_add; exact rfl; exact rfl; exact rfl; exact (by omega))))
          exact v_again ih (i + 1) idN trivial (by repeat (first | exact trivial | refine ⟨rfl, ?_⟩)) (by repeat (first | exact trivial | refine ⟨rfl, ?_⟩)) rfl (by omega) (by omega)
        · refine v_is 77 false rfl (Bool.eq_false_iff.2 hsl) ?_
          (repeat (first | (apply v_move; exact rfl; exact rfl) | (apply v_assign; exact rfl; exact rfl) | refine run_region ?_ | refine runL_nil ?_ | refine run_skip ?_ | refine run_inBlock ?_ | (apply v_on; exact rfl) | (apply v_off; exact rfl; exact rfl) | (apply v_pick_f; exact rfl; exact rfl; exact rfl) | (apply run_cond; exact rfl; (focus (intro hb; cases hb; done)); intro hb; clear hb) | (apply v_add; exact rfl; exact rfl; exact rfl; exact (by omega))))
          exact v_again ih (i + 1) idN trivial (by repeat (first | exact trivial | refine ⟨rfl, ?_⟩)) (by repeat (first | exact trivial | refine ⟨rfl, ?_⟩)) rfl (by omega) (by omega)
      · (repeat (first | (apply v_assign; exact rfl; exact rfl) | refine run_seq ?_ | refine run_region ?_ | refine runL_nil ?_ | (apply run_exit; exact rfl)))
        exact run_ret idN _ Try.func21 ⟨_, _, rfl, rfl, rfl⟩ rfl trivial trivial rfl
theorem slotOnce_f {xs : List Ac} (id : Int) (hm : xs.length ≤ 9223372036854775807) (hs : ∀ x ∈ xs, AcStr x) : Fun Try.prog 19 [.sem (listS acE xs), .v (.int .i64 id)] [] (.v (.bool true)) [] := by
  have hgr := great09 hm
  cases hg : greatM xs with
  | true =>
    rw [hg] at hgr
    refine fun_intro 104 Try.func19 rfl rfl rfl (fun ι F S w => ?_)
    (repeat (first | (apply v_cx; exact rfl; exact cbA rfl; (first | exact awake09 | exact hgr); exact rfl; exact rfl) | (apply v_move; exact rfl; exact rfl) | (apply v_assign; exact rfl; exact rfl) | refine run_seq ?_ | refine run_region ?_ | refine runL_nil ?_ | refine run_skip ?_ | (apply run_cond; exact rfl; rotate_left; (focus (intro hb; cases hb; done)); intro hb; clear hb) | (apply run_cond; exact rfl; (focus (intro hb; cases hb; done)); intro hb; clear hb) | (apply v_not; exact rfl; exact rfl)))
    exact run_ret idN _ Try.func19 ⟨_, _, rfl, rfl, rfl⟩ rfl trivial trivial rfl
  | false =>
    rw [hg] at hgr
    obtain ⟨hl, hx⟩ := acts_ok hg fun x hx => ⟨(hs x hx).s, (hs x hx).name, (hs x hx).want⟩
    have hw := wf_nodes hx
    have hmade := made09 hl hx
    generalize nodesM xs = l at hw hmade
    have hof := of_f hw id
    have hiff : ∀ s, s ≠ 0 → decide (id ∈ assignedM l s) = (ofM l id == s) := fun s h0 => by
      rw [Bool.eq_iff_iff, decide_eq_true_iff, asg_iff hw, beq_iff_eq]
      exact ⟨fun e => e.2, fun e => ⟨h0, e⟩⟩
    generalize ofM l id = mine at *
    have hlen := hw.len
    have hle := len_f (l := l)
    refine fun_intro 104 Try.func19 rfl rfl rfl (fun ι F S w => ?_)
    (repeat (first | (apply v_cx; exact rfl; exact cbA rfl; (first | exact awake09 | exact hgr | exact hmade | exact hof); exact rfl; exact rfl) | (apply v_move; exact rfl; exact rfl) | (apply v_assign; exact rfl; exact rfl) | refine run_seq ?_ | refine run_region ?_ | refine runL_nil ?_ | refine run_skip ?_ | refine run_block ?_ | (apply run_cond; exact rfl; (focus (intro hb; cases hb; done)); intro hb; clear hb) | (apply v_not; exact rfl; exact rfl)))
    refine v_loop (fun k : Nat => ⟨[(1, .v (.int .i64 id)), (5, forA l), (6, .v (.int .i64 mine)), (7, .v (.int .i64 k))], []⟩) (fun k => 1 ≤ k ∧ k ≤ l.length + 1) (fun k => l.length + 1 - k) 1 idN trivial (by repeat (first | exact trivial | refine ⟨rfl, ?_⟩)) (by repeat (first | exact trivial | refine ⟨rfl, ?_⟩)) rfl ⟨by omega, by omega⟩ fun k ⟨hk1, hk⟩ ih => ?_
    (repeat (first | (apply v_cx; exact rfl; exact cbA rfl; (first | exact hle); exact rfl; exact rfl) | (apply v_move; exact rfl; exact rfl) | refine run_seq ?_ | refine run_region ?_ | (apply v_leq; exact rfl; exact rfl; exact rfl)))
    by_cases hb : k ≤ l.length
    · refine v_is 27 true rfl (by rw [decide_eq_true_iff]; omega) ?_
      (repeat (first | (apply v_move; exact rfl; exact rfl) | refine runL_nil ?_ | (apply v_on; exact rfl) | (apply v_pick_t; exact rfl; exact rfl; exact rfl) | (apply v_leq; exact rfl; exact rfl; exact rfl)))
      refine run_condY rfl (by rw [decide_eq_true_iff]; omega) ?_
      have has := assigned_p hw k
      have hal := assigned_there hw k
      have hhas := has_r (xs := assignedM l k) id hal
      rw [hiff k (by omega)] at hhas
      have hin : ∀ c ∈ assignedM l k, ∃ x r, nodeAt l c = some x ∧ nodeAt l (rootM l k) = some r ∧ r.kind = 3 ∧ x.parent = r.host := fun c hc => by
        obtain ⟨p, n, hp, hkk, hn, hnp, _⟩ := asg_kid hw hc
        have hh := host_ok hw k
        have h0 : hostM l k ≠ 0 := by have := nodeAt_some hp; omega
        have hkd := (hh.resolve_left h0).1
        cases hr : nodeAt l (rootM l k) with
        | none => rw [nodeR_none hr] at hkd; exact absurd hkd (by simp [nd0])
        | some r =>
          rw [nodeR_some hr] at hkd
          exact ⟨n, r, hn, rfl, hkd, by rw [hnp, hostM, nodeR_some hr]⟩
      have hix : ∀ i a b, (assignedM l k)[i]? = some a → (assignedM l k)[i + 1]? = some b → indexM l a < indexM l b := fun i a b ha hb => asg_idx hw ha hb
      have hrt := root_f hw k
      generalize assignedM l k = u at *
      generalize rootM l k = R at *
      (repeat (first | (apply v_cx; exact rfl; exact cbA rfl; (first | exact has | exact hhas); exact rfl; exact rfl) | (apply v_move; exact rfl; exact rfl) | (apply v_assign; exact rfl; exact rfl) | refine run_seq ?_ | refine run_region ?_ | refine runL_nil ?_ | refine run_skip ?_ | refine run_block ?_ | (apply v_eql; exact rfl; exact rfl; exact rfl) | (apply v_neqB; exact boA rfl; exact rfl; exact rfl; exact rfl)))
      refine run_condN rfl (by simp) ?_
      (repeat (first | (apply v_assign; exact rfl; exact rfl) | refine run_seq ?_ | refine run_region ?_ | refine runL_nil ?_ | refine run_skip ?_ | refine run_block ?_))
      refine v_loop (fun i : Nat => ⟨[(1, .v (.int .i64 id)), (5, forA l), (6, .v (.int .i64 mine)), (7, .v (.int .i64 k)), (8, .sem (listS intE u)), (9, .v (.int .i64 i))], []⟩) (fun i => i ≤ u.length) (fun i => u.length - i) 0 idN trivial (by repeat (first | exact trivial | refine ⟨rfl, ?_⟩)) (by repeat (first | exact trivial | refine ⟨rfl, ?_⟩)) rfl (by omega) fun i hi ih2 => ?_
      (repeat (first | (apply v_move; exact rfl; exact rfl) | refine run_seq ?_ | refine run_region ?_ | refine runL_nil ?_ | (apply v_lss; exact rfl; exact rfl; exact rfl) | (apply v_lenL; exact slA rfl; exact rfl; exact rfl)))
      refine run_cond rfl (fun hb2 => ?_) (fun hb2 => ?_)
      · have hlt : i < u.length := by simpa using hb2
        have hxu : u[((i : Int)).toNat]? = some u[i] := by simp [hlt]
        obtain ⟨x, r, hx, hr, hk3, hpar⟩ := hin _ (List.getElem_mem hlt)
        have hprev : 0 < i → ∃ a, u[((i : Int) - 1).toNat]? = some a ∧ indexM l a < indexM l u[i] := fun h0 => ⟨u[i - 1]'(by omega), by rw [show ((i : Int) - 1).toNat = i - 1 by omega, List.getElem?_eq_getElem], hix (i - 1) _ _ (List.getElem?_eq_getElem (by omega)) (by rw [show i - 1 + 1 = i by omega]; exact List.getElem?_eq_getElem hlt)⟩
        generalize u[i] = c at *
        (repeat (first | (apply v_idxL; exact slA rfl; exact tyA rfl; exact rfl; exact rfl; exact rfl; exact rfl; exact (by omega); (first | exact hxu); exact rfl) | (apply v_cx; exact rfl; exact cbA rfl; (first | exact node_s hw hx | exact hrt | exact node_s hw hr); exact rfl; exact rfl) | (apply v_move; exact rfl; exact rfl) | (apply v_assign; exact rfl; exact rfl) | refine run_seq ?_ | refine run_region ?_ | refine runL_nil ?_ | refine run_skip ?_ | refine run_block ?_ | (apply v_extract; exact rfl; exact rfl; exact rfl) | (apply v_loadA; exact tyA rfl; exact rfl; exact rfl; exact rfl; exact rfl; exact rfl; exact rfl) | (apply v_allocD; exact tyA rfl; exact rfl; exact rfl; exact rfl; exact rfl) | (apply v_storeW; exact tyA rfl; exact rfl; exact rfl; exact rfl; exact rfl; exact rfl; exact rfl; exact rfl)))
        refine run_draws (by kernel_rfl) (by kernel_rfl) ?_
        (repeat (first | (apply p_move; exact rfl; exact rfl; exact rfl) | (apply p_fldP; exact flA rfl; exact rfl; exact rfl; exact rfl; exact rfl) | (apply p_loadB; exact tyA rfl; exact rfl; exact rfl; exact rfl; exact rfl; exact rfl; exact rfl; exact rfl) | (apply p_pick_f; exact rfl; exact rfl; exact rfl; exact rfl) | (apply p_not; exact rfl; exact rfl; exact rfl) | (apply p_neq; exact rfl; exact rfl; exact rfl; exact rfl)))
        refine p_is 77 false rfl (by simpa using hk3) ?_
        (repeat (first | (apply p_move; exact rfl; exact rfl; exact rfl) | (apply p_fldP; exact flA rfl; exact rfl; exact rfl; exact rfl; exact rfl) | (apply p_loadB; exact tyA rfl; exact rfl; exact rfl; exact rfl; exact rfl; exact rfl; exact rfl; exact rfl) | (apply p_pick_f; exact rfl; exact rfl; exact rfl; exact rfl) | (apply p_neq; exact rfl; exact rfl; exact rfl; exact rfl)))
        refine p_is 84 false rfl (by simpa using hpar) ?_
        (repeat (first | (apply p_move; exact rfl; exact rfl; exact rfl) | (apply p_gtr; exact rfl; exact rfl; exact rfl; exact rfl)))
        by_cases h0 : i = 0
        · refine p_is 87 false rfl (by rw [decide_eq_false_iff_not]; omega) ?_
          (repeat (first | (apply p_off; exact rfl; exact rfl) | (apply p_pick_f; exact rfl; exact rfl; exact rfl; exact rfl)))
          refine planL_nil (by kernel_rfl) ?_
          (repeat (first | (apply v_move; exact rfl; exact rfl) | (apply v_assign; exact rfl; exact rfl) | refine run_region ?_ | refine runL_nil ?_ | refine run_skip ?_ | refine run_inBlock ?_ | (apply run_cond; exact rfl; (focus (intro hb; cases hb; done)); intro hb; clear hb) | (apply v_add; exact rfl; exact rfl; exact rfl; exact (by omega))))
          exact v_again ih2 (i + 1) idN trivial (by repeat (first | exact trivial | refine ⟨rfl, ?_⟩)) (by repeat (first | exact trivial | refine ⟨rfl, ?_⟩)) rfl (by omega) (by omega)
        · obtain ⟨a, ha, hlt2⟩ := hprev (by omega)
          have i1 := index_k hw a
          have i2 := index_k hw c
          refine p_is 87 true rfl (by rw [decide_eq_true_iff]; omega) ?_
          (repeat (first | (apply p_idxL; exact slA rfl; exact tyA rfl; exact rfl; exact rfl; exact rfl; exact rfl; exact (by omega); (first | exact ha | exact hxu); exact rfl; exact rfl) | (apply p_cx; exact rfl; exact cbA rfl; (first | exact i1 | exact i2); exact rfl; exact rfl; exact rfl) | (apply p_move; exact rfl; exact rfl; exact rfl) | (apply p_loadA; exact tyA rfl; exact rfl; exact rfl; exact rfl; exact rfl; exact rfl; exact rfl; exact rfl) | (apply p_pick_t; exact rfl; exact rfl; exact rfl; exact rfl) | (apply p_pick_f; exact rfl; exact rfl; exact rfl; exact rfl) | (apply p_geq; exact rfl; exact rfl; exact rfl; exact rfl) | (apply p_sub; exact rfl; exact rfl; exact rfl; exact (by omega); exact rfl)))
          refine planL_nil (by kernel_rfl) ?_
          refine run_condN rfl (by rw [decide_eq_false_iff_not]; omega) ?_
          (repeat (first | (apply v_move; exact rfl; exact rfl) | (apply v_assign; exact rfl; exact rfl) | refine run_region ?_ | refine runL_nil ?_ | refine run_skip ?_ | refine run_inBlock ?_ | (apply v_add; exact rfl; exact rfl; exact rfl; exact (by omega))))
          exact v_again ih2 (i + 1) idN trivial (by repeat (first | exact trivial | refine ⟨rfl, ?_⟩)) (by repeat (first | exact trivial | refine ⟨rfl, ?_⟩)) rfl (by omega) (by omega)
      · (repeat (first | (apply v_move; exact rfl; exact rfl) | (apply v_assign; exact rfl; exact rfl) | refine run_region ?_ | refine runL_nil ?_ | refine run_inBlock ?_ | (apply run_exit; exact rfl) | (apply v_add; exact rfl; exact rfl; exact rfl; exact (by omega))))
        exact v_again ih (k + 1) idN trivial (by repeat (first | exact trivial | refine ⟨rfl, ?_⟩)) (by repeat (first | exact trivial | refine ⟨rfl, ?_⟩)) rfl ⟨by omega, by omega⟩ (by omega)
    · refine v_is 27 false rfl (by rw [decide_eq_false_iff_not]; omega) ?_
      (repeat (first | (apply v_assign; exact rfl; exact rfl) | refine run_seq ?_ | refine run_region ?_ | refine runL_nil ?_ | (apply run_exit; exact rfl) | (apply v_off; exact rfl; exact rfl) | (apply v_pick_f; exact rfl; exact rfl; exact rfl) | (apply run_cond; exact rfl; (focus (intro hb; cases hb; done)); intro hb; clear hb)))
      exact run_ret idN _ Try.func19 ⟨_, _, rfl, rfl, rfl⟩ rfl trivial trivial rfl
theorem slotFlat_walk (A : Option Addr) (c0 : Nat) (xs : List Ac) (id : Int) (W : World) (hv : AVRs ι0 (old W) W [.sem (listS acE xs)] [.slice A xs.length c0]) (hs : ∀ x ∈ xs, AcStr x) (hm : xs.length ≤ 9223372036854775807) (w1 : (Lit.int .i64 id).wf = true) : Calls Try.prog 21 #[.slice A xs.length c0, .int .i64 id] W fun e w' => e = .returned (.bool true) ∧ Below W.heap.size W w' :=
  acts_walk (vs := [.int .i64 id]) hv (slotFlat_f id hm hs)
theorem slotOnce_walk (A : Option Addr) (c0 : Nat) (xs : List Ac) (id : Int) (W : World) (hv : AVRs ι0 (old W) W [.sem (listS acE xs)] [.slice A xs.length c0]) (hs : ∀ x ∈ xs, AcStr x) (hm : xs.length ≤ 9223372036854775807) (w1 : (Lit.int .i64 id).wf = true) : Calls Try.prog 19 #[.slice A xs.length c0, .int .i64 id] W fun e w' => e = .returned (.bool true) ∧ Below W.heap.size W w' :=
  acts_walk (vs := [.int .i64 id]) hv (slotOnce_f id hm hs)
end Go.Proofs.Ytjkidecaciomgaa
