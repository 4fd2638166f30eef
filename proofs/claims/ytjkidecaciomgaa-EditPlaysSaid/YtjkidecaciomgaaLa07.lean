/- Law 07: awake, EditOrder, EditBack. -/
import Derived.Test.YtjkidecaciomgaaLaC07
import Derived.Test.YtjkidecaciomgaaBQ
import Derived.Test.YtjkidecaciomgaaBE
import Derived.Test.YtjkidecaciomgaaFoE
import Derived.Test.YtjkidecaciomgaaKinPlW
namespace Go.Proofs.Ytjkidecaciomgaa
set_option linter.unusedVariables false
set_option linter.unusedSimpArgs false
set_option maxRecDepth 100000
open Go.RowKit

def ex07 : List Ac := [acN ndE, acN ndE, acN ndE, acP 1 [2, 3]]
def fo07 : List Nd := [{ ndE with kids := [2, 3] }, { ndE with parent := 1 }, { ndE with parent := 1 }]
def fo07' : List Nd := [{ ndE with kids := [3, 2] }, { ndE with parent := 1 }, { ndE with parent := 1 }]
theorem ok07 : (∀ x ∈ ex07, AcOk x) ∧ nodesM ex07 = fo07 ∧ WF fo07 := nodes_ex (by decide) (by kernel_rfl)
theorem bf07 : beforeM fo07 3 1 2 = (fo07', 0) := by
  rw [before_C ok07.2.2]
  kernel_rfl
theorem awake07 : Fun Try.prog 112 [] [] (.v (.bool true)) [] := by
  have hm := madeL07 (xs := ex07) (by decide) ok07.1
  rw [ok07.2.1] at hm
  have hw := ok07.2.2
  have hbf := before_f hw 3 1 2
  have hw2 := before_wf hw 3 1 2
  rw [bf07] at hbf hw2
  have hn := nodel_s hw2 (id := 1) (x := { ndE with kids := [3, 2] }) rfl
  have hi := ints_f (xs := [3, 2]) (ys := [3, 2]) (by decide)
  rw [decide_eq_true rfl] at hi
  refine fun_intro 33 Try.func112 rfl rfl rfl (fun ι F S w => ?_)
  (repeat (first | (apply v_assign; exact rfl; exact rfl) | refine run_seq ?_ | refine run_region ?_ | refine runL_nil ?_ | (apply v_b; exact plA rfl; exact tyA rfl; exact rfl; exact rfl; exact rfl)))
  refine v_l intE [2, 3] (slA rfl) (tyA rfl) rfl rfl rfl rfl rfl rfl rfl rfl rfl rfl ?_
  (repeat (first | (apply v_b; exact plA rfl; exact tyA rfl; exact rfl; exact rfl; exact rfl)))
  refine runL_le 6 rfl (y := .agg (acE.f (acN ndE))) (Le.agg (by repeat (first | exact trivial | refine ⟨Le.refl, ?_⟩ | refine ⟨Le.nil, ?_⟩))) ?_
  refine runL_le 8 rfl (y := .agg (acE.f (acN ndE))) (Le.agg (by repeat (first | exact trivial | refine ⟨Le.refl, ?_⟩ | refine ⟨Le.nil, ?_⟩))) ?_
  refine runL_le 10 rfl (y := .agg (acE.f (acN ndE))) (Le.agg (by repeat (first | exact trivial | refine ⟨Le.refl, ?_⟩ | refine ⟨Le.nil, ?_⟩))) ?_
  refine runL_le 12 rfl (y := .agg (acE.f (acP 1 [2, 3]))) (Le.agg (by repeat (first | exact trivial | refine ⟨Le.refl, ?_⟩ | refine ⟨Le.nil, ?_⟩))) ?_
  refine v_l acE ex07 (slA rfl) (tyA rfl) rfl rfl rfl rfl rfl rfl rfl rfl rfl rfl ?_
  refine v_cR (mp [(0, 100), (1, 101)]) hm rfl (cbA rfl) trivial (by kernel_rfl) (by kernel_rfl) (by kernel_rfl) (by kernel_rfl) (by kernel_rfl) (by kernel_rfl) (by kernel_rfl) (by kernel_rfl) rfl ?_
  (repeat (first | (apply v_move; exact rfl; exact rfl) | (apply v_assign; exact rfl; exact rfl) | refine run_seq ?_ | refine run_region ?_ | refine runL_nil ?_))
  refine v_cR (mp [(0, 100), (1, 101), (2, 102)]) hbf rfl (cbA rfl) ⟨rfl, rfl, trivial⟩ (by kernel_rfl) (by kernel_rfl) (by kernel_rfl) (by kernel_rfl) (by kernel_rfl) (by kernel_rfl) (by kernel_rfl) (by kernel_rfl) rfl ?_
  (repeat (first | (apply v_move; exact rfl; exact rfl) | (apply v_assign; exact rfl; exact rfl) | refine run_seq ?_ | refine run_region ?_ | refine runL_nil ?_))
  refine v_cR (mp [(0, 100), (1, 102)]) hn rfl (cbA rfl) ⟨rfl, rfl, trivial⟩ (by kernel_rfl) (by kernel_rfl) (by kernel_rfl) (by kernel_rfl) (by kernel_rfl) (by kernel_rfl) (by kernel_rfl) (by kernel_rfl) rfl ?_
  (repeat (first | (apply v_move; exact rfl; exact rfl) | (apply v_assign; exact rfl; exact rfl) | refine run_seq ?_ | refine run_region ?_ | refine runL_nil ?_ | (apply v_extract; exact rfl; exact rfl; exact rfl) | (apply v_fldP; exact flA rfl; exact rfl; exact rfl; exact rfl) | (apply v_loadB; exact tyA rfl; exact rfl; exact rfl; exact rfl; exact rfl; exact rfl; exact rfl) | (apply v_on; exact rfl) | (apply v_pick_t; exact rfl; exact rfl; exact rfl) | (apply v_eql; exact rfl; exact rfl; exact rfl) | (apply v_allocD; exact tyA rfl; exact rfl; exact rfl; exact rfl; exact rfl) | (apply v_storeW; exact tyA rfl; exact rfl; exact rfl; exact rfl; exact rfl; exact rfl; exact rfl; exact rfl)))
  refine v_l intE [3, 2] (slA rfl) (tyA rfl) rfl rfl rfl rfl rfl rfl rfl rfl rfl rfl ?_
  (repeat (first | (apply v_cx; exact rfl; exact cbA rfl; (first | exact hi); exact rfl; exact rfl) | (apply v_assign; exact rfl; exact rfl) | refine runL_nil ?_ | (apply v_on; exact rfl) | (apply v_pick_t; exact rfl; exact rfl; exact rfl)))
  exact run_ret idN _ Try.func112 ⟨_, _, rfl, rfl, rfl⟩ rfl trivial trivial rfl
theorem editOrder_f {xs : List Ac} (a b c : Int) (hm : xs.length ≤ 9223372036854775807) (hs : ∀ x ∈ xs, AcStr x) : Fun Try.prog 22 [.sem (listS acE xs), .v (.int .i64 a), .v (.int .i64 b), .v (.int .i64 c)] [] (.v (.bool true)) [] := by
  have hgr := great07 hm
  cases hg : greatM xs with
  | true =>
    rw [hg] at hgr
    refine fun_intro 122 Try.func22 rfl rfl rfl (fun ι F S w => ?_)
    (repeat (first | (apply v_cx; exact rfl; exact cbA rfl; (first | exact awake07 | exact hgr); exact rfl; exact rfl) | (apply v_move; exact rfl; exact rfl) | (apply v_assign; exact rfl; exact rfl) | refine run_seq ?_ | refine run_region ?_ | refine runL_nil ?_ | refine run_skip ?_ | (apply run_cond; exact rfl; rotate_left; (focus (intro hb; cases hb; done)); intro hb; clear hb) | (apply run_cond; exact rfl; (focus (intro hb; cases hb; done)); intro hb; clear hb) | (apply v_not; exact rfl; exact rfl)))
    exact run_ret idN _ Try.func22 ⟨_, _, rfl, rfl, rfl⟩ rfl trivial trivial rfl
  | false =>
    rw [hg] at hgr
    obtain ⟨hl, hx⟩ := acts_ok hg fun x hx => ⟨(hs x hx).s, (hs x hx).name, (hs x hx).want⟩
    have hw := wf_nodes hx
    have hmade := madeL07 hl hx
    generalize nodesM xs = l at hw hmade
    have hnb := nodel_w hw b
    have hna := nodel_w hw a
    have hbf := before_f hw a b c
    by_cases h0 : (beforeM l a b c).2 = 0
    · obtain ⟨n, p, ks, ks', d⟩ := before_get hw h0
      have hw2 := before_wf hw a b c
      obtain ⟨q, hq, hqk⟩ := d.kids hw
      have hmv := d.mv hw
      have hmine := d.mine hw
      have hleft := d.left hw
      have hml := mv_len hw a
      have hkl := kids_128 hw b
      have hkl2 := kids_128 hw2 b
      rw [nodeR_some hq] at hkl2
      rw [nodeR_some d.hb] at hnb hkl
      rw [nodeR_some d.ha] at hna
      have hnq := nodel_s hw2 hq
      rw [← hqk] at hmine hleft
      rw [h0] at hbf
      clear d hqk h0 hq
      generalize mvM l a = mv at *
      generalize (beforeM l a b c).1 = l2 at *
      generalize (nodeAt l b).isSome = ok1 at *
      generalize (nodeAt l a).isSome = ok2 at *
      have hhas := fun x : Int => has_r (xs := mv) x (by omega)
      have hi1 := ints_f (xs := p.kids.filter fun x => !decide (x ∈ mv)) (ys := p.kids.filter fun x => !decide (x ∈ mv)) (by have := List.length_filter_le (fun x => !decide (x ∈ mv)) p.kids; omega)
      have hi2 := ints_f (xs := mv) (ys := mv) (by omega)
      rw [decide_eq_true rfl] at hi1 hi2
      refine fun_intro 122 Try.func22 rfl rfl rfl (fun ι F S w => ?_)
      (repeat (first | (apply v_cx; exact rfl; exact cbA rfl; (first | exact awake07 | exact hgr); exact rfl; exact rfl) | (apply v_move; exact rfl; exact rfl) | (apply v_assign; exact rfl; exact rfl) | refine run_seq ?_ | refine run_region ?_ | refine runL_nil ?_ | refine run_skip ?_ | (apply run_cond; exact rfl; (focus (intro hb; cases hb; done)); intro hb; clear hb) | (apply v_not; exact rfl; exact rfl)))
      refine v_cR (mp [(0, 100), (1, 101)]) hmade rfl (cbA rfl) trivial (by kernel_rfl) (by kernel_rfl) (by kernel_rfl) (by kernel_rfl) (by kernel_rfl) (by kernel_rfl) (by kernel_rfl) (by kernel_rfl) rfl ?_
      (repeat (first | (apply v_move; exact rfl; exact rfl) | (apply v_assign; exact rfl; exact rfl) | refine run_seq ?_ | refine run_region ?_ | refine runL_nil ?_))
      refine v_cR (mp [(0, 100), (1, 101)]) hnb rfl (cbA rfl) ⟨rfl, rfl, trivial⟩ (by kernel_rfl) (by kernel_rfl) (by kernel_rfl) (by kernel_rfl) (by kernel_rfl) (by kernel_rfl) (by kernel_rfl) (by kernel_rfl) rfl ?_
      (repeat (first | (apply v_move; exact rfl; exact rfl) | (apply v_assign; exact rfl; exact rfl) | refine run_seq ?_ | refine run_region ?_ | refine runL_nil ?_ | (apply v_extract; exact rfl; exact rfl; exact rfl) | (apply v_allocD; exact tyA rfl; exact rfl; exact rfl; exact rfl; exact rfl) | (apply v_storeW; exact tyA rfl; exact rfl; exact rfl; exact rfl; exact rfl; exact rfl; exact rfl; exact rfl)))
      refine v_cR (mp [(0, 100), (1, 101)]) hna rfl (cbA rfl) ⟨rfl, rfl, trivial⟩ (by kernel_rfl) (by kernel_rfl) (by kernel_rfl) (by kernel_rfl) (by kernel_rfl) (by kernel_rfl) (by kernel_rfl) (by kernel_rfl) rfl ?_
      (repeat (first | (apply v_move; exact rfl; exact rfl) | (apply v_assign; exact rfl; exact rfl) | refine run_seq ?_ | refine run_region ?_ | refine runL_nil ?_ | (apply v_extract; exact rfl; exact rfl; exact rfl) | (apply v_allocD; exact tyA rfl; exact rfl; exact rfl; exact rfl; exact rfl) | (apply v_storeW; exact tyA rfl; exact rfl; exact rfl; exact rfl; exact rfl; exact rfl; exact rfl; exact rfl)))
      refine v_cR (mp [(0, 100), (1, 101), (2, 102)]) hbf rfl (cbA rfl) ⟨rfl, rfl, trivial⟩ (by kernel_rfl) (by kernel_rfl) (by kernel_rfl) (by kernel_rfl) (by kernel_rfl) (by kernel_rfl) (by kernel_rfl) (by kernel_rfl) rfl ?_
      (repeat (first | (apply v_move; exact rfl; exact rfl) | refine run_seq ?_ | refine run_region ?_ | refine runL_nil ?_ | refine run_skip ?_ | (apply run_cond; exact rfl; (focus (intro hb; cases hb; done)); intro hb; clear hb) | (apply v_neq; exact rfl; exact rfl; exact rfl)))
      refine v_l intE [a] (slA rfl) (tyA rfl) rfl rfl rfl rfl rfl rfl rfl rfl rfl rfl ?_
      (repeat (first | (apply v_assign; exact rfl; exact rfl) | refine run_seq ?_ | refine run_region ?_ | refine runL_nil ?_ | (apply v_fldP; exact flA rfl; exact rfl; exact rfl; exact rfl) | (apply v_loadB; exact tyA rfl; exact rfl; exact rfl; exact rfl; exact rfl; exact rfl; exact rfl) | (apply v_eql; exact rfl; exact rfl; exact rfl)))
      apply via3 (p := RunL _ _ _ ⟨[(10, .ptr 10 0), (14, .sem (listS intE mv)), (54, .ptr 100 0), (55, .v (.int .i64 b))], [(10, .box 33 (nodeL p)), (100, .box 53 [.res 102]), (102, .obj (ownS 33 nodeE l2))]⟩ _)
      rotate_left
      · intro key
        by_cases hk : n.kind = 4
        · rw [if_pos hk] at hmv
          refine run_condY rfl (by simpa using hk) ?_
          (repeat (first | (apply v_move; exact rfl; exact rfl) | (apply v_assign; exact rfl; exact rfl) | refine run_seq ?_ | refine run_region ?_ | refine runL_nil ?_ | (apply v_fldP; exact flA rfl; exact rfl; exact rfl; exact rfl) | (apply v_loadB; exact tyA rfl; exact rfl; exact rfl; exact rfl; exact rfl; exact rfl; exact rfl)))
          refine runL_weak idN (σ2 := ⟨[(10, .ptr 10 0), (14, .sem (listS intE mv)), (54, .ptr 100 0), (55, .v (.int .i64 b))], [(10, .box 33 (nodeL p)), (100, .box 53 [.res 102]), (102, .obj (ownS 33 nodeE l2))]⟩) ?_ ?_ ?_ ?_ key.out <;> first | exact trivial | exact ⟨rfl, rfl, rfl, trivial⟩ | (rw [hmv]; exact ⟨rfl, rfl, rfl, rfl, trivial⟩) | rfl
        · rw [if_neg hk] at hmv
          refine run_condN rfl (by simpa using hk) ?_
          (repeat (first | (apply v_move; exact rfl; exact rfl) | refine run_seq ?_ | refine run_region ?_ | refine run_skip ?_))
          refine runL_weak idN (σ2 := ⟨[(10, .ptr 10 0), (14, .sem (listS intE mv)), (54, .ptr 100 0), (55, .v (.int .i64 b))], [(10, .box 33 (nodeL p)), (100, .box 53 [.res 102]), (102, .obj (ownS 33 nodeE l2))]⟩) ?_ ?_ ?_ ?_ key.out <;> first | exact trivial | exact ⟨rfl, rfl, rfl, trivial⟩ | (rw [hmv]; exact ⟨rfl, rfl, rfl, rfl, trivial⟩) | rfl
      · clear hmv
        skip
        refine v_cR (mp [(0, 100), (1, 102)]) hnq rfl (cbA rfl) ⟨rfl, rfl, trivial⟩ (by kernel_rfl) (by kernel_rfl) (by kernel_rfl) (by kernel_rfl) (by kernel_rfl) (by kernel_rfl) (by kernel_rfl) (by kernel_rfl) rfl ?_
        (repeat (first | (apply v_move; exact rfl; exact rfl) | (apply v_assign; exact rfl; exact rfl) | refine run_seq ?_ | refine run_region ?_ | refine runL_nil ?_ | refine run_skip ?_ | refine run_block ?_ | (apply v_extract; exact rfl; exact rfl; exact rfl) | (apply run_cond; exact rfl; (focus (intro hb; cases hb; done)); intro hb; clear hb) | (apply v_not; exact rfl; exact rfl) | (apply v_allocD; exact tyA rfl; exact rfl; exact rfl; exact rfl; exact rfl) | (apply v_storeW; exact tyA rfl; exact rfl; exact rfl; exact rfl; exact rfl; exact rfl; exact rfl; exact rfl)))
        refine run_own 17 17 3 intE rfl rfl rfl rfl ?_
        refine run_own 18 18 3 intE rfl rfl rfl rfl ?_
        refine run_own 19 19 3 intE rfl rfl rfl rfl ?_
        refine v_loop (fun z : Nat × List Int => ⟨[(10, .ptr 10 0), (14, .sem (listS intE mv)), (15, .ptr 15 0), (17, .res 17), (18, .res 18), (19, .res 19), (20, .v (.int .i64 z.1))], [(10, .box 33 (nodeL p)), (15, .box 33 (nodeL q)), (17, .obj (ownS 3 intE z.2)), (18, .obj (ownS 3 intE [])), (19, .obj (ownS 3 intE []))]⟩) (fun z => z.1 ≤ p.kids.length ∧ z.2 = (p.kids.take z.1).filter fun x => !decide (x ∈ mv)) (fun z => p.kids.length - z.1) (0, []) idN trivial (by repeat (first | exact trivial | refine ⟨rfl, ?_⟩)) (by repeat (first | exact trivial | refine ⟨rfl, ?_⟩)) rfl ⟨by simp, rfl⟩ fun ⟨i, W⟩ ⟨hi, hW⟩ ih => ?_
        dsimp only at hi hW ⊢
        have hWl : W.length ≤ p.kids.length := by rw [hW]; exact Nat.le_trans (List.length_filter_le _ _) (by rw [List.length_take]; omega)
        (repeat (first | (apply v_move; exact rfl; exact rfl) | refine run_seq ?_ | refine run_region ?_ | refine runL_nil ?_ | (apply v_fldP; exact flA rfl; exact rfl; exact rfl; exact rfl) | (apply v_loadB; exact tyA rfl; exact rfl; exact rfl; exact rfl; exact rfl; exact rfl; exact rfl) | (apply v_lss; exact rfl; exact rfl; exact rfl) | (apply v_lenL; exact slA rfl; exact rfl; exact rfl)))
        refine run_cond rfl (fun hb => ?_) (fun hb => ?_)
        · have hlt : i < p.kids.length := by simpa using hb
          have hx2 : p.kids[((i : Int)).toNat]? = some p.kids[i] := by simp [hlt]
          have hst : (p.kids.take (i + 1)).filter (fun x => !decide (x ∈ mv)) = W ++ if p.kids[i] ∈ mv then [] else [p.kids[i]] := by
            rw [List.take_add_one, List.getElem?_eq_getElem hlt, Option.toList_some, List.filter_append, ← hW, List.filter_cons]
            by_cases e : p.kids[i] ∈ mv <;> simp [e]
          have hh := hhas p.kids[i]
          clear hhas
          generalize p.kids[i] = x at *
          by_cases hin : x ∈ mv
          · rw [decide_eq_true hin] at hh
            rw [if_pos hin, List.append_nil] at hst
            (repeat (first | (apply v_idxL; exact slA rfl; exact tyA rfl; exact rfl; exact rfl; exact rfl; exact rfl; exact (by omega); (first | exact hx2); exact rfl) | (apply v_cx; exact rfl; exact cbA rfl; (first | exact hh); exact rfl; exact rfl) | (apply v_move; exact rfl; exact rfl) | (apply v_assign; exact rfl; exact rfl) | refine run_seq ?_ | refine run_region ?_ | refine runL_nil ?_ | refine run_skip ?_ | refine run_block ?_ | refine run_inBlock ?_ | (apply v_fldP; exact flA rfl; exact rfl; exact rfl; exact rfl) | (apply v_loadB; exact tyA rfl; exact rfl; exact rfl; exact rfl; exact rfl; exact rfl; exact rfl) | (apply v_loadA; exact tyA rfl; exact rfl; exact rfl; exact rfl; exact rfl; exact rfl; exact rfl) | (apply run_cond; exact rfl; (focus (intro hb; cases hb; done)); intro hb; clear hb) | (apply v_not; exact rfl; exact rfl) | (apply v_add; exact rfl; exact rfl; exact rfl; exact (by omega))))
            exact v_again ih (i + 1, W) idN trivial (by repeat (first | exact trivial | refine ⟨rfl, ?_⟩)) (by repeat (first | exact trivial | refine ⟨rfl, ?_⟩)) rfl ⟨by dsimp only; omega, hst.symm⟩ (by dsimp only; omega)
          · rw [decide_eq_false hin] at hh
            rw [if_neg hin] at hst
            (repeat (first | (apply v_idxL; exact slA rfl; exact tyA rfl; exact rfl; exact rfl; exact rfl; exact rfl; exact (by omega); (first | exact hx2); exact rfl) | (apply v_cx; exact rfl; exact cbA rfl; (first | exact hh); exact rfl; exact rfl) | (apply v_move; exact rfl; exact rfl) | refine run_seq ?_ | refine run_region ?_ | refine runL_nil ?_ | refine run_skip ?_ | refine run_block ?_ | (apply v_fldP; exact flA rfl; exact rfl; exact rfl; exact rfl) | (apply v_loadB; exact tyA rfl; exact rfl; exact rfl; exact rfl; exact rfl; exact rfl; exact rfl) | (apply v_loadA; exact tyA rfl; exact rfl; exact rfl; exact rfl; exact rfl; exact rfl; exact rfl) | (apply run_cond; exact rfl; rotate_left; (focus (intro hb; cases hb; done)); intro hb; clear hb) | (apply v_not; exact rfl; exact rfl)))
            refine v_l intE [x] (slA rfl) (tyA rfl) rfl rfl rfl rfl rfl rfl rfl rfl rfl rfl ?_
            refine v_appendD (slA rfl) (tyA rfl) rfl rfl rfl rfl rfl rfl rfl (by simp only [List.length_singleton]; omega) rfl rfl rfl rfl ?_
            (repeat (first | (apply v_move; exact rfl; exact rfl) | (apply v_assign; exact rfl; exact rfl) | refine run_region ?_ | refine runL_nil ?_ | refine run_inBlock ?_ | (apply v_add; exact rfl; exact rfl; exact rfl; exact (by omega))))
            exact v_again ih (i + 1, W ++ [x]) (mp [(17, 83)]) trivial (by repeat (first | exact trivial | refine ⟨rfl, ?_⟩)) (by repeat (first | exact trivial | refine ⟨rfl, ?_⟩)) rfl ⟨by dsimp only; omega, hst.symm⟩ (by dsimp only; omega)
        · have hge : i = p.kids.length := by have : ¬ i < p.kids.length := (by simpa using hb); omega
          rw [hge, List.take_length] at hW
          clear ih hb
          subst hW
          (repeat (first | (apply v_assign; exact rfl; exact rfl) | refine run_seq ?_ | refine run_region ?_ | refine runL_nil ?_ | refine run_block ?_ | (apply run_exit; exact rfl)))
          refine v_loop (fun z : Nat × List Int × List Int => ⟨[(14, .sem (listS intE mv)), (15, .ptr 15 0), (17, .res 17), (18, .res 18), (19, .res 19), (21, .v (.int .i64 z.1))], [(15, .box 33 (nodeL q)), (17, .obj (ownS 3 intE (p.kids.filter fun x => !decide (x ∈ mv)))), (18, .obj (ownS 3 intE z.2.1)), (19, .obj (ownS 3 intE z.2.2))]⟩) (fun z => z.1 ≤ q.kids.length ∧ z.2.1 = (q.kids.take z.1).filter (fun x => !decide (x ∈ mv)) ∧ z.2.2 = (q.kids.take z.1).filter fun x => decide (x ∈ mv)) (fun z => q.kids.length - z.1) (0, [], []) idN trivial (by repeat (first | exact trivial | refine ⟨rfl, ?_⟩)) (by repeat (first | exact trivial | refine ⟨rfl, ?_⟩)) rfl ⟨by simp, rfl, rfl⟩ fun ⟨j, L, M⟩ ⟨hj, hL, hM⟩ ih => ?_
          dsimp only at hj hL hM ⊢
          have hLl : L.length ≤ q.kids.length := by rw [hL]; exact Nat.le_trans (List.length_filter_le _ _) (by rw [List.length_take]; omega)
          have hMl : M.length ≤ q.kids.length := by rw [hM]; exact Nat.le_trans (List.length_filter_le _ _) (by rw [List.length_take]; omega)
          (repeat (first | (apply v_move; exact rfl; exact rfl) | refine run_seq ?_ | refine run_region ?_ | refine runL_nil ?_ | (apply v_fldP; exact flA rfl; exact rfl; exact rfl; exact rfl) | (apply v_loadB; exact tyA rfl; exact rfl; exact rfl; exact rfl; exact rfl; exact rfl; exact rfl) | (apply v_lss; exact rfl; exact rfl; exact rfl) | (apply v_lenL; exact slA rfl; exact rfl; exact rfl)))
          refine run_cond rfl (fun hb => ?_) (fun hb => ?_)
          · have hlt : j < q.kids.length := by simpa using hb
            have hx2 : q.kids[((j : Int)).toNat]? = some q.kids[j] := by simp [hlt]
            have hst : (q.kids.take (j + 1)).filter (fun x => !decide (x ∈ mv)) = L ++ if q.kids[j] ∈ mv then [] else [q.kids[j]] := by
              rw [List.take_add_one, List.getElem?_eq_getElem hlt, Option.toList_some, List.filter_append, ← hL, List.filter_cons]
              by_cases e : q.kids[j] ∈ mv <;> simp [e]
            have hst2 : (q.kids.take (j + 1)).filter (fun x => decide (x ∈ mv)) = M ++ if q.kids[j] ∈ mv then [q.kids[j]] else [] := by
              rw [List.take_add_one, List.getElem?_eq_getElem hlt, Option.toList_some, List.filter_append, ← hM, List.filter_cons]
              by_cases e : q.kids[j] ∈ mv <;> simp [e]
            have hh := hhas q.kids[j]
            clear hhas
            generalize q.kids[j] = x at *
            by_cases hin : x ∈ mv
            · rw [decide_eq_true hin] at hh
              rw [if_pos hin, List.append_nil] at hst
              rw [if_pos hin] at hst2
              (repeat (first | (apply v_idxL; exact slA rfl; exact tyA rfl; exact rfl; exact rfl; exact rfl; exact rfl; exact (by omega); (first | exact hx2); exact rfl) | (apply v_cx; exact rfl; exact cbA rfl; (first | exact hh); exact rfl; exact rfl) | (apply v_move; exact rfl; exact rfl) | refine run_seq ?_ | refine run_region ?_ | refine runL_nil ?_ | refine run_skip ?_ | refine run_block ?_ | (apply v_fldP; exact flA rfl; exact rfl; exact rfl; exact rfl) | (apply v_loadB; exact tyA rfl; exact rfl; exact rfl; exact rfl; exact rfl; exact rfl; exact rfl) | (apply v_loadA; exact tyA rfl; exact rfl; exact rfl; exact rfl; exact rfl; exact rfl; exact rfl) | (apply run_cond; exact rfl; rotate_left; (focus (intro hb; cases hb; done)); intro hb; clear hb)))
              refine v_l intE [x] (slA rfl) (tyA rfl) rfl rfl rfl rfl rfl rfl rfl rfl rfl rfl ?_
              refine v_appendD (slA rfl) (tyA rfl) rfl rfl rfl rfl rfl rfl rfl (by simp only [List.length_singleton]; omega) rfl rfl rfl rfl ?_
              (repeat (first | (apply v_move; exact rfl; exact rfl) | (apply v_assign; exact rfl; exact rfl) | refine run_region ?_ | refine runL_nil ?_ | refine run_inBlock ?_ | (apply v_add; exact rfl; exact rfl; exact rfl; exact (by omega))))
              exact v_again ih (j + 1, L, M ++ [x]) (mp [(19, 105)]) trivial (by repeat (first | exact trivial | refine ⟨rfl, ?_⟩)) (by repeat (first | exact trivial | refine ⟨rfl, ?_⟩)) rfl ⟨by dsimp only; omega, hst.symm, hst2.symm⟩ (by dsimp only; omega)
            · rw [decide_eq_false hin] at hh
              rw [if_neg hin] at hst
              rw [if_neg hin, List.append_nil] at hst2
              (repeat (first | (apply v_idxL; exact slA rfl; exact tyA rfl; exact rfl; exact rfl; exact rfl; exact rfl; exact (by omega); (first | exact hx2); exact rfl) | (apply v_cx; exact rfl; exact cbA rfl; (first | exact hh); exact rfl; exact rfl) | (apply v_move; exact rfl; exact rfl) | refine run_seq ?_ | refine run_region ?_ | refine runL_nil ?_ | refine run_skip ?_ | refine run_block ?_ | (apply v_fldP; exact flA rfl; exact rfl; exact rfl; exact rfl) | (apply v_loadB; exact tyA rfl; exact rfl; exact rfl; exact rfl; exact rfl; exact rfl; exact rfl) | (apply v_loadA; exact tyA rfl; exact rfl; exact rfl; exact rfl; exact rfl; exact rfl; exact rfl) | (apply run_cond; exact rfl; (focus (intro hb; cases hb; done)); intro hb; clear hb)))
              refine v_l intE [x] (slA rfl) (tyA rfl) rfl rfl rfl rfl rfl rfl rfl rfl rfl rfl ?_
              refine v_appendD (slA rfl) (tyA rfl) rfl rfl rfl rfl rfl rfl rfl (by simp only [List.length_singleton]; omega) rfl rfl rfl rfl ?_
              (repeat (first | (apply v_move; exact rfl; exact rfl) | (apply v_assign; exact rfl; exact rfl) | refine run_region ?_ | refine runL_nil ?_ | refine run_inBlock ?_ | (apply v_add; exact rfl; exact rfl; exact rfl; exact (by omega))))
              exact v_again ih (j + 1, L ++ [x], M) (mp [(18, 113)]) trivial (by repeat (first | exact trivial | refine ⟨rfl, ?_⟩)) (by repeat (first | exact trivial | refine ⟨rfl, ?_⟩)) rfl ⟨by dsimp only; omega, hst.symm, hst2.symm⟩ (by dsimp only; omega)
          · have hge : j = q.kids.length := by have : ¬ j < q.kids.length := (by simpa using hb); omega
            rw [hge, List.take_length] at hL hM
            clear ih hb
            rw [hleft] at hL
            rw [hmine] at hM
            subst hL
            subst hM
            (repeat (first | (apply v_move; exact rfl; exact rfl) | refine run_seq ?_ | refine run_region ?_ | (apply run_exit; exact rfl)))
            refine runL_freeze 114 17 rfl rfl ?_
            refine runL_freeze 115 18 rfl rfl ?_
            (repeat (first | (apply v_cx; exact rfl; exact cbA rfl; (first | exact hi1); exact rfl; exact rfl) | (apply v_move; exact rfl; exact rfl) | (apply v_on; exact rfl)))
            refine runL_freeze 118 19 rfl rfl ?_
            (repeat (first | (apply v_cx; exact rfl; exact cbA rfl; (first | exact hi2); exact rfl; exact rfl) | (apply v_assign; exact rfl; exact rfl) | refine runL_nil ?_ | (apply v_pick_t; exact rfl; exact rfl; exact rfl)))
            exact run_ret idN _ Try.func22 ⟨_, _, rfl, rfl, rfl⟩ rfl trivial trivial rfl
    · refine fun_intro 122 Try.func22 rfl rfl rfl (fun ι F S w => ?_)
      (repeat (first | (apply v_cx; exact rfl; exact cbA rfl; (first | exact awake07 | exact hgr); exact rfl; exact rfl) | (apply v_move; exact rfl; exact rfl) | (apply v_assign; exact rfl; exact rfl) | refine run_seq ?_ | refine run_region ?_ | refine runL_nil ?_ | refine run_skip ?_ | (apply run_cond; exact rfl; (focus (intro hb; cases hb; done)); intro hb; clear hb) | (apply v_not; exact rfl; exact rfl)))
      refine v_cR (mp [(0, 100), (1, 101)]) hmade rfl (cbA rfl) trivial (by kernel_rfl) (by kernel_rfl) (by kernel_rfl) (by kernel_rfl) (by kernel_rfl) (by kernel_rfl) (by kernel_rfl) (by kernel_rfl) rfl ?_
      (repeat (first | (apply v_move; exact rfl; exact rfl) | (apply v_assign; exact rfl; exact rfl) | refine run_seq ?_ | refine run_region ?_ | refine runL_nil ?_))
      refine v_cR (mp [(0, 100), (1, 101)]) hnb rfl (cbA rfl) ⟨rfl, rfl, trivial⟩ (by kernel_rfl) (by kernel_rfl) (by kernel_rfl) (by kernel_rfl) (by kernel_rfl) (by kernel_rfl) (by kernel_rfl) (by kernel_rfl) rfl ?_
      (repeat (first | (apply v_move; exact rfl; exact rfl) | (apply v_assign; exact rfl; exact rfl) | refine run_seq ?_ | refine run_region ?_ | refine runL_nil ?_ | (apply v_extract; exact rfl; exact rfl; exact rfl) | (apply v_allocD; exact tyA rfl; exact rfl; exact rfl; exact rfl; exact rfl) | (apply v_storeW; exact tyA rfl; exact rfl; exact rfl; exact rfl; exact rfl; exact rfl; exact rfl; exact rfl)))
      refine v_cR (mp [(0, 100), (1, 101)]) hna rfl (cbA rfl) ⟨rfl, rfl, trivial⟩ (by kernel_rfl) (by kernel_rfl) (by kernel_rfl) (by kernel_rfl) (by kernel_rfl) (by kernel_rfl) (by kernel_rfl) (by kernel_rfl) rfl ?_
      (repeat (first | (apply v_move; exact rfl; exact rfl) | (apply v_assign; exact rfl; exact rfl) | refine run_seq ?_ | refine run_region ?_ | refine runL_nil ?_ | (apply v_extract; exact rfl; exact rfl; exact rfl) | (apply v_allocD; exact tyA rfl; exact rfl; exact rfl; exact rfl; exact rfl) | (apply v_storeW; exact tyA rfl; exact rfl; exact rfl; exact rfl; exact rfl; exact rfl; exact rfl; exact rfl)))
      generalize beforeM l a b c = T at *
      refine v_cR (mp [(0, 100), (1, 101), (2, 102)]) hbf rfl (cbA rfl) ⟨rfl, rfl, trivial⟩ (by kernel_rfl) (by kernel_rfl) (by kernel_rfl) (by kernel_rfl) (by kernel_rfl) (by kernel_rfl) (by kernel_rfl) (by kernel_rfl) rfl ?_
      (repeat (first | refine runL_nil ?_ | (apply v_neq; exact rfl; exact rfl; exact rfl)))
      refine run_condY rfl (by simpa using h0) ?_
      (repeat (first | (apply v_assign; exact rfl; exact rfl) | refine run_seq ?_ | refine run_region ?_ | refine runL_nil ?_))
      exact run_ret idN _ Try.func22 ⟨_, _, rfl, rfl, rfl⟩ rfl trivial trivial rfl
theorem editOrder_walk (A : Option Addr) (c0 : Nat) (xs : List Ac) (a b c : Int) (W : World) (hv : AVRs ι0 (old W) W [.sem (listS acE xs)] [.slice A xs.length c0]) (hs : ∀ x ∈ xs, AcStr x) (hm : xs.length ≤ 9223372036854775807) (w1 : (Lit.int .i64 a).wf = true) (w2 : (Lit.int .i64 b).wf = true) (w3 : (Lit.int .i64 c).wf = true) : Calls Try.prog 22 #[.slice A xs.length c0, .int .i64 a, .int .i64 b, .int .i64 c] W fun e w' => e = .returned (.bool true) ∧ Below W.heap.size W w' :=
  acts_walk (vs := [.int .i64 a, .int .i64 b, .int .i64 c]) hv (editOrder_f a b c hm hs)
end Go.Proofs.Ytjkidecaciomgaa
