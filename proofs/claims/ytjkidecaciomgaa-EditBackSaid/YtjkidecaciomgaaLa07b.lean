/- Law 07: EditBack. -/
import Derived.Test.YtjkidecaciomgaaLa07
namespace Go.Proofs.Ytjkidecaciomgaa
set_option linter.unusedVariables false
set_option linter.unusedSimpArgs false
set_option maxRecDepth 100000
open Go.RowKit

section
variable {l : List Nd} (h : WF l) {a b c : Int} {n p : Nd} {ks ks' : List Int} (d : Done l a b c n p ks ks')
include h d
theorem Done.frag (hk : n.kind = 4) : ∃ m, nodeAt (beforeM l a b c).1 a = some m ∧ m.kids = [] := by
  refine ⟨_, (by rw [d.node h a, d.ha, Option.map_some, if_pos hk]), ?_⟩
  show (if a = b then ks' else (clearN a a n).kids) = []
  rw [if_neg (d.ne h)]
  exact if_pos rfl
theorem Done.par (hk : n.kind ≠ 4) : ∃ m, nodeAt (beforeM l a b c).1 a = some m ∧ m.parent = b := by
  refine ⟨_, (by rw [d.node h a, d.ha, Option.map_some, if_neg hk]), ?_⟩
  have hin : a ∈ ks' := by
    rw [d.ek', d.mv h, if_neg hk]
    simp
  exact if_pos hin
end
theorem leave_at {l : List Nd} (h : WF l) {a x : Int} {m : Nd} (hx : nodeAt l x = some m) : nodeAt (leaveM l a) x = some (leaveN a x m) := by rw [leave_ok h, hx]; rfl
theorem editBack_f {xs : List Ac} (a b c : Int) (hm : xs.length ≤ 9223372036854775807) (hs : ∀ x ∈ xs, AcStr x) : Fun Try.prog 23 [.sem (listS acE xs), .v (.int .i64 a), .v (.int .i64 b), .v (.int .i64 c)] [] (.v (.bool true)) [] := by
  have hgr := great07 hm
  cases hg : greatM xs with
  | true =>
    rw [hg] at hgr
    refine fun_intro 109 Try.func23 rfl rfl rfl (fun ι F S w => ?_)
    (repeat (first | (apply v_cx; exact rfl; exact cbA rfl; (first | exact awake07 | exact hgr); exact rfl; exact rfl) | (apply v_move; exact rfl; exact rfl) | (apply v_assign; exact rfl; exact rfl) | refine run_seq ?_ | refine run_region ?_ | refine runL_nil ?_ | refine run_skip ?_ | (apply run_cond; exact rfl; rotate_left; (focus (intro hb; cases hb; done)); intro hb; clear hb) | (apply run_cond; exact rfl; (focus (intro hb; cases hb; done)); intro hb; clear hb) | (apply v_not; exact rfl; exact rfl)))
    exact run_ret idN _ Try.func23 ⟨_, _, rfl, rfl, rfl⟩ rfl trivial trivial rfl
  | false =>
    rw [hg] at hgr
    obtain ⟨hl, hx⟩ := acts_ok hg fun x hx => ⟨(hs x hx).s, (hs x hx).name, (hs x hx).want⟩
    have hw := wf_nodes hx
    have hmade := madeL07 hl hx
    generalize nodesM xs = l at hw hmade
    have hna := nodel_w hw a
    have hbf := before_f hw a b c
    by_cases h0 : (beforeM l a b c).2 = 0
    · obtain ⟨n, p, ks, ks', d⟩ := before_get hw h0
      have hw2 := before_wf hw a b c
      have hb0 := nodeAt_some d.hb
      rw [nodeR_some d.ha, d.ha] at hna
      rw [h0] at hbf
      by_cases hk : n.kind = 4
      · obtain ⟨m, hm2, hmk⟩ := d.frag hw hk
        have hnm := nodel_s hw2 hm2
        clear d h0 hm2
        generalize (beforeM l a b c).1 = l2 at *
        refine fun_intro 109 Try.func23 rfl rfl rfl (fun ι F S w => ?_)
        (repeat (first | (apply v_cx; exact rfl; exact cbA rfl; (first | exact awake07 | exact hgr); exact rfl; exact rfl) | (apply v_move; exact rfl; exact rfl) | (apply v_assign; exact rfl; exact rfl) | refine run_seq ?_ | refine run_region ?_ | refine runL_nil ?_ | refine run_skip ?_ | (apply run_cond; exact rfl; (focus (intro hb; cases hb; done)); intro hb; clear hb) | (apply v_not; exact rfl; exact rfl)))
        refine v_cR (mp [(0, 100), (1, 101)]) hmade rfl (cbA rfl) trivial (by kernel_rfl) (by kernel_rfl) (by kernel_rfl) (by kernel_rfl) (by kernel_rfl) (by kernel_rfl) (by kernel_rfl) (by kernel_rfl) rfl ?_
        (repeat (first | (apply v_move; exact rfl; exact rfl) | (apply v_assign; exact rfl; exact rfl) | refine run_seq ?_ | refine run_region ?_ | refine runL_nil ?_))
        refine v_cR (mp [(0, 100), (1, 101)]) hna rfl (cbA rfl) ⟨rfl, rfl, trivial⟩ (by kernel_rfl) (by kernel_rfl) (by kernel_rfl) (by kernel_rfl) (by kernel_rfl) (by kernel_rfl) (by kernel_rfl) (by kernel_rfl) rfl ?_
        (repeat (first | (apply v_move; exact rfl; exact rfl) | (apply v_assign; exact rfl; exact rfl) | refine run_seq ?_ | refine run_region ?_ | refine runL_nil ?_ | (apply v_extract; exact rfl; exact rfl; exact rfl) | (apply v_allocD; exact tyA rfl; exact rfl; exact rfl; exact rfl; exact rfl) | (apply v_storeW; exact tyA rfl; exact rfl; exact rfl; exact rfl; exact rfl; exact rfl; exact rfl; exact rfl)))
        refine v_cR (mp [(0, 100), (1, 101), (2, 102)]) hbf rfl (cbA rfl) ⟨rfl, rfl, trivial⟩ (by kernel_rfl) (by kernel_rfl) (by kernel_rfl) (by kernel_rfl) (by kernel_rfl) (by kernel_rfl) (by kernel_rfl) (by kernel_rfl) rfl ?_
        (repeat (first | (apply v_move; exact rfl; exact rfl) | refine run_seq ?_ | refine run_region ?_ | refine runL_nil ?_ | refine run_skip ?_ | (apply v_fldP; exact flA rfl; exact rfl; exact rfl; exact rfl) | (apply v_loadB; exact tyA rfl; exact rfl; exact rfl; exact rfl; exact rfl; exact rfl; exact rfl) | (apply run_cond; exact rfl; (focus (intro hb; cases hb; done)); intro hb; clear hb) | (apply v_not; exact rfl; exact rfl) | (apply v_eql; exact rfl; exact rfl; exact rfl) | (apply v_neq; exact rfl; exact rfl; exact rfl)))
        refine run_condY rfl (by simpa using hk) ?_
        (repeat (first | (apply v_move; exact rfl; exact rfl) | refine run_seq ?_ | refine run_region ?_))
        refine v_cR (mp [(0, 100), (1, 102)]) hnm rfl (cbA rfl) ⟨rfl, rfl, trivial⟩ (by kernel_rfl) (by kernel_rfl) (by kernel_rfl) (by kernel_rfl) (by kernel_rfl) (by kernel_rfl) (by kernel_rfl) (by kernel_rfl) rfl ?_
        (repeat (first | (apply v_move; exact rfl; exact rfl) | (apply v_assign; exact rfl; exact rfl) | refine run_seq ?_ | refine run_region ?_ | refine runL_nil ?_ | (apply v_extract; exact rfl; exact rfl; exact rfl) | (apply v_fldP; exact flA rfl; exact rfl; exact rfl; exact rfl) | (apply v_loadB; exact tyA rfl; exact rfl; exact rfl; exact rfl; exact rfl; exact rfl; exact rfl) | (apply v_on; exact rfl) | (apply v_pick_t; exact rfl; exact rfl; exact rfl) | (apply v_eql; exact rfl; exact rfl; exact rfl) | (apply v_lenL; exact slA rfl; exact rfl; exact rfl) | (apply v_allocD; exact tyA rfl; exact rfl; exact rfl; exact rfl; exact rfl) | (apply v_storeW; exact tyA rfl; exact rfl; exact rfl; exact rfl; exact rfl; exact rfl; exact rfl; exact rfl)))
        exact run_ret idN _ Try.func23 ⟨_, _, rfl, rfl, rfl⟩ (by rw [hmk]; rfl) trivial trivial rfl
      · obtain ⟨m, hm2, hmp⟩ := d.par hw hk
        obtain ⟨q, hq, _⟩ := d.kids hw
        have hnx := fun hc => d.next hw hk hc
        clear d h0
        have hnm := nodel_s hw2 hm2
        have hnext := lend 1 rfl rfl (next_k hw2 a)
        have hr1 := remove_f hw2 a b
        have e1 : removeM (beforeM l a b c).1 a b = (leaveM (beforeM l a b c).1 a, 0) := by rw [removeM, hm2, hq]; exact if_neg (by simpa using hmp)
        rw [e1] at hr1
        have hw3 := leave_wf hw2 a
        have hm3 := leave_at hw2 (a := a) hm2
        have hq3 := leave_at hw2 (a := a) hq
        have hp3 : (leaveN a a m).parent = 0 := if_pos rfl
        have hr2 := remove_f hw3 a b
        have e2 : removeM (leaveM (beforeM l a b c).1 a) a b = (leaveM (beforeM l a b c).1 a, 4) := by rw [removeM, hm3, hq3]; exact if_pos (by rw [hp3]; omega)
        rw [e2] at hr2
        have hnm3 := nodel_s hw3 hm3
        have hrt := lend 1 rfl rfl (root_f hw3 a)
        rw [root_top hw3 hm3 hp3] at hrt
        clear e1 e2 hm2 hq hm3 hq3
        generalize leaveN a a m = m3 at *
        generalize leaveM (beforeM l a b c).1 a = l3 at *
        generalize nextM (beforeM l a b c).1 a = nx at *
        generalize (beforeM l a b c).1 = l2 at *
        refine fun_intro 109 Try.func23 rfl rfl rfl (fun ι F S w => ?_)
        (repeat (first | (apply v_cx; exact rfl; exact cbA rfl; (first | exact awake07 | exact hgr); exact rfl; exact rfl) | (apply v_move; exact rfl; exact rfl) | (apply v_assign; exact rfl; exact rfl) | refine run_seq ?_ | refine run_region ?_ | refine runL_nil ?_ | refine run_skip ?_ | (apply run_cond; exact rfl; (focus (intro hb; cases hb; done)); intro hb; clear hb) | (apply v_not; exact rfl; exact rfl)))
        refine v_cR (mp [(0, 100), (1, 101)]) hmade rfl (cbA rfl) trivial (by kernel_rfl) (by kernel_rfl) (by kernel_rfl) (by kernel_rfl) (by kernel_rfl) (by kernel_rfl) (by kernel_rfl) (by kernel_rfl) rfl ?_
        (repeat (first | (apply v_move; exact rfl; exact rfl) | (apply v_assign; exact rfl; exact rfl) | refine run_seq ?_ | refine run_region ?_ | refine runL_nil ?_))
        refine v_cR (mp [(0, 100), (1, 101)]) hna rfl (cbA rfl) ⟨rfl, rfl, trivial⟩ (by kernel_rfl) (by kernel_rfl) (by kernel_rfl) (by kernel_rfl) (by kernel_rfl) (by kernel_rfl) (by kernel_rfl) (by kernel_rfl) rfl ?_
        (repeat (first | (apply v_move; exact rfl; exact rfl) | (apply v_assign; exact rfl; exact rfl) | refine run_seq ?_ | refine run_region ?_ | refine runL_nil ?_ | (apply v_extract; exact rfl; exact rfl; exact rfl) | (apply v_allocD; exact tyA rfl; exact rfl; exact rfl; exact rfl; exact rfl) | (apply v_storeW; exact tyA rfl; exact rfl; exact rfl; exact rfl; exact rfl; exact rfl; exact rfl; exact rfl)))
        refine v_cR (mp [(0, 100), (1, 101), (2, 102)]) hbf rfl (cbA rfl) ⟨rfl, rfl, trivial⟩ (by kernel_rfl) (by kernel_rfl) (by kernel_rfl) (by kernel_rfl) (by kernel_rfl) (by kernel_rfl) (by kernel_rfl) (by kernel_rfl) rfl ?_
        (repeat (first | (apply v_move; exact rfl; exact rfl) | refine run_seq ?_ | refine run_region ?_ | refine runL_nil ?_ | refine run_skip ?_ | (apply v_fldP; exact flA rfl; exact rfl; exact rfl; exact rfl) | (apply v_loadB; exact tyA rfl; exact rfl; exact rfl; exact rfl; exact rfl; exact rfl; exact rfl) | (apply run_cond; exact rfl; (focus (intro hb; cases hb; done)); intro hb; clear hb) | (apply v_not; exact rfl; exact rfl) | (apply v_eql; exact rfl; exact rfl; exact rfl) | (apply v_neq; exact rfl; exact rfl; exact rfl)))
        refine run_condN rfl (by simpa using hk) ?_
        (repeat (first | (apply v_move; exact rfl; exact rfl) | refine run_seq ?_ | refine run_region ?_ | refine run_skip ?_))
        refine v_cR (mp [(0, 100), (1, 102)]) hnm rfl (cbA rfl) ⟨rfl, rfl, trivial⟩ (by kernel_rfl) (by kernel_rfl) (by kernel_rfl) (by kernel_rfl) (by kernel_rfl) (by kernel_rfl) (by kernel_rfl) (by kernel_rfl) rfl ?_
        (repeat (first | (apply v_move; exact rfl; exact rfl) | (apply v_assign; exact rfl; exact rfl) | refine run_seq ?_ | refine run_region ?_ | refine runL_nil ?_ | (apply v_extract; exact rfl; exact rfl; exact rfl) | (apply v_fldP; exact flA rfl; exact rfl; exact rfl; exact rfl) | (apply v_loadB; exact tyA rfl; exact rfl; exact rfl; exact rfl; exact rfl; exact rfl; exact rfl) | (apply v_on; exact rfl) | (apply v_pick_f; exact rfl; exact rfl; exact rfl) | (apply v_not; exact rfl; exact rfl) | (apply v_neq; exact rfl; exact rfl; exact rfl) | (apply v_allocD; exact tyA rfl; exact rfl; exact rfl; exact rfl; exact rfl) | (apply v_storeW; exact tyA rfl; exact rfl; exact rfl; exact rfl; exact rfl; exact rfl; exact rfl; exact rfl)))
        refine v_is 66 false rfl (by simp [hmp]) ?_
        (repeat (first | (apply v_move; exact rfl; exact rfl) | (apply v_on; exact rfl) | (apply v_neq; exact rfl; exact rfl; exact rfl)))
        apply via3 (p := RunL _ _ _ ⟨[(1, .v (.int .i64 a)), (2, .v (.int .i64 b)), (9, .ptr 100 0), (14, .ptr 14 0), (78, .ptr 100 0), (79, .v (.int .i64 a)), (80, .v (.int .i64 b))], [(14, .box 33 (nodeL m)), (100, .box 53 [.res 102]), (102, .obj (ownS 33 nodeE l2))]⟩ _)
        rotate_left
        · intro key
          by_cases hc : c = a
          · refine v_is 70 false rfl (by simp [hc]) ?_
            (repeat (first | (apply v_move; exact rfl; exact rfl) | refine run_seq ?_ | refine run_region ?_ | refine runL_nil ?_ | refine run_skip ?_ | (apply v_on; exact rfl) | (apply v_off; exact rfl; exact rfl) | (apply v_pick_f; exact rfl; exact rfl; exact rfl) | (apply run_cond; exact rfl; (focus (intro hb; cases hb; done)); intro hb; clear hb)))
            refine runL_weak idN (σ2 := ⟨[(1, .v (.int .i64 a)), (2, .v (.int .i64 b)), (9, .ptr 100 0), (14, .ptr 14 0), (78, .ptr 100 0), (79, .v (.int .i64 a)), (80, .v (.int .i64 b))], [(14, .box 33 (nodeL m)), (100, .box 53 [.res 102]), (102, .obj (ownS 33 nodeE l2))]⟩) ?_ ?_ ?_ ?_ key.out <;> first | exact trivial | exact ⟨rfl, rfl, rfl, trivial⟩ | exact ⟨rfl, rfl, rfl, rfl, rfl, rfl, rfl, trivial⟩ | rfl
          · refine v_is 70 true rfl (by simp [hc]) ?_
            (repeat (first | (apply v_move; exact rfl; exact rfl) | (apply v_on; exact rfl)))
            refine v_cR (mp [(0, 100), (1, 102)]) hnext rfl (cbA rfl) ⟨rfl, rfl, trivial⟩ (by kernel_rfl) (by kernel_rfl) (by kernel_rfl) (by kernel_rfl) (by kernel_rfl) (by kernel_rfl) (by kernel_rfl) (by kernel_rfl) rfl ?_
            (repeat (first | (apply v_move; exact rfl; exact rfl) | refine runL_nil ?_ | (apply v_on; exact rfl) | (apply v_pick_t; exact rfl; exact rfl; exact rfl) | (apply v_pick_f; exact rfl; exact rfl; exact rfl) | (apply v_neq; exact rfl; exact rfl; exact rfl)))
            refine run_condN rfl (by rw [hnx hc]; exact bne_self_eq_false c) ?_
            (repeat (first | (apply v_move; exact rfl; exact rfl) | refine run_seq ?_ | refine run_region ?_ | refine run_skip ?_))
            refine runL_weak idN (σ2 := ⟨[(1, .v (.int .i64 a)), (2, .v (.int .i64 b)), (9, .ptr 100 0), (14, .ptr 14 0), (78, .ptr 100 0), (79, .v (.int .i64 a)), (80, .v (.int .i64 b))], [(14, .box 33 (nodeL m)), (100, .box 53 [.res 102]), (102, .obj (ownS 33 nodeE l2))]⟩) ?_ ?_ ?_ ?_ key.out <;> first | exact trivial | exact ⟨rfl, rfl, rfl, trivial⟩ | exact ⟨rfl, rfl, rfl, rfl, rfl, rfl, rfl, trivial⟩ | rfl
        · clear hnext hnx
          skip
          refine v_cR (mp [(0, 100), (1, 102), (2, 103)]) hr1 rfl (cbA rfl) ⟨rfl, rfl, trivial⟩ (by kernel_rfl) (by kernel_rfl) (by kernel_rfl) (by kernel_rfl) (by kernel_rfl) (by kernel_rfl) (by kernel_rfl) (by kernel_rfl) rfl ?_
          (repeat (first | (apply v_move; exact rfl; exact rfl) | (apply v_on; exact rfl) | (apply v_neq; exact rfl; exact rfl; exact rfl)))
          refine v_cR (mp [(0, 100), (1, 103), (2, 104)]) hr2 rfl (cbA rfl) ⟨rfl, rfl, trivial⟩ (by kernel_rfl) (by kernel_rfl) (by kernel_rfl) (by kernel_rfl) (by kernel_rfl) (by kernel_rfl) (by kernel_rfl) (by kernel_rfl) rfl ?_
          (repeat (first | (apply v_move; exact rfl; exact rfl) | refine run_seq ?_ | refine run_region ?_ | refine runL_nil ?_ | refine run_skip ?_ | (apply v_on; exact rfl) | (apply v_pick_f; exact rfl; exact rfl; exact rfl) | (apply run_cond; exact rfl; (focus (intro hb; cases hb; done)); intro hb; clear hb) | (apply v_neq; exact rfl; exact rfl; exact rfl)))
          refine v_cR (mp [(0, 100), (1, 104)]) hnm3 rfl (cbA rfl) ⟨rfl, rfl, trivial⟩ (by kernel_rfl) (by kernel_rfl) (by kernel_rfl) (by kernel_rfl) (by kernel_rfl) (by kernel_rfl) (by kernel_rfl) (by kernel_rfl) rfl ?_
          (repeat (first | (apply v_move; exact rfl; exact rfl) | (apply v_assign; exact rfl; exact rfl) | refine run_seq ?_ | refine run_region ?_ | refine runL_nil ?_ | (apply v_extract; exact rfl; exact rfl; exact rfl) | (apply v_fldP; exact flA rfl; exact rfl; exact rfl; exact rfl) | (apply v_loadB; exact tyA rfl; exact rfl; exact rfl; exact rfl; exact rfl; exact rfl; exact rfl) | (apply v_on; exact rfl) | (apply v_pick_t; exact rfl; exact rfl; exact rfl) | (apply v_eql; exact rfl; exact rfl; exact rfl) | (apply v_storeW; exact tyA rfl; exact rfl; exact rfl; exact rfl; exact rfl; exact rfl; exact rfl; exact rfl)))
          refine v_is 102 true rfl (by simp [hp3]) ?_
          (repeat (first | (apply v_move; exact rfl; exact rfl) | (apply v_on; exact rfl)))
          refine v_cR (mp [(0, 100), (1, 104)]) hrt rfl (cbA rfl) ⟨rfl, rfl, trivial⟩ (by kernel_rfl) (by kernel_rfl) (by kernel_rfl) (by kernel_rfl) (by kernel_rfl) (by kernel_rfl) (by kernel_rfl) (by kernel_rfl) rfl ?_
          (repeat (first | (apply v_move; exact rfl; exact rfl) | (apply v_assign; exact rfl; exact rfl) | refine runL_nil ?_ | (apply v_on; exact rfl) | (apply v_pick_t; exact rfl; exact rfl; exact rfl) | (apply v_eql; exact rfl; exact rfl; exact rfl)))
          exact run_ret idN _ Try.func23 ⟨_, _, rfl, rfl, rfl⟩ (by show AV.v (.bool (a == a)) = _; rw [beq_self_eq_true]; rfl) trivial trivial rfl
    · refine fun_intro 109 Try.func23 rfl rfl rfl (fun ι F S w => ?_)
      (repeat (first | (apply v_cx; exact rfl; exact cbA rfl; (first | exact awake07 | exact hgr); exact rfl; exact rfl) | (apply v_move; exact rfl; exact rfl) | (apply v_assign; exact rfl; exact rfl) | refine run_seq ?_ | refine run_region ?_ | refine runL_nil ?_ | refine run_skip ?_ | (apply run_cond; exact rfl; (focus (intro hb; cases hb; done)); intro hb; clear hb) | (apply v_not; exact rfl; exact rfl)))
      refine v_cR (mp [(0, 100), (1, 101)]) hmade rfl (cbA rfl) trivial (by kernel_rfl) (by kernel_rfl) (by kernel_rfl) (by kernel_rfl) (by kernel_rfl) (by kernel_rfl) (by kernel_rfl) (by kernel_rfl) rfl ?_
      (repeat (first | (apply v_move; exact rfl; exact rfl) | (apply v_assign; exact rfl; exact rfl) | refine run_seq ?_ | refine run_region ?_ | refine runL_nil ?_))
      refine v_cR (mp [(0, 100), (1, 101)]) hna rfl (cbA rfl) ⟨rfl, rfl, trivial⟩ (by kernel_rfl) (by kernel_rfl) (by kernel_rfl) (by kernel_rfl) (by kernel_rfl) (by kernel_rfl) (by kernel_rfl) (by kernel_rfl) rfl ?_
      (repeat (first | (apply v_move; exact rfl; exact rfl) | (apply v_assign; exact rfl; exact rfl) | refine run_seq ?_ | refine run_region ?_ | refine runL_nil ?_ | (apply v_extract; exact rfl; exact rfl; exact rfl) | (apply v_allocD; exact tyA rfl; exact rfl; exact rfl; exact rfl; exact rfl) | (apply v_storeW; exact tyA rfl; exact rfl; exact rfl; exact rfl; exact rfl; exact rfl; exact rfl; exact rfl)))
      generalize beforeM l a b c = T at *
      refine v_cR (mp [(0, 100), (1, 101), (2, 102)]) hbf rfl (cbA rfl) ⟨rfl, rfl, trivial⟩ (by kernel_rfl) (by kernel_rfl) (by kernel_rfl) (by kernel_rfl) (by kernel_rfl) (by kernel_rfl) (by kernel_rfl) (by kernel_rfl) rfl ?_
      (repeat (first | refine runL_nil ?_ | (apply v_neq; exact rfl; exact rfl; exact rfl)))
      refine run_condY rfl (by simpa using h0) ?_
      (repeat (first | (apply v_assign; exact rfl; exact rfl) | refine run_seq ?_ | refine run_region ?_ | refine runL_nil ?_))
      exact run_ret idN _ Try.func23 ⟨_, _, rfl, rfl, rfl⟩ rfl trivial trivial rfl
theorem editBack_walk (A : Option Addr) (c0 : Nat) (xs : List Ac) (a b c : Int) (W : World) (hv : AVRs ι0 (old W) W [.sem (listS acE xs)] [.slice A xs.length c0]) (hs : ∀ x ∈ xs, AcStr x) (hm : xs.length ≤ 9223372036854775807) (w1 : (Lit.int .i64 a).wf = true) (w2 : (Lit.int .i64 b).wf = true) (w3 : (Lit.int .i64 c).wf = true) : Calls Try.prog 23 #[.slice A xs.length c0, .int .i64 a, .int .i64 b, .int .i64 c] W fun e w' => e = .returned (.bool true) ∧ Below W.heap.size W w' :=
  acts_walk (vs := [.int .i64 a, .int .i64 b, .int .i64 c]) hv (editBack_f a b c hm hs)
end Go.Proofs.Ytjkidecaciomgaa
