/- edit: Before. -/
import Derived.Test.YtjkidecaciomgaaEdM
namespace Go.Proofs.Ytjkidecaciomgaa
set_option linter.unusedVariables false
set_option linter.unusedSimpArgs false
set_option maxRecDepth 100000
open Go.RowKit

theorem put_nil {l : List Nd} (h : WF l) (p : Int) : Fun Try.prog 46 [.ptr 0 0, .v (.int .i64 p), .v (.slice none 0 0)] (forR 1 l) (.v (.int .i64 (putM l p []).2)) (forR 2 (putM l p []).1) := fun ι F S w vals hh hv => by
  refine put_f h.ups p [] (by have := h.len; omega) (by simp) (kids_ok h p) ι F S w vals hh ?_
  simp only [AVRs, AVR] at hv ⊢
  obtain ⟨u, r, rfl, h1, u2, r2, rfl, h2, u3, r3, rfl, rfl, rfl⟩ := hv
  exact ⟨u, _, rfl, h1, u2, _, rfl, h2, _, _, rfl, ⟨none, 0, rfl, Nat.le_refl _, .inl rfl⟩, rfl⟩
theorem before_f {l : List Nd} (h : WF l) (a b c : Int) : Fun Try.prog 115 [.ptr 0 0, .v (.int .i64 a), .v (.int .i64 b), .v (.int .i64 c)] (forR 1 l) (.v (.int .i64 (beforeM l a b c).2)) (forR 2 (beforeM l a b c).1) := by
  have hchk := lend 1 rfl rfl (check_f h a b c)
  by_cases h0 : checkM l a b c = 0
  · have e1 : beforeM l a b c = putM (l1M l a) b ((nodeR (l1M l a) b).kids.take (atM l a b c) ++ mvM l a ++ (nodeR (l1M l a) b).kids.drop (atM l a b c)) := by rw [beforeM, if_neg (by simpa using h0)]
    obtain ⟨n, p, ha, hb, hab, _⟩ := chk_ok h0
    have hnext := lend 1 rfl rfl (next_k h a)
    have hna := nodel_s h ha
    have hw1 := l1_wf h a
    have hmv := mv_len h a
    have hk1 := kids_128 hw1 b
    have hti := to_in h h0
    have hal := at_le h h0
    have hnb := nodel_w hw1 b
    have hin := into_f hal (by omega) (ys := mvM l a) (by omega)
    have hput := put_f hw1.ups b ((nodeR (l1M l a) b).kids.take (atM l a b c) ++ mvM l a ++ (nodeR (l1M l a) b).kids.drop (atM l a b c)) (by have := hw1.len; omega) (by simp; omega) (kids_ok hw1 b)
    have hix := index_i (xs := (nodeR (l1M l a) b).kids) (toM l a c) (by omega)
    have hat : atM l a b c = if toM l a c ≠ 0 then (nodeR (l1M l a) b).kids.idxOf (toM l a c) else (nodeR (l1M l a) b).kids.length := rfl
    have hto : toM l a c = if c = a then nextM l a else c := rfl
    have hmvd : mvM l a = if n.kind = 4 then n.kids else [a] := by rw [mvM, nodeR_some ha]
    have hl1 : l1M l a = if n.kind = 4 then (putM l a []).1 else leaveM l a := by rw [l1M, nodeR_some ha]
    have hclr := put_nil h a
    have hlv := leave_f h a
    rw [h0] at hchk
    rw [e1]
    clear e1
    generalize (nodeR (l1M l a) b).kids.take (atM l a b c) ++ mvM l a ++ (nodeR (l1M l a) b).kids.drop (atM l a b c) = ks at *
    generalize (nodeAt (l1M l a) b).isSome = ok at *
    generalize nodeR (l1M l a) b = q at *
    generalize putM (l1M l a) b ks = T at *
    generalize (putM l a []).2 = e2 at *
    generalize (putM l a []).1 = lc at *
    generalize leaveM l a = ll at *
    generalize atM l a b c = at0 at *
    generalize l1M l a = l1 at *
    generalize mvM l a = mv at *
    generalize nextM l a = nx at *
    generalize toM l a c = c' at *
    refine fun_intro 72 Try.func115 rfl rfl rfl (fun ι F S w => ?_)
    (repeat (first | (apply v_cSx; exact rfl; exact cbA rfl; (first | exact hchk); (repeat (first | exact trivial | refine ⟨rfl, ?_⟩)); exact rfl; exact rfl; exact rfl; exact rfl; exact rfl) | (apply v_move; exact rfl; exact rfl) | (apply v_assign; exact rfl; exact rfl) | refine run_seq ?_ | refine run_region ?_ | refine runL_nil ?_ | refine run_skip ?_ | (apply run_cond; exact rfl; (focus (intro hb; cases hb; done)); intro hb; clear hb) | (apply v_eql; exact rfl; exact rfl; exact rfl) | (apply v_neq; exact rfl; exact rfl; exact rfl)))
    apply via3 (p := RunL _ _ _ ⟨[(0, .ptr 0 0), (1, .v (.int .i64 a)), (2, .v (.int .i64 b)), (3, .v (.int .i64 c')), (31, .ptr 0 0), (32, .v (.int .i64 a))], forR 1 l⟩ _)
    rotate_left
    · intro key
      by_cases hca : c = a
      · rw [if_pos hca] at hto
        refine run_condY rfl (by simpa using hca) ?_
        (repeat (first | (apply v_cSx; exact rfl; exact cbA rfl; (first | exact hnext); (repeat (first | exact trivial | refine ⟨rfl, ?_⟩)); exact rfl; exact rfl; exact rfl; exact rfl; exact rfl) | (apply v_move; exact rfl; exact rfl) | (apply v_assign; exact rfl; exact rfl) | refine run_seq ?_ | refine run_region ?_ | refine runL_nil ?_))
        refine runL_weak idN (σ2 := ⟨[(0, .ptr 0 0), (1, .v (.int .i64 a)), (2, .v (.int .i64 b)), (3, .v (.int .i64 c')), (31, .ptr 0 0), (32, .v (.int .i64 a))], forR 1 l⟩) ?_ ?_ ?_ ?_ key.out <;> first | exact trivial | exact ⟨rfl, rfl, trivial⟩ | (rw [hto]; exact ⟨rfl, rfl, rfl, rfl, rfl, rfl, trivial⟩) | rfl
      · rw [if_neg hca] at hto
        refine run_condN rfl (by simpa using hca) ?_
        (repeat (first | (apply v_move; exact rfl; exact rfl) | refine run_seq ?_ | refine run_region ?_ | refine run_skip ?_))
        refine runL_weak idN (σ2 := ⟨[(0, .ptr 0 0), (1, .v (.int .i64 a)), (2, .v (.int .i64 b)), (3, .v (.int .i64 c')), (31, .ptr 0 0), (32, .v (.int .i64 a))], forR 1 l⟩) ?_ ?_ ?_ ?_ key.out <;> first | exact trivial | exact ⟨rfl, rfl, trivial⟩ | (rw [hto]; exact ⟨rfl, rfl, rfl, rfl, rfl, rfl, trivial⟩) | rfl
    · clear hto
      (repeat (first | (apply v_cSx; exact rfl; exact cbA rfl; (first | exact hna); (repeat (first | exact trivial | refine ⟨rfl, ?_⟩)); exact rfl; exact rfl; exact rfl; exact rfl; exact rfl) | (apply v_move; exact rfl; exact rfl) | (apply v_assign; exact rfl; exact rfl) | refine run_seq ?_ | refine run_region ?_ | refine runL_nil ?_ | (apply v_extract; exact rfl; exact rfl; exact rfl) | (apply v_allocD; exact tyA rfl; exact rfl; exact rfl; exact rfl; exact rfl) | (apply v_storeW; exact tyA rfl; exact rfl; exact rfl; exact rfl; exact rfl; exact rfl; exact rfl; exact rfl)))
      refine v_l intE [a] (slA rfl) (tyA rfl) rfl rfl rfl rfl rfl rfl rfl rfl rfl rfl ?_
      (repeat (first | (apply v_assign; exact rfl; exact rfl) | refine run_seq ?_ | refine run_region ?_ | refine runL_nil ?_ | (apply v_fldP; exact flA rfl; exact rfl; exact rfl; exact rfl) | (apply v_loadB; exact tyA rfl; exact rfl; exact rfl; exact rfl; exact rfl; exact rfl; exact rfl) | (apply v_eql; exact rfl; exact rfl; exact rfl)))
      apply via3 (p := RunL _ _ _ ⟨[(0, .ptr 0 0), (1, .v (.int .i64 a)), (2, .v (.int .i64 b)), (3, .v (.int .i64 c')), (12, .sem (listS intE mv)), (50, .ptr 0 0), (51, .v (.int .i64 b))], forR 5 l1⟩ _)
      rotate_left
      · intro key
        by_cases hk : n.kind = 4
        · rw [if_pos hk] at hmvd hl1
          refine run_condY rfl (by simpa using hk) ?_
          (repeat (first | (apply v_move; exact rfl; exact rfl) | (apply v_assign; exact rfl; exact rfl) | refine run_seq ?_ | refine run_region ?_ | refine runL_nil ?_ | (apply v_fldP; exact flA rfl; exact rfl; exact rfl; exact rfl) | (apply v_loadB; exact tyA rfl; exact rfl; exact rfl; exact rfl; exact rfl; exact rfl; exact rfl)))
          refine v_cR (mp [(1, 1), (2, 45)]) hclr rfl (cbA rfl) ⟨rfl, rfl, trivial⟩ (by kernel_rfl) (by kernel_rfl) (by kernel_rfl) (by kernel_rfl) (by kernel_rfl) (by kernel_rfl) (by kernel_rfl) (by kernel_rfl) rfl ?_
          (repeat (first | (apply v_move; exact rfl; exact rfl) | refine run_seq ?_ | refine run_region ?_ | refine runL_nil ?_))
          refine runL_weak (mp [(5, 45)]) (σ2 := ⟨[(0, .ptr 0 0), (1, .v (.int .i64 a)), (2, .v (.int .i64 b)), (3, .v (.int .i64 c')), (12, .sem (listS intE mv)), (50, .ptr 0 0), (51, .v (.int .i64 b))], forR 5 l1⟩) ?_ ?_ ?_ ?_ key.out <;> first | exact trivial | exact ⟨rfl, rfl, trivial⟩ | (rw [hl1]; exact ⟨rfl, rfl, trivial⟩) | (rw [hmvd]; exact ⟨rfl, rfl, rfl, rfl, rfl, rfl, rfl, trivial⟩) | rfl
        · rw [if_neg hk] at hmvd hl1
          refine run_condN rfl (by simpa using hk) ?_
          (repeat (first | (apply v_move; exact rfl; exact rfl) | refine run_region ?_))
          refine v_cR (mp [(1, 1), (2, 48)]) hlv rfl (cbA rfl) ⟨rfl, rfl, trivial⟩ (by kernel_rfl) (by kernel_rfl) (by kernel_rfl) (by kernel_rfl) (by kernel_rfl) (by kernel_rfl) (by kernel_rfl) (by kernel_rfl) rfl ?_
          (repeat (first | (apply v_move; exact rfl; exact rfl) | refine run_seq ?_ | refine run_region ?_ | refine runL_nil ?_))
          refine runL_weak (mp [(5, 48)]) (σ2 := ⟨[(0, .ptr 0 0), (1, .v (.int .i64 a)), (2, .v (.int .i64 b)), (3, .v (.int .i64 c')), (12, .sem (listS intE mv)), (50, .ptr 0 0), (51, .v (.int .i64 b))], forR 5 l1⟩) ?_ ?_ ?_ ?_ key.out <;> first | exact trivial | exact ⟨rfl, rfl, trivial⟩ | (rw [hl1]; exact ⟨rfl, rfl, trivial⟩) | (rw [hmvd]; exact ⟨rfl, rfl, rfl, rfl, rfl, rfl, rfl, trivial⟩) | rfl
      · clear hmvd hl1
        skip
        refine v_cR (mp [(1, 5)]) hnb rfl (cbA rfl) ⟨rfl, rfl, trivial⟩ (by kernel_rfl) (by kernel_rfl) (by kernel_rfl) (by kernel_rfl) (by kernel_rfl) (by kernel_rfl) (by kernel_rfl) (by kernel_rfl) rfl ?_
        (repeat (first | (apply v_move; exact rfl; exact rfl) | (apply v_assign; exact rfl; exact rfl) | refine run_seq ?_ | refine run_region ?_ | refine runL_nil ?_ | (apply v_extract; exact rfl; exact rfl; exact rfl) | (apply v_fldP; exact flA rfl; exact rfl; exact rfl; exact rfl) | (apply v_loadB; exact tyA rfl; exact rfl; exact rfl; exact rfl; exact rfl; exact rfl; exact rfl) | (apply v_neq; exact rfl; exact rfl; exact rfl) | (apply v_lenL; exact slA rfl; exact rfl; exact rfl) | (apply v_allocD; exact tyA rfl; exact rfl; exact rfl; exact rfl; exact rfl) | (apply v_storeW; exact tyA rfl; exact rfl; exact rfl; exact rfl; exact rfl; exact rfl; exact rfl; exact rfl)))
        apply via3 (p := RunL _ _ _ ⟨[(64, .ptr 0 0), (65, .v (.int .i64 b)), (67, .sem (listS intE q.kids)), (68, .v (.int .i64 at0)), (69, .sem (listS intE mv))], forR 5 l1⟩ _)
        rotate_left
        · intro key
          by_cases hc0 : c' = 0
          · rw [if_neg (by simpa using hc0)] at hat
            refine run_condN rfl (by simpa using hc0) ?_
            (repeat (first | (apply v_move; exact rfl; exact rfl) | refine run_seq ?_ | refine run_region ?_ | refine run_skip ?_ | (apply v_fldP; exact flA rfl; exact rfl; exact rfl; exact rfl) | (apply v_loadB; exact tyA rfl; exact rfl; exact rfl; exact rfl; exact rfl; exact rfl; exact rfl)))
            refine runL_weak idN (σ2 := ⟨[(64, .ptr 0 0), (65, .v (.int .i64 b)), (67, .sem (listS intE q.kids)), (68, .v (.int .i64 at0)), (69, .sem (listS intE mv))], forR 5 l1⟩) ?_ ?_ ?_ ?_ key.out <;> first | exact trivial | exact ⟨rfl, rfl, trivial⟩ | exact ⟨rfl, rfl, rfl, rfl, rfl, trivial⟩ | (rw [hat]; exact ⟨rfl, rfl, rfl, rfl, rfl, trivial⟩) | rfl
          · rw [if_pos hc0] at hat
            rw [idxI, if_pos (hti.resolve_left hc0), ← hat] at hix
            refine run_condY rfl (by simpa using hc0) ?_
            (repeat (first | (apply v_cx; exact rfl; exact cbA rfl; (first | exact hix); exact rfl; exact rfl) | (apply v_move; exact rfl; exact rfl) | (apply v_assign; exact rfl; exact rfl) | refine run_seq ?_ | refine run_region ?_ | refine runL_nil ?_ | (apply v_fldP; exact flA rfl; exact rfl; exact rfl; exact rfl) | (apply v_loadB; exact tyA rfl; exact rfl; exact rfl; exact rfl; exact rfl; exact rfl; exact rfl)))
            refine runL_weak idN (σ2 := ⟨[(64, .ptr 0 0), (65, .v (.int .i64 b)), (67, .sem (listS intE q.kids)), (68, .v (.int .i64 at0)), (69, .sem (listS intE mv))], forR 5 l1⟩) ?_ ?_ ?_ ?_ key.out <;> first | exact trivial | exact ⟨rfl, rfl, trivial⟩ | exact ⟨rfl, rfl, rfl, rfl, rfl, trivial⟩ | (rw [hat]; exact ⟨rfl, rfl, rfl, rfl, rfl, trivial⟩) | rfl
        · (repeat (first | (apply v_cx; exact rfl; exact cbA rfl; (first | exact hin); exact rfl; exact rfl)))
          refine v_cR (mp [(1, 5), (2, 71)]) hput rfl (cbA rfl) ⟨rfl, rfl, trivial⟩ (by kernel_rfl) (by kernel_rfl) (by kernel_rfl) (by kernel_rfl) (by kernel_rfl) (by kernel_rfl) (by kernel_rfl) (by kernel_rfl) rfl ?_
          (repeat (first | (apply v_assign; exact rfl; exact rfl) | refine runL_nil ?_))
          exact run_ret (mp [(2, 71)]) _ Try.func115 ⟨_, _, rfl, rfl, rfl⟩ rfl ⟨rfl, rfl, trivial⟩ ⟨rfl, rfl, trivial⟩ rfl
  · have e1 : beforeM l a b c = (l, checkM l a b c) := by rw [beforeM, if_pos h0]
    rw [e1]
    generalize checkM l a b c = e at *
    refine fun_intro 72 Try.func115 rfl rfl rfl (fun ι F S w => ?_)
    (repeat (first | (apply v_cSx; exact rfl; exact cbA rfl; (first | exact hchk); (repeat (first | exact trivial | refine ⟨rfl, ?_⟩)); exact rfl; exact rfl; exact rfl; exact rfl; exact rfl) | (apply v_move; exact rfl; exact rfl) | (apply v_assign; exact rfl; exact rfl) | refine run_seq ?_ | refine run_region ?_ | refine runL_nil ?_ | (apply v_neq; exact rfl; exact rfl; exact rfl)))
    refine run_condY rfl (by simpa using h0) ?_
    (repeat (first | (apply v_move; exact rfl; exact rfl) | (apply v_assign; exact rfl; exact rfl) | refine run_seq ?_ | refine run_region ?_ | refine runL_nil ?_))
    exact run_ret (mp [(2, 1)]) _ Try.func115 ⟨_, _, rfl, rfl, rfl⟩ rfl ⟨rfl, rfl, trivial⟩ ⟨rfl, rfl, trivial⟩ rfl
end Go.Proofs.Ytjkidecaciomgaa
