/- Law 07: EditPlays. -/
import Derived.Test.YtjkidecaciomgaaLa07
import Derived.Test.YtjkidecaciomgaaBE
import Derived.Test.YtjkidecaciomgaaRf17
import Derived.Test.YtjkidecaciomgaaOpenEd
namespace Go.Proofs.Ytjkidecaciomgaa
set_option linter.unusedVariables false
set_option linter.unusedSimpArgs false
set_option maxRecDepth 100000
open Go.RowKit

theorem kd_leave {l : List Nd} (h : Kd l) (a : Int) : Kd (leaveM l a) := by
  unfold leaveM
  cases nodeAt l (nodeR l a).parent with
  | none => exact h
  | some p => exact kd_put h _ _
theorem kd_before {l : List Nd} (h : Kd l) (a b c : Int) : Kd (beforeM l a b c).1 := by
  unfold beforeM
  split
  · exact h
  · refine kd_put ?_ _ _
    unfold l1M
    split
    · exact kd_put h _ _
    · exact kd_leave h a
theorem kd_remove {l : List Nd} (h : Kd l) (a b : Int) : Kd (removeM l a b).1 := by
  unfold removeM
  split
  · split
    · exact h
    · exact kd_leave h a
  · exact h
theorem remove_wf {l : List Nd} (h : WF l) (a b : Int) : WF (removeM l a b).1 := by
  unfold removeM
  split
  · split
    · exact h
    · exact leave_wf h a
  · exact h
theorem put_rn {l : List Nd} (h : WF l) (p : Int) : Fun Try.prog 121 [.sem (listS nodeE l), .v (.int .i64 p), .v (.slice none 0 0)] [] (.tup [.sem (listS nodeE (putM l p []).1), .v (.int .i64 (putM l p []).2)]) [] := fun ι F S w vals hh hv => by
  refine put_r h p [] (by simp) ι F S w vals hh ?_
  simp only [AVRs, AVR] at hv ⊢
  obtain ⟨u, r, rfl, h1, u2, r2, rfl, h2, u3, r3, rfl, rfl, rfl⟩ := hv
  exact ⟨u, _, rfl, h1, u2, _, rfl, h2, _, _, rfl, ⟨none, 0, rfl, Nat.le_refl _, .inl rfl⟩, rfl⟩
theorem editPlays_f {xs : List Ac} {es : List Edt} (hm : xs.length ≤ 9223372036854775807) (hs : ∀ x ∈ xs, AcStr x) : Fun Try.prog 25 [.sem (listS acE xs), .sem (listS edE es)] [] (.v (.bool true)) [] := by
  have hgr := great07 hm
  cases hg : greatM xs with
  | true =>
    rw [hg] at hgr
    refine fun_intro 114 Try.func25 rfl rfl rfl (fun ι F S w => ?_)
    (repeat (first | (apply v_cx; exact rfl; exact cbA rfl; (first | exact awake07 | exact hgr); exact rfl; exact rfl) | (apply v_move; exact rfl; exact rfl) | (apply v_assign; exact rfl; exact rfl) | refine run_seq ?_ | refine run_region ?_ | refine runL_nil ?_ | refine run_skip ?_ | (apply v_off; exact rfl; exact rfl) | (apply v_pick_t; exact rfl; exact rfl; exact rfl) | (apply run_cond; exact rfl; rotate_left; (focus (intro hb; cases hb; done)); intro hb; clear hb) | (apply run_cond; exact rfl; (focus (intro hb; cases hb; done)); intro hb; clear hb) | (apply v_not; exact rfl; exact rfl)))
    exact run_ret idN _ Try.func25 ⟨_, _, rfl, rfl, rfl⟩ rfl trivial trivial rfl
  | false =>
    rw [hg] at hgr
    by_cases hel : es.length > 100
    · refine fun_intro 114 Try.func25 rfl rfl rfl (fun ι F S w => ?_)
      (repeat (first | (apply v_cx; exact rfl; exact cbA rfl; (first | exact awake07 | exact hgr); exact rfl; exact rfl) | (apply v_move; exact rfl; exact rfl) | (apply v_assign; exact rfl; exact rfl) | refine run_seq ?_ | refine run_region ?_ | refine runL_nil ?_ | refine run_skip ?_ | (apply v_on; exact rfl) | (apply v_pick_f; exact rfl; exact rfl; exact rfl) | (apply run_cond; exact rfl; (focus (intro hb; cases hb; done)); intro hb; clear hb) | (apply v_not; exact rfl; exact rfl) | (apply v_gtr; exact rfl; exact rfl; exact rfl) | (apply v_lenL; exact slA rfl; exact rfl; exact rfl)))
      refine run_condY rfl (by simp; omega) ?_
      (repeat (first | (apply v_assign; exact rfl; exact rfl) | refine run_seq ?_ | refine run_region ?_ | refine runL_nil ?_))
      exact run_ret idN _ Try.func25 ⟨_, _, rfl, rfl, rfl⟩ rfl trivial trivial rfl
    · obtain ⟨hl, hx⟩ := acts_ok hg fun x hx => ⟨(hs x hx).s, (hs x hx).name, (hs x hx).want⟩
      have hw := wf_nodes hx
      have hkd := kd_nodes xs
      have hmade := madeL07 hl hx
      have hnodes := nodes_r hl hx
      generalize nodesM xs = l at hw hmade hnodes hkd
      refine fun_intro 114 Try.func25 rfl rfl rfl (fun ι F S w => ?_)
      (repeat (first | (apply v_cx; exact rfl; exact cbA rfl; (first | exact awake07 | exact hgr); exact rfl; exact rfl) | (apply v_move; exact rfl; exact rfl) | (apply v_assign; exact rfl; exact rfl) | refine run_seq ?_ | refine run_region ?_ | refine runL_nil ?_ | refine run_skip ?_ | (apply v_on; exact rfl) | (apply v_pick_f; exact rfl; exact rfl; exact rfl) | (apply run_cond; exact rfl; (focus (intro hb; cases hb; done)); intro hb; clear hb) | (apply v_not; exact rfl; exact rfl) | (apply v_gtr; exact rfl; exact rfl; exact rfl) | (apply v_lenL; exact slA rfl; exact rfl; exact rfl)))
      refine run_condN rfl (by simp; omega) ?_
      (repeat (first | (apply v_move; exact rfl; exact rfl) | refine run_seq ?_ | refine run_region ?_ | refine run_skip ?_))
      refine v_cR (mp [(0, 100), (1, 101)]) hmade rfl (cbA rfl) trivial (by kernel_rfl) (by kernel_rfl) (by kernel_rfl) (by kernel_rfl) (by kernel_rfl) (by kernel_rfl) (by kernel_rfl) (by kernel_rfl) rfl ?_
      (repeat (first | (apply v_cx; exact rfl; exact cbA rfl; (first | exact hnodes); exact rfl; exact rfl) | (apply v_move; exact rfl; exact rfl) | (apply v_assign; exact rfl; exact rfl) | refine run_seq ?_ | refine run_region ?_ | refine runL_nil ?_ | refine run_block ?_))
      refine v_loop (fun q : Nat × List Nd => ⟨[(1, .sem (listS edE es)), (5, .ptr 100 0), (6, .sem (listS nodeE q.2)), (7, .v (.int .i64 q.1))], [(100, .box 53 [.res 101]), (101, .obj (ownS 33 nodeE q.2))]⟩) (fun q => q.1 ≤ es.length ∧ WF q.2 ∧ Kd q.2) (fun q => es.length - q.1) (0, l) idN trivial (by repeat (first | exact trivial | refine ⟨rfl, ?_⟩)) (by repeat (first | exact trivial | refine ⟨rfl, ?_⟩)) rfl ⟨by simp, hw, hkd⟩ fun ⟨i, l⟩ ⟨hi, hw, hkd⟩ ih => ?_
      dsimp only at hi hw hkd ⊢
      (repeat (first | (apply v_move; exact rfl; exact rfl) | refine run_seq ?_ | refine run_region ?_ | refine runL_nil ?_ | (apply v_lss; exact rfl; exact rfl; exact rfl) | (apply v_lenL; exact slA rfl; exact rfl; exact rfl)))
      refine run_cond rfl (fun hb => ?_) (fun hb => ?_)
      · have hlt : i < es.length := by simpa using hb
        have hx2 : es[((i : Int)).toNat]? = some es[i] := by simp [hlt]
        generalize es[i] = x at *
        (repeat (first | (apply v_idxL; exact slA rfl; exact tyA rfl; exact rfl; exact rfl; exact rfl; exact rfl; exact (by omega); (first | exact hx2); exact rfl) | (apply v_move; exact rfl; exact rfl) | (apply v_assign; exact rfl; exact rfl) | refine run_seq ?_ | refine run_region ?_ | refine runL_nil ?_ | refine run_skip ?_ | refine run_block ?_ | (apply v_fldP; exact flA rfl; exact rfl; exact rfl; exact rfl) | (apply v_loadB; exact tyA rfl; exact rfl; exact rfl; exact rfl; exact rfl; exact rfl; exact rfl) | (apply v_loadA; exact tyA rfl; exact rfl; exact rfl; exact rfl; exact rfl; exact rfl; exact rfl) | (apply v_eql; exact rfl; exact rfl; exact rfl) | (apply v_allocD; exact tyA rfl; exact rfl; exact rfl; exact rfl; exact rfl) | (apply v_storeW; exact tyA rfl; exact rfl; exact rfl; exact rfl; exact rfl; exact rfl; exact rfl; exact rfl)))
        apply via3 (p := ∀ (l' : List Nd) (e : Int), WF l' → Kd l' → RunL _ _ _ ⟨[(1, .sem (listS edE es)), (5, .ptr 100 0), (6, .sem (listS nodeE l')), (7, .v (.int .i64 i)), (107, .v (.bool (e != e)))], [(100, .box 53 [.res 102]), (102, .obj (ownS 33 nodeE l'))]⟩ _)
        rotate_left
        · intro key
          refine run_cond rfl (fun h => ?_) (fun h => ?_)
          · have h1 := before_f hw x.a x.b x.c
            have h2 := before7 hw hkd x.a x.b x.c
            have h3 := before_wf hw x.a x.b x.c
            have h4 := kd_before hkd x.a x.b x.c
            generalize beforeM l x.a x.b x.c = T at *
            (repeat (first | (apply v_move; exact rfl; exact rfl) | refine run_seq ?_ | refine run_region ?_ | (apply v_fldP; exact flA rfl; exact rfl; exact rfl; exact rfl) | (apply v_loadB; exact tyA rfl; exact rfl; exact rfl; exact rfl; exact rfl; exact rfl; exact rfl)))
            refine v_cR (mp [(0, 100), (1, 101), (2, 102)]) h1 rfl (cbA rfl) ⟨rfl, rfl, trivial⟩ (by kernel_rfl) (by kernel_rfl) (by kernel_rfl) (by kernel_rfl) (by kernel_rfl) (by kernel_rfl) (by kernel_rfl) (by kernel_rfl) rfl ?_
            (repeat (first | (apply v_cx; exact rfl; exact cbA rfl; (first | exact h2); exact rfl; exact rfl) | (apply v_move; exact rfl; exact rfl) | (apply v_assign; exact rfl; exact rfl) | refine run_seq ?_ | refine run_region ?_ | refine runL_nil ?_ | refine run_inBlock ?_ | (apply v_extract; exact rfl; exact rfl; exact rfl) | (apply v_fldP; exact flA rfl; exact rfl; exact rfl; exact rfl) | (apply v_loadB; exact tyA rfl; exact rfl; exact rfl; exact rfl; exact rfl; exact rfl; exact rfl) | (apply v_neq; exact rfl; exact rfl; exact rfl)))
            refine runL_weak idN (σ2 := ⟨[(1, .sem (listS edE es)), (5, .ptr 100 0), (6, .sem (listS nodeE T.1)), (7, .v (.int .i64 i)), (107, .v (.bool (T.2 != T.2)))], [(100, .box 53 [.res 102]), (102, .obj (ownS 33 nodeE T.1))]⟩) ?_ ?_ ?_ ?_ (key.out T.1 T.2 h3 h4) <;> first | exact trivial | exact ⟨rfl, rfl, trivial⟩ | exact ⟨rfl, rfl, rfl, rfl, rfl, trivial⟩ | rfl
          (repeat (first | (apply v_assign; exact rfl; exact rfl) | refine run_seq ?_ | refine run_region ?_ | refine runL_nil ?_ | (apply v_eql; exact rfl; exact rfl; exact rfl)))
          refine run_cond rfl (fun h => ?_) (fun h => ?_)
          · have h1 := append_e hw x.a x.b
            have h2 := before7 hw hkd x.a x.b 0
            have h3 := before_wf hw x.a x.b 0
            have h4 := kd_before hkd x.a x.b 0
            generalize beforeM l x.a x.b 0 = T at *
            (repeat (first | (apply v_move; exact rfl; exact rfl) | refine run_seq ?_ | refine run_region ?_ | (apply v_fldP; exact flA rfl; exact rfl; exact rfl; exact rfl) | (apply v_loadB; exact tyA rfl; exact rfl; exact rfl; exact rfl; exact rfl; exact rfl; exact rfl)))
            refine v_cR (mp [(0, 100), (1, 101), (2, 102)]) h1 rfl (cbA rfl) ⟨rfl, rfl, trivial⟩ (by kernel_rfl) (by kernel_rfl) (by kernel_rfl) (by kernel_rfl) (by kernel_rfl) (by kernel_rfl) (by kernel_rfl) (by kernel_rfl) rfl ?_
            (repeat (first | (apply v_cx; exact rfl; exact cbA rfl; (first | exact h2); exact rfl; exact rfl) | (apply v_move; exact rfl; exact rfl) | (apply v_assign; exact rfl; exact rfl) | refine run_seq ?_ | refine run_region ?_ | refine runL_nil ?_ | refine run_inBlock ?_ | (apply v_extract; exact rfl; exact rfl; exact rfl) | (apply v_fldP; exact flA rfl; exact rfl; exact rfl; exact rfl) | (apply v_loadB; exact tyA rfl; exact rfl; exact rfl; exact rfl; exact rfl; exact rfl; exact rfl) | (apply v_neq; exact rfl; exact rfl; exact rfl)))
            refine runL_weak idN (σ2 := ⟨[(1, .sem (listS edE es)), (5, .ptr 100 0), (6, .sem (listS nodeE T.1)), (7, .v (.int .i64 i)), (107, .v (.bool (T.2 != T.2)))], [(100, .box 53 [.res 102]), (102, .obj (ownS 33 nodeE T.1))]⟩) ?_ ?_ ?_ ?_ (key.out T.1 T.2 h3 h4) <;> first | exact trivial | exact ⟨rfl, rfl, trivial⟩ | exact ⟨rfl, rfl, rfl, rfl, rfl, trivial⟩ | rfl
          (repeat (first | (apply v_assign; exact rfl; exact rfl) | refine run_seq ?_ | refine run_region ?_ | refine runL_nil ?_ | (apply v_eql; exact rfl; exact rfl; exact rfl)))
          refine run_cond rfl (fun h => ?_) (fun h => ?_)
          · have h1 := remove_f hw x.a x.b
            have h2 := remove7 hw x.a x.b
            have h3 := remove_wf hw x.a x.b
            have h4 := kd_remove hkd x.a x.b
            generalize removeM l x.a x.b = T at *
            (repeat (first | (apply v_move; exact rfl; exact rfl) | refine run_seq ?_ | refine run_region ?_ | (apply v_fldP; exact flA rfl; exact rfl; exact rfl; exact rfl) | (apply v_loadB; exact tyA rfl; exact rfl; exact rfl; exact rfl; exact rfl; exact rfl; exact rfl)))
            refine v_cR (mp [(0, 100), (1, 101), (2, 102)]) h1 rfl (cbA rfl) ⟨rfl, rfl, trivial⟩ (by kernel_rfl) (by kernel_rfl) (by kernel_rfl) (by kernel_rfl) (by kernel_rfl) (by kernel_rfl) (by kernel_rfl) (by kernel_rfl) rfl ?_
            (repeat (first | (apply v_cx; exact rfl; exact cbA rfl; (first | exact h2); exact rfl; exact rfl) | (apply v_move; exact rfl; exact rfl) | (apply v_assign; exact rfl; exact rfl) | refine run_seq ?_ | refine run_region ?_ | refine runL_nil ?_ | refine run_inBlock ?_ | (apply v_extract; exact rfl; exact rfl; exact rfl) | (apply v_fldP; exact flA rfl; exact rfl; exact rfl; exact rfl) | (apply v_loadB; exact tyA rfl; exact rfl; exact rfl; exact rfl; exact rfl; exact rfl; exact rfl) | (apply v_neq; exact rfl; exact rfl; exact rfl)))
            refine runL_weak idN (σ2 := ⟨[(1, .sem (listS edE es)), (5, .ptr 100 0), (6, .sem (listS nodeE T.1)), (7, .v (.int .i64 i)), (107, .v (.bool (T.2 != T.2)))], [(100, .box 53 [.res 102]), (102, .obj (ownS 33 nodeE T.1))]⟩) ?_ ?_ ?_ ?_ (key.out T.1 T.2 h3 h4) <;> first | exact trivial | exact ⟨rfl, rfl, trivial⟩ | exact ⟨rfl, rfl, rfl, rfl, rfl, trivial⟩ | rfl
          (repeat (first | (apply v_assign; exact rfl; exact rfl) | refine run_seq ?_ | refine run_region ?_ | refine runL_nil ?_ | (apply v_eql; exact rfl; exact rfl; exact rfl)))
          refine run_cond rfl (fun h => ?_) (fun h => ?_)
          · have h1 := clear_f hw x.a
            have h2 := put_rn hw x.a
            have h3 := wf_put hw x.a []
            have h4 := kd_put hkd x.a []
            generalize putM l x.a [] = T at *
            (repeat (first | (apply v_move; exact rfl; exact rfl) | refine run_seq ?_ | refine run_region ?_ | (apply v_fldP; exact flA rfl; exact rfl; exact rfl; exact rfl) | (apply v_loadB; exact tyA rfl; exact rfl; exact rfl; exact rfl; exact rfl; exact rfl; exact rfl)))
            refine v_cR (mp [(0, 100), (1, 101), (2, 102)]) h1 rfl (cbA rfl) ⟨rfl, rfl, trivial⟩ (by kernel_rfl) (by kernel_rfl) (by kernel_rfl) (by kernel_rfl) (by kernel_rfl) (by kernel_rfl) (by kernel_rfl) (by kernel_rfl) rfl ?_
            (repeat (first | (apply v_cx; exact rfl; exact cbA rfl; (first | exact h2); exact rfl; exact rfl) | (apply v_move; exact rfl; exact rfl) | (apply v_assign; exact rfl; exact rfl) | refine run_seq ?_ | refine run_region ?_ | refine runL_nil ?_ | refine run_inBlock ?_ | (apply v_extract; exact rfl; exact rfl; exact rfl) | (apply v_fldP; exact flA rfl; exact rfl; exact rfl; exact rfl) | (apply v_loadB; exact tyA rfl; exact rfl; exact rfl; exact rfl; exact rfl; exact rfl; exact rfl) | (apply v_neq; exact rfl; exact rfl; exact rfl)))
            refine runL_weak idN (σ2 := ⟨[(1, .sem (listS edE es)), (5, .ptr 100 0), (6, .sem (listS nodeE T.1)), (7, .v (.int .i64 i)), (107, .v (.bool (T.2 != T.2)))], [(100, .box 53 [.res 102]), (102, .obj (ownS 33 nodeE T.1))]⟩) ?_ ?_ ?_ ?_ (key.out T.1 T.2 h3 h4) <;> first | exact trivial | exact ⟨rfl, rfl, trivial⟩ | exact ⟨rfl, rfl, rfl, rfl, rfl, trivial⟩ | rfl
          (repeat (first | (apply v_move; exact rfl; exact rfl) | refine run_seq ?_ | refine run_region ?_ | refine run_skip ?_ | refine run_inBlock ?_ | (apply v_on; exact rfl) | (apply v_neq; exact rfl; exact rfl; exact rfl)))
          have hall := all_m hw
          have hsame := same_r (l := l) (m := l) (by have := hw.len; omega) (kids_all hw)
          rw [decide_eq_true rfl] at hsame
          refine v_cR (mp [(0, 100), (1, 101)]) hall rfl (cbA rfl) ⟨rfl, rfl, trivial⟩ (by kernel_rfl) (by kernel_rfl) (by kernel_rfl) (by kernel_rfl) (by kernel_rfl) (by kernel_rfl) (by kernel_rfl) (by kernel_rfl) rfl ?_
          (repeat (first | (apply v_cx; exact rfl; exact cbA rfl; (first | exact hsame); exact rfl; exact rfl) | (apply v_move; exact rfl; exact rfl) | (apply v_assign; exact rfl; exact rfl) | refine run_region ?_ | refine runL_nil ?_ | refine run_skip ?_ | refine run_inBlock ?_ | (apply v_on; exact rfl) | (apply v_pick_f; exact rfl; exact rfl; exact rfl) | (apply run_cond; exact rfl; (focus (intro hb; cases hb; done)); intro hb; clear hb) | (apply v_not; exact rfl; exact rfl) | (apply v_add; exact rfl; exact rfl; exact rfl; exact (by omega))))
          exact v_again ih (i + 1, l) idN trivial (by repeat (first | exact trivial | refine ⟨rfl, ?_⟩)) (by repeat (first | exact trivial | refine ⟨rfl, ?_⟩)) rfl ⟨by dsimp only; omega, hw, hkd⟩ (by dsimp only; omega)
        · intro l' e hw' hkd'
          have hall := all_m hw'
          have hsame := same_r (l := l') (m := l') (by have := hw'.len; omega) (kids_all hw')
          rw [decide_eq_true rfl] at hsame
          refine v_is 107 false rfl (bne_self_eq_false e) ?_
          (repeat (first | (apply v_move; exact rfl; exact rfl) | (apply v_on; exact rfl)))
          refine v_cR (mp [(0, 100), (1, 102)]) hall rfl (cbA rfl) ⟨rfl, rfl, trivial⟩ (by kernel_rfl) (by kernel_rfl) (by kernel_rfl) (by kernel_rfl) (by kernel_rfl) (by kernel_rfl) (by kernel_rfl) (by kernel_rfl) rfl ?_
          (repeat (first | (apply v_cx; exact rfl; exact cbA rfl; (first | exact hsame); exact rfl; exact rfl) | (apply v_move; exact rfl; exact rfl) | (apply v_assign; exact rfl; exact rfl) | refine run_region ?_ | refine runL_nil ?_ | refine run_skip ?_ | refine run_inBlock ?_ | (apply v_on; exact rfl) | (apply v_pick_f; exact rfl; exact rfl; exact rfl) | (apply run_cond; exact rfl; (focus (intro hb; cases hb; done)); intro hb; clear hb) | (apply v_not; exact rfl; exact rfl) | (apply v_add; exact rfl; exact rfl; exact rfl; exact (by omega))))
          exact v_again ih (i + 1, l') (mp [(101, 102)]) trivial (by repeat (first | exact trivial | refine ⟨rfl, ?_⟩)) (by repeat (first | exact trivial | refine ⟨rfl, ?_⟩)) rfl ⟨by dsimp only; omega, hw', hkd'⟩ (by dsimp only; omega)
      · (repeat (first | (apply v_assign; exact rfl; exact rfl) | refine run_seq ?_ | refine run_region ?_ | refine runL_nil ?_ | (apply run_exit; exact rfl)))
        exact run_ret idN _ Try.func25 ⟨_, _, rfl, rfl, rfl⟩ rfl trivial trivial rfl
theorem editPlays_walk (A0 : Option Addr) (c0 : Nat) (xs : List Ac) (A1 : Option Addr) (c1 : Nat) (es : List Edt) (W : World) (hv : AVRs ι0 (old W) W [.sem (listS acE xs)] [.slice A0 xs.length c0]) (hs : ∀ x ∈ xs, AcStr x) (hm : xs.length ≤ 9223372036854775807) (hv1 : AVRs ι0 (old W) W [.sem (listS edE es)] [.slice A1 es.length c1]) : Calls Try.prog 25 #[.slice A0 xs.length c0, .slice A1 es.length c1] W fun e w' => e = .returned (.bool true) ∧ Below W.heap.size W w' :=
  (editPlays_f hm hs).calls (hv.append hv1)
end Go.Proofs.Ytjkidecaciomgaa
