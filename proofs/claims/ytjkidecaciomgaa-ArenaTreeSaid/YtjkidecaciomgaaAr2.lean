/- Law 04: ArenaTree. -/
import Derived.Test.YtjkidecaciomgaaAr1
namespace Go.Proofs.Ytjkidecaciomgaa
set_option linter.unusedVariables false
set_option linter.unusedSimpArgs false
set_option maxRecDepth 100000
open Go.RowKit

/-- Hidden from arithmetic. -/
structure Bx (p : Prop) : Prop where
  out : p
theorem via2 {p G : Prop} (h : p) (k : Bx p → G) : G := k ⟨h⟩
theorem all_a {l : List Nd} (h : WF l) : Fun Try.prog 41 [forA l] [] (.sem (listS nodeE l)) [] := (all_f (by have := h.len; omega) (kids_all h)).freeze
theorem arenaTree_f {xs : List Ac} (hm : xs.length ≤ 9223372036854775807) (hs : ∀ x ∈ xs, AcStr x) : Fun Try.prog 4 [.sem (listS acE xs)] [] (.v (.bool true)) [] := by
  have hgr := great04 hm
  cases hg : greatM xs with
  | true =>
    rw [hg] at hgr
    refine fun_intro 189 Try.func4 rfl rfl rfl (fun ι F S w => ?_)
    (repeat (first | (apply v_cx; exact rfl; exact cbA rfl; (first | exact awake04 | exact hgr); exact rfl; exact rfl) | (apply v_move; exact rfl; exact rfl) | (apply v_assign; exact rfl; exact rfl) | refine run_seq ?_ | refine run_region ?_ | refine runL_nil ?_ | refine run_skip ?_ | (apply run_cond; exact rfl; rotate_left; (focus (intro hb; cases hb; done)); intro hb; clear hb) | (apply run_cond; exact rfl; (focus (intro hb; cases hb; done)); intro hb; clear hb) | (apply v_not; exact rfl; exact rfl)))
    exact run_ret idN _ Try.func4 ⟨_, _, rfl, rfl, rfl⟩ rfl trivial trivial rfl
  | false =>
    rw [hg] at hgr
    obtain ⟨hl, hx⟩ := acts_ok hg fun x hx => ⟨(hs x hx).s, (hs x hx).name, (hs x hx).want⟩
    have hw := wf_nodes hx
    have hmade := made04 hl hx
    generalize nodesM xs = l at hw hmade
    have hall := all_a hw
    have hlen := hw.len
    refine fun_intro 189 Try.func4 rfl rfl rfl (fun ι F S w => ?_)
    (repeat (first | (apply v_cx; exact rfl; exact cbA rfl; (first | exact awake04 | exact hgr | exact hmade | exact hall); exact rfl; exact rfl) | (apply v_move; exact rfl; exact rfl) | (apply v_assign; exact rfl; exact rfl) | refine run_seq ?_ | refine run_region ?_ | refine runL_nil ?_ | refine run_skip ?_ | refine run_block ?_ | (apply run_cond; exact rfl; (focus (intro hb; cases hb; done)); intro hb; clear hb) | (apply v_not; exact rfl; exact rfl)))
    refine v_loop (fun i : Nat => ⟨[(3, .sem (listS nodeE l)), (4, .v (.int .i64 i))], []⟩) (fun i => i ≤ l.length) (fun i => l.length - i) 0 idN trivial (by repeat (first | exact trivial | refine ⟨rfl, ?_⟩)) (by repeat (first | exact trivial | refine ⟨rfl, ?_⟩)) rfl (by omega) fun i hi ih => ?_
    (repeat (first | (apply v_move; exact rfl; exact rfl) | refine run_seq ?_ | refine run_region ?_ | refine runL_nil ?_ | (apply v_lss; exact rfl; exact rfl; exact rfl) | (apply v_lenL; exact slA rfl; exact rfl; exact rfl)))
    refine run_cond rfl (fun hb => ?_) (fun hb => ?_)
    · have hlt : i < l.length := by simpa using hb
      have hx2 : l[((i : Int)).toNat]? = some l[i] := by simp [hlt]
      have hn : nodeAt l ((i : Int) + 1) = some l[i] := by
        unfold nodeAt
        rw [if_pos (by omega), show ((i : Int) + 1 - 1).toNat = i by omega, List.getElem?_eq_getElem hlt]
      generalize l[i] = x at *
      have hkl : x.kids.length ≤ l.length := nodup_len l.length x.kids (hw.nod hn) fun e he => nodeAt_isSome.1 ((kids_ok hw _ x hn).2 e he)
      have hnod := hw.nod hn
      (repeat (first | (apply v_assign; exact rfl; exact rfl) | refine run_seq ?_ | refine run_region ?_ | refine runL_nil ?_ | refine run_skip ?_ | refine run_block ?_))
      refine v_loop (fun k : Nat => ⟨[(3, .sem (listS nodeE l)), (4, .v (.int .i64 i)), (5, .v (.int .i64 k))], []⟩) (fun k => k ≤ x.kids.length) (fun k => x.kids.length - k) 0 idN trivial (by repeat (first | exact trivial | refine ⟨rfl, ?_⟩)) (by repeat (first | exact trivial | refine ⟨rfl, ?_⟩)) rfl (by omega) fun k hk ih2 => ?_
      (repeat (first | (apply v_idxL; exact slA rfl; exact tyA rfl; exact rfl; exact rfl; exact rfl; exact rfl; exact (by omega); (first | exact hx2); exact rfl) | (apply v_move; exact rfl; exact rfl) | refine run_seq ?_ | refine run_region ?_ | refine runL_nil ?_ | (apply v_fldA; exact flA rfl; exact rfl; exact rfl; exact rfl) | (apply v_loadA; exact tyA rfl; exact rfl; exact rfl; exact rfl; exact rfl; exact rfl; exact rfl) | (apply v_lss; exact rfl; exact rfl; exact rfl) | (apply v_lenL; exact slA rfl; exact rfl; exact rfl)))
      refine run_cond rfl (fun hb => ?_) (fun hb => ?_)
      · have hltk : k < x.kids.length := by simpa using hb
        have hkx : x.kids[((k : Int)).toNat]? = some x.kids[k] := by simp [hltk]
        obtain ⟨y, hy, hyp⟩ := hw.kid hn (List.getElem_mem hltk)
        obtain ⟨y1, y2, y3⟩ := nodeAt_some hy
        have hnt : x.kids[k] ∉ x.kids.take k := fun hin => by
          have h1 : (x.kids.take k ++ x.kids.drop k).Nodup := by rw [List.take_append_drop]; exact hnod
          rw [List.nodup_append] at h1
          exact h1.2.2 _ hin _ (by rw [List.drop_eq_getElem_cons hltk]; exact List.mem_cons_self) rfl
        generalize x.kids[k] = c at *
        (repeat (first | (apply v_idxL; exact slA rfl; exact tyA rfl; exact rfl; exact rfl; exact rfl; exact rfl; exact (by omega); (first | exact hx2 | exact hkx); exact rfl) | (apply v_cx; exact rfl; exact cbA rfl; (first | exact there_s hy); exact rfl; exact rfl) | (apply v_move; exact rfl; exact rfl) | refine run_seq ?_ | refine run_region ?_ | refine run_skip ?_ | refine run_block ?_ | (apply v_fldA; exact flA rfl; exact rfl; exact rfl; exact rfl) | (apply v_loadA; exact tyA rfl; exact rfl; exact rfl; exact rfl; exact rfl; exact rfl; exact rfl) | (apply v_on; exact rfl) | (apply v_not; exact rfl; exact rfl) | (apply v_sub; exact rfl; exact rfl; exact rfl; exact (by omega))))
        refine v_is 45 false rfl (by simp) ?_
        (repeat (first | (apply v_idxL; exact slA rfl; exact tyA rfl; exact rfl; exact rfl; exact rfl; exact rfl; exact (by omega); (first | exact hx2 | exact hkx | exact y3); exact rfl) | (apply v_move; exact rfl; exact rfl) | refine runL_nil ?_ | (apply v_fldA; exact flA rfl; exact rfl; exact rfl; exact rfl) | (apply v_loadA; exact tyA rfl; exact rfl; exact rfl; exact rfl; exact rfl; exact rfl; exact rfl) | (apply v_on; exact rfl) | (apply v_pick_f; exact rfl; exact rfl; exact rfl) | (apply v_neq; exact rfl; exact rfl; exact rfl) | (apply v_add; exact rfl; exact rfl; exact rfl; exact (by omega))))
        refine run_condN rfl (by simp [hyp]) ?_
        (repeat (first | (apply v_assign; exact rfl; exact rfl) | refine run_seq ?_ | refine run_region ?_ | refine runL_nil ?_ | refine run_skip ?_ | refine run_block ?_))
        refine v_loop (fun j : Nat => ⟨[(3, .sem (listS nodeE l)), (4, .v (.int .i64 i)), (5, .v (.int .i64 k)), (6, .v (.int .i64 j))], []⟩) (fun j => j ≤ k) (fun j => k - j) 0 idN trivial (by repeat (first | exact trivial | refine ⟨rfl, ?_⟩)) (by repeat (first | exact trivial | refine ⟨rfl, ?_⟩)) rfl (by omega) fun j hj ih3 => ?_
        (repeat (first | (apply v_move; exact rfl; exact rfl) | refine run_seq ?_ | refine run_region ?_ | refine runL_nil ?_ | (apply v_lss; exact rfl; exact rfl; exact rfl)))
        refine run_cond rfl (fun hb => ?_) (fun hb => ?_)
        · have hltj : j < k := by simpa using hb
          have hjx : x.kids[((j : Int)).toNat]? = some (x.kids[j]'(by omega)) := by simp [show j < x.kids.length by omega]
          have hne : x.kids[j]'(by omega) ≠ c := fun e => hnt (e ▸ by
            refine List.mem_of_getElem? (i := j) ?_
            rw [List.getElem?_take, if_pos hltj]
            exact List.getElem?_eq_getElem _)
          generalize x.kids[j]'(by omega) = cj at *
          (repeat (first | refine run_seq ?_ | refine run_skip ?_ | refine run_block ?_))
          refine run_draws (by kernel_rfl) (by kernel_rfl) ?_
          (repeat (first | (apply p_idxL; exact slA rfl; exact tyA rfl; exact rfl; exact rfl; exact rfl; exact rfl; exact (by omega); (first | exact hx2 | exact hjx | exact hkx); exact rfl; exact rfl) | (apply p_move; exact rfl; exact rfl; exact rfl) | (apply p_fldA; exact flA rfl; exact rfl; exact rfl; exact rfl; exact rfl) | (apply p_loadA; exact tyA rfl; exact rfl; exact rfl; exact rfl; exact rfl; exact rfl; exact rfl; exact rfl) | (apply p_eql; exact rfl; exact rfl; exact rfl; exact rfl)))
          refine planL_nil (by kernel_rfl) ?_
          refine run_condN rfl (by simpa using hne) ?_
          (repeat (first | (apply v_move; exact rfl; exact rfl) | (apply v_assign; exact rfl; exact rfl) | refine run_region ?_ | refine runL_nil ?_ | refine run_skip ?_ | refine run_inBlock ?_ | (apply v_add; exact rfl; exact rfl; exact rfl; exact (by omega))))
          exact v_again ih3 (j + 1) idN trivial (by repeat (first | exact trivial | refine ⟨rfl, ?_⟩)) (by repeat (first | exact trivial | refine ⟨rfl, ?_⟩)) rfl (by omega) (by omega)
        · (repeat (first | (apply v_move; exact rfl; exact rfl) | (apply v_assign; exact rfl; exact rfl) | refine run_region ?_ | refine runL_nil ?_ | refine run_inBlock ?_ | (apply run_exit; exact rfl) | (apply v_add; exact rfl; exact rfl; exact rfl; exact (by omega))))
          exact v_again ih2 (k + 1) idN trivial (by repeat (first | exact trivial | refine ⟨rfl, ?_⟩)) (by repeat (first | exact trivial | refine ⟨rfl, ?_⟩)) rfl (by omega) (by omega)
      · clear ih2
        have hover := over_r hw ((i : Int) + 1)
        have hol := ch_len (desc_up hw) ((i : Int) + 1)
        generalize ch l upX ((i : Int) + 1) = ov at *
        have hroot : x.parent ≠ 0 → x.kind ≠ 1 ∧ x.kind ≠ 3 := fun hp => by
          have h1 : rootedB x ≠ true := fun e => hp (hw.root hn e)
          simpa [rootedB] using h1
        have hshad := hw.shad hn
        apply via2
        rotate_left
        · intro key
          by_cases hp : x.parent = 0
          · (repeat (first | (apply v_idxL; exact slA rfl; exact tyA rfl; exact rfl; exact rfl; exact rfl; exact rfl; exact (by omega); (first | exact hx2); exact rfl) | (apply v_move; exact rfl; exact rfl) | (apply v_assign; exact rfl; exact rfl) | refine run_seq ?_ | refine run_region ?_ | refine runL_nil ?_ | (apply run_exit; exact rfl) | (apply v_fldA; exact flA rfl; exact rfl; exact rfl; exact rfl) | (apply v_loadA; exact tyA rfl; exact rfl; exact rfl; exact rfl; exact rfl; exact rfl; exact rfl) | (apply v_neq; exact rfl; exact rfl; exact rfl)))
            refine run_condN rfl (by simpa using hp) ?_
            (repeat (first | (apply v_move; exact rfl; exact rfl) | refine run_seq ?_ | refine run_region ?_ | refine run_skip ?_ | (apply v_add; exact rfl; exact rfl; exact rfl; exact (by omega))))
            refine runL_weak idN (σ2 := ⟨[(3, .sem (listS nodeE l)), (4, .v (.int .i64 i)), (124, .sem (listS nodeE l)), (126, .v (.int .i64 ((i : Int) + 1)))], []⟩) ?_ ?_ ?_ ?_ key.out <;> first | exact trivial | exact ⟨rfl, rfl, rfl, rfl, trivial⟩ | rfl
          · obtain ⟨z, hz, hmem⟩ := (hw.par hn).resolve_left hp
            obtain ⟨z1, z2, z3⟩ := nodeAt_some hz
            have hzl := (kids_ok hw _ z hz).1
            (repeat (first | (apply v_idxL; exact slA rfl; exact tyA rfl; exact rfl; exact rfl; exact rfl; exact rfl; exact (by omega); (first | exact hx2); exact rfl) | (apply v_move; exact rfl; exact rfl) | (apply v_assign; exact rfl; exact rfl) | refine run_seq ?_ | refine run_region ?_ | refine runL_nil ?_ | (apply run_exit; exact rfl) | (apply v_fldA; exact flA rfl; exact rfl; exact rfl; exact rfl) | (apply v_loadA; exact tyA rfl; exact rfl; exact rfl; exact rfl; exact rfl; exact rfl; exact rfl) | (apply v_neq; exact rfl; exact rfl; exact rfl)))
            refine run_condY rfl (by simpa using hp) ?_
            (repeat (first | (apply v_cx; exact rfl; exact cbA rfl; (first | exact there_s hz); exact rfl; exact rfl) | (apply v_move; exact rfl; exact rfl) | (apply v_assign; exact rfl; exact rfl) | refine run_seq ?_ | refine run_region ?_ | refine runL_nil ?_ | refine run_skip ?_ | refine run_block ?_ | (apply run_cond; exact rfl; (focus (intro hb; cases hb; done)); intro hb; clear hb) | (apply v_not; exact rfl; exact rfl)))
            refine v_loop (fun q : Nat × Bool => ⟨[(3, .sem (listS nodeE l)), (4, .v (.int .i64 i)), (7, .v (.int .i64 x.parent)), (8, .v (.bool q.2)), (9, .v (.int .i64 q.1))], []⟩) (fun q => q.1 ≤ z.kids.length ∧ q.2 = decide (((i : Int) + 1) ∈ z.kids.take q.1)) (fun q => z.kids.length - q.1) (0, false) idN trivial (by repeat (first | exact trivial | refine ⟨rfl, ?_⟩)) (by repeat (first | exact trivial | refine ⟨rfl, ?_⟩)) rfl ⟨by simp, by simp⟩ fun ⟨k, th⟩ ⟨hk, hth⟩ ih4 => ?_
            dsimp only at hk hth ⊢
            (repeat (first | (apply v_idxL; exact slA rfl; exact tyA rfl; exact rfl; exact rfl; exact rfl; exact rfl; exact (by omega); (first | exact z3); exact rfl) | (apply v_move; exact rfl; exact rfl) | refine run_seq ?_ | refine run_region ?_ | refine runL_nil ?_ | (apply v_fldA; exact flA rfl; exact rfl; exact rfl; exact rfl) | (apply v_loadA; exact tyA rfl; exact rfl; exact rfl; exact rfl; exact rfl; exact rfl; exact rfl) | (apply v_lss; exact rfl; exact rfl; exact rfl) | (apply v_lenL; exact slA rfl; exact rfl; exact rfl) | (apply v_sub; exact rfl; exact rfl; exact rfl; exact (by omega))))
            refine run_cond rfl (fun hb => ?_) (fun hb => ?_)
            · have hltk : k < z.kids.length := by simpa using hb
              have hkz : z.kids[((k : Int)).toNat]? = some z.kids[k] := by simp [hltk]
              have htk : z.kids.take (k + 1) = z.kids.take k ++ [z.kids[k]] := by rw [List.take_add_one, List.getElem?_eq_getElem hltk]; rfl
              generalize z.kids[k] = c at *
              have hst : decide (((i : Int) + 1) ∈ z.kids.take (k + 1)) = (th || (c == (i : Int) + 1)) := by
                rw [htk, hth, Bool.eq_iff_iff]
                simp only [decide_eq_true_eq, List.mem_append, List.mem_singleton, Bool.or_eq_true, beq_iff_eq]
                exact or_congr Iff.rfl ⟨fun e => e.symm, fun e => e.symm⟩
              cases th with
              | true =>
                (repeat (first | (apply v_move; exact rfl; exact rfl) | (apply v_assign; exact rfl; exact rfl) | refine run_seq ?_ | refine run_region ?_ | refine runL_nil ?_ | refine run_skip ?_ | refine run_block ?_ | refine run_inBlock ?_ | (apply v_off; exact rfl; exact rfl) | (apply v_pick_t; exact rfl; exact rfl; exact rfl) | (apply v_add; exact rfl; exact rfl; exact rfl; exact (by omega))))
                exact v_again ih4 (k + 1, true) idN trivial (by repeat (first | exact trivial | refine ⟨rfl, ?_⟩)) (by repeat (first | exact trivial | refine ⟨rfl, ?_⟩)) rfl ⟨by dsimp only; omega, by dsimp only; rw [hst]; rfl⟩ (by dsimp only; omega)
              | false =>
                (repeat (first | (apply v_idxL; exact slA rfl; exact tyA rfl; exact rfl; exact rfl; exact rfl; exact rfl; exact (by omega); (first | exact z3 | exact hkz); exact rfl) | (apply v_move; exact rfl; exact rfl) | (apply v_assign; exact rfl; exact rfl) | refine run_seq ?_ | refine run_region ?_ | refine runL_nil ?_ | refine run_skip ?_ | refine run_block ?_ | refine run_inBlock ?_ | (apply v_fldA; exact flA rfl; exact rfl; exact rfl; exact rfl) | (apply v_loadA; exact tyA rfl; exact rfl; exact rfl; exact rfl; exact rfl; exact rfl; exact rfl) | (apply v_on; exact rfl) | (apply v_pick_f; exact rfl; exact rfl; exact rfl) | (apply v_eql; exact rfl; exact rfl; exact rfl) | (apply v_add; exact rfl; exact rfl; exact rfl; exact (by omega)) | (apply v_sub; exact rfl; exact rfl; exact rfl; exact (by omega))))
                exact v_again ih4 (k + 1, c == (i : Int) + 1) idN trivial (by repeat (first | exact trivial | refine ⟨rfl, ?_⟩)) (by repeat (first | exact trivial | refine ⟨rfl, ?_⟩)) rfl ⟨by dsimp only; omega, by dsimp only; rw [hst]; rfl⟩ (by dsimp only; omega)
            · have hge : k = z.kids.length := by have : ¬ k < z.kids.length := (by simpa using hb); omega
              have ht : th = true := by rw [hth, hge, List.take_length]; exact decide_eq_true hmem
              subst ht
              clear ih4
              (repeat (first | (apply v_move; exact rfl; exact rfl) | refine run_seq ?_ | refine run_region ?_ | refine runL_nil ?_ | refine run_skip ?_ | (apply run_exit; exact rfl) | (apply run_cond; exact rfl; (focus (intro hb; cases hb; done)); intro hb; clear hb) | (apply v_not; exact rfl; exact rfl) | (apply v_add; exact rfl; exact rfl; exact rfl; exact (by omega))))
              refine runL_weak idN (σ2 := ⟨[(3, .sem (listS nodeE l)), (4, .v (.int .i64 i)), (124, .sem (listS nodeE l)), (126, .v (.int .i64 ((i : Int) + 1)))], []⟩) ?_ ?_ ?_ ?_ key.out <;> first | exact trivial | exact ⟨rfl, rfl, rfl, rfl, trivial⟩ | rfl
        (repeat (first | (apply v_cx; exact rfl; exact cbA rfl; (first | exact hover); exact rfl; exact rfl) | (apply v_move; exact rfl; exact rfl) | (apply v_gtr; exact rfl; exact rfl; exact rfl) | (apply v_lenL; exact slA rfl; exact rfl; exact rfl)))
        refine v_is 132 false rfl (by simp; omega) ?_
        (repeat (first | (apply v_idxL; exact slA rfl; exact tyA rfl; exact rfl; exact rfl; exact rfl; exact rfl; exact (by omega); (first | exact hx2); exact rfl) | (apply v_move; exact rfl; exact rfl) | (apply v_fldA; exact flA rfl; exact rfl; exact rfl; exact rfl) | (apply v_loadA; exact tyA rfl; exact rfl; exact rfl; exact rfl; exact rfl; exact rfl; exact rfl) | (apply v_on; exact rfl) | (apply v_neq; exact rfl; exact rfl; exact rfl)))
        apply via2
        rotate_left
        · intro key
          by_cases hp : x.parent = 0
          · refine v_is 139 false rfl (by simpa using hp) ?_
            (repeat (first | (apply v_move; exact rfl; exact rfl) | refine run_seq ?_ | refine run_region ?_ | refine runL_nil ?_ | refine run_skip ?_ | (apply v_on; exact rfl) | (apply v_off; exact rfl; exact rfl) | (apply v_pick_f; exact rfl; exact rfl; exact rfl) | (apply run_cond; exact rfl; (focus (intro hb; cases hb; done)); intro hb; clear hb)))
            refine runL_weak idN (σ2 := ⟨[(3, .sem (listS nodeE l)), (4, .v (.int .i64 i)), (156, .sem (listS nodeE l)), (157, .v (.int .i64 (i : Int)))], []⟩) ?_ ?_ ?_ ?_ key.out <;> first | exact trivial | exact ⟨rfl, rfl, rfl, rfl, trivial⟩ | rfl
          · obtain ⟨k1, k3⟩ := hroot hp
            refine v_is 139 true rfl (by simpa using hp) ?_
            (repeat (first | (apply v_idxL; exact slA rfl; exact tyA rfl; exact rfl; exact rfl; exact rfl; exact rfl; exact (by omega); (first | exact hx2); exact rfl) | (apply v_move; exact rfl; exact rfl) | (apply v_fldA; exact flA rfl; exact rfl; exact rfl; exact rfl) | (apply v_loadA; exact tyA rfl; exact rfl; exact rfl; exact rfl; exact rfl; exact rfl; exact rfl) | (apply v_on; exact rfl) | (apply v_eql; exact rfl; exact rfl; exact rfl)))
            refine v_is 146 false rfl (by simpa using k1) ?_
            (repeat (first | (apply v_idxL; exact slA rfl; exact tyA rfl; exact rfl; exact rfl; exact rfl; exact rfl; exact (by omega); (first | exact hx2); exact rfl) | (apply v_move; exact rfl; exact rfl) | refine runL_nil ?_ | (apply v_fldA; exact flA rfl; exact rfl; exact rfl; exact rfl) | (apply v_loadA; exact tyA rfl; exact rfl; exact rfl; exact rfl; exact rfl; exact rfl; exact rfl) | (apply v_on; exact rfl) | (apply v_pick_t; exact rfl; exact rfl; exact rfl) | (apply v_pick_f; exact rfl; exact rfl; exact rfl) | (apply v_eql; exact rfl; exact rfl; exact rfl)))
            refine run_condN rfl (by simpa using k3) ?_
            (repeat (first | (apply v_move; exact rfl; exact rfl) | refine run_seq ?_ | refine run_region ?_ | refine run_skip ?_))
            refine runL_weak idN (σ2 := ⟨[(3, .sem (listS nodeE l)), (4, .v (.int .i64 i)), (156, .sem (listS nodeE l)), (157, .v (.int .i64 (i : Int)))], []⟩) ?_ ?_ ?_ ?_ key.out <;> first | exact trivial | exact ⟨rfl, rfl, rfl, rfl, trivial⟩ | rfl
        by_cases h0 : x.shadow = 0
        · (repeat (first | (apply v_idxL; exact slA rfl; exact tyA rfl; exact rfl; exact rfl; exact rfl; exact rfl; exact (by omega); (first | exact hx2); exact rfl) | (apply v_move; exact rfl; exact rfl) | (apply v_assign; exact rfl; exact rfl) | refine run_seq ?_ | refine run_region ?_ | refine runL_nil ?_ | (apply v_fldA; exact flA rfl; exact rfl; exact rfl; exact rfl) | (apply v_loadA; exact tyA rfl; exact rfl; exact rfl; exact rfl; exact rfl; exact rfl; exact rfl) | (apply v_neq; exact rfl; exact rfl; exact rfl)))
          refine v_is 163 false rfl (by simpa using h0) ?_
          (repeat (first | (apply v_move; exact rfl; exact rfl) | (apply v_assign; exact rfl; exact rfl) | refine run_region ?_ | refine runL_nil ?_ | refine run_skip ?_ | refine run_inBlock ?_ | (apply v_off; exact rfl; exact rfl) | (apply v_pick_f; exact rfl; exact rfl; exact rfl) | (apply run_cond; exact rfl; (focus (intro hb; cases hb; done)); intro hb; clear hb) | (apply v_add; exact rfl; exact rfl; exact rfl; exact (by omega))))
          exact v_again ih (i + 1) idN trivial (by repeat (first | exact trivial | refine ⟨rfl, ?_⟩)) (by repeat (first | exact trivial | refine ⟨rfl, ?_⟩)) rfl (by omega) (by omega)
        · obtain ⟨z, hz, hzh⟩ := (hshad.resolve_left h0).2
          obtain ⟨z1, z2, z3⟩ := nodeAt_some hz
          have hzk : z.kind = 3 := ((hw.host hz).resolve_left (by rw [hzh]; omega)).1
          (repeat (first | (apply v_idxL; exact slA rfl; exact tyA rfl; exact rfl; exact rfl; exact rfl; exact rfl; exact (by omega); (first | exact hx2); exact rfl) | (apply v_move; exact rfl; exact rfl) | (apply v_assign; exact rfl; exact rfl) | refine run_seq ?_ | refine run_region ?_ | refine runL_nil ?_ | (apply v_fldA; exact flA rfl; exact rfl; exact rfl; exact rfl) | (apply v_loadA; exact tyA rfl; exact rfl; exact rfl; exact rfl; exact rfl; exact rfl; exact rfl) | (apply v_neq; exact rfl; exact rfl; exact rfl)))
          refine v_is 163 true rfl (by simpa using h0) ?_
          (repeat (first | (apply v_cx; exact rfl; exact cbA rfl; (first | exact there_s hz); exact rfl; exact rfl) | (apply v_idxL; exact slA rfl; exact tyA rfl; exact rfl; exact rfl; exact rfl; exact rfl; exact (by omega); (first | exact z3); exact rfl) | (apply v_move; exact rfl; exact rfl) | (apply v_fldA; exact flA rfl; exact rfl; exact rfl; exact rfl) | (apply v_loadA; exact tyA rfl; exact rfl; exact rfl; exact rfl; exact rfl; exact rfl; exact rfl) | (apply v_on; exact rfl) | (apply v_pick_f; exact rfl; exact rfl; exact rfl) | (apply v_not; exact rfl; exact rfl) | (apply v_neq; exact rfl; exact rfl; exact rfl) | (apply v_add; exact rfl; exact rfl; exact rfl; exact (by omega)) | (apply v_sub; exact rfl; exact rfl; exact rfl; exact (by omega))))
          refine v_is 179 false rfl (by simp [hzh]) ?_
          (repeat (first | (apply v_idxL; exact slA rfl; exact tyA rfl; exact rfl; exact rfl; exact rfl; exact rfl; exact (by omega); (first | exact z3); exact rfl) | (apply v_move; exact rfl; exact rfl) | refine runL_nil ?_ | (apply v_fldA; exact flA rfl; exact rfl; exact rfl; exact rfl) | (apply v_loadA; exact tyA rfl; exact rfl; exact rfl; exact rfl; exact rfl; exact rfl; exact rfl) | (apply v_on; exact rfl) | (apply v_pick_t; exact rfl; exact rfl; exact rfl) | (apply v_pick_f; exact rfl; exact rfl; exact rfl) | (apply v_neq; exact rfl; exact rfl; exact rfl) | (apply v_sub; exact rfl; exact rfl; exact rfl; exact (by omega))))
          refine run_condN rfl (by simp [hzk]) ?_
          (repeat (first | (apply v_move; exact rfl; exact rfl) | (apply v_assign; exact rfl; exact rfl) | refine run_region ?_ | refine runL_nil ?_ | refine run_skip ?_ | refine run_inBlock ?_ | (apply v_add; exact rfl; exact rfl; exact rfl; exact (by omega))))
          exact v_again ih (i + 1) idN trivial (by repeat (first | exact trivial | refine ⟨rfl, ?_⟩)) (by repeat (first | exact trivial | refine ⟨rfl, ?_⟩)) rfl (by omega) (by omega)
    · (repeat (first | (apply v_assign; exact rfl; exact rfl) | refine run_seq ?_ | refine run_region ?_ | refine runL_nil ?_ | (apply run_exit; exact rfl)))
      exact run_ret idN _ Try.func4 ⟨_, _, rfl, rfl, rfl⟩ rfl trivial trivial rfl
theorem arenaTree_walk (A : Option Addr) (c0 : Nat) (xs : List Ac) (W : World) (hv : AVRs ι0 (old W) W [.sem (listS acE xs)] [.slice A xs.length c0]) (hs : ∀ x ∈ xs, AcStr x) (hm : xs.length ≤ 9223372036854775807) : Calls Try.prog 4 #[.slice A xs.length c0] W fun e w' => e = .returned (.bool true) ∧ Below W.heap.size W w' :=
  acts_walk (vs := []) hv (arenaTree_f hm hs)
end Go.Proofs.Ytjkidecaciomgaa
