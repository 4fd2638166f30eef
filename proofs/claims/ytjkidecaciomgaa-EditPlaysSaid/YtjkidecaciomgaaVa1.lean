/- Counting children: kin, and the reference. -/
import Derived.Test.YtjkidecaciomgaaRf8
import Derived.Test.YtjkidecaciomgaaCntP
namespace Go.Proofs.Ytjkidecaciomgaa
set_option linter.unusedVariables false
set_option linter.unusedSimpArgs false
set_option maxRecDepth 100000
open Go.RowKit

theorem count_f {l : List Nd} (h : WF l) (id kind : Int) : Fun Try.prog 67 [forA l, .v (.int .i64 id), .v (.int .i64 kind)] [] (.v (.int .i64 (cntM l id kind))) [] := by
  have hn := node_w h id
  have hkid : ∀ c ∈ (nodeR l id).kids, ∃ y, nodeAt l c = some y := fun c hc => by
    cases hx : nodeAt l id with
    | none => rw [nodeR_none hx] at hc; cases hc
    | some x =>
      rw [nodeR_some hx] at hc
      obtain ⟨y, hy, _⟩ := h.kid hx hc
      exact ⟨y, hy⟩
  have hkl : (nodeR l id).kids.length ≤ 1000000 := by
    cases hx : nodeAt l id with
    | none => rw [nodeR_none hx]; simp [nd0]
    | some x => rw [nodeR_some hx]; exact (kids_ok h id x hx).1
  have hc : cntM l id kind = ((nodeR l id).kids.filter (isK l kind)).length := rfl
  rw [hc]
  generalize nodeR l id = x at *
  generalize (nodeAt l id).isSome = ok at *
  generalize hks : x.kids = ks at *
  refine fun_intro 44 Try.func67 rfl rfl rfl (fun ι F S w => ?_)
  (repeat (first | (apply v_cx; exact rfl; exact cbA rfl; (first | exact hn); exact rfl; exact rfl) | (apply v_move; exact rfl; exact rfl) | (apply v_assign; exact rfl; exact rfl) | refine run_seq ?_ | refine run_region ?_ | refine runL_nil ?_ | refine run_block ?_ | (apply v_extract; exact rfl; exact rfl; exact rfl) | (apply v_fldP; exact flA rfl; exact rfl; exact rfl; exact rfl) | (apply v_loadB; exact tyA rfl; exact rfl; exact rfl; exact rfl; exact rfl; exact rfl; exact rfl) | (apply v_lenL; exact slA rfl; exact rfl; exact rfl) | (apply v_allocD; exact tyA rfl; exact rfl; exact rfl; exact rfl; exact rfl) | (apply v_storeW; exact tyA rfl; exact rfl; exact rfl; exact rfl; exact rfl; exact rfl; exact rfl; exact rfl)))
  rw [hks]
  refine v_loop (fun i : Nat => ⟨[(0, forA l), (2, .v (.int .i64 kind)), (9, .v (.int .i64 (((ks.take i).filter (isK l kind)).length : Nat))), (21, .sem (listS intE ks)), (22, .v (.int .i64 ks.length)), (23, .v (.int .i64 i))], []⟩) (fun i => i ≤ ks.length) (fun i => ks.length - i) 0 idN trivial (by repeat (first | exact trivial | refine ⟨rfl, ?_⟩)) (by repeat (first | exact trivial | refine ⟨rfl, ?_⟩)) rfl (by omega) fun i hi ih => ?_
  (repeat (first | refine run_seq ?_ | refine run_region ?_ | refine runL_nil ?_ | (apply v_lss; exact rfl; exact rfl; exact rfl)))
  refine run_cond rfl (fun hb => ?_) (fun hb => ?_)
  · have hlt : i < ks.length := by simpa using hb
    have hx : ks[((i : Int)).toNat]? = some ks[i] := by simp [hlt]
    have hst : ((ks.take (i + 1)).filter (isK l kind)).length = ((ks.take i).filter (isK l kind)).length + (if isK l kind ks[i] = true then 1 else 0) := by
      rw [List.take_add_one, List.filter_append, List.length_append, List.getElem?_eq_getElem hlt]
      congr 1
      simp only [Option.toList_some, List.filter_cons, List.filter_nil]
      split <;> rfl
    have hfl : ((ks.take i).filter (isK l kind)).length ≤ i := Nat.le_trans (List.length_filter_le _ _) (by rw [List.length_take]; omega)
    obtain ⟨y, hy⟩ := hkid _ (List.getElem_mem hlt)
    have hik : isK l kind ks[i] = decide (y.kind = kind) := by rw [isK, nodeR_some hy]
    generalize ks[i] = c at *
    (repeat (first | (apply v_idxL; exact slA rfl; exact tyA rfl; exact rfl; exact rfl; exact rfl; exact rfl; exact (by omega); (first | exact hx); exact rfl) | (apply v_cx; exact rfl; exact cbA rfl; (first | exact node_s h hy); exact rfl; exact rfl) | (apply v_move; exact rfl; exact rfl) | (apply v_assign; exact rfl; exact rfl) | refine run_seq ?_ | refine run_region ?_ | refine runL_nil ?_ | refine run_skip ?_ | refine run_block ?_ | (apply v_extract; exact rfl; exact rfl; exact rfl) | (apply v_fldP; exact flA rfl; exact rfl; exact rfl; exact rfl) | (apply v_loadB; exact tyA rfl; exact rfl; exact rfl; exact rfl; exact rfl; exact rfl; exact rfl) | (apply v_loadA; exact tyA rfl; exact rfl; exact rfl; exact rfl; exact rfl; exact rfl; exact rfl) | (apply v_on; exact rfl) | (apply v_pick_t; exact rfl; exact rfl; exact rfl) | (apply v_eql; exact rfl; exact rfl; exact rfl) | (apply v_allocD; exact tyA rfl; exact rfl; exact rfl; exact rfl; exact rfl) | (apply v_storeW; exact tyA rfl; exact rfl; exact rfl; exact rfl; exact rfl; exact rfl; exact rfl; exact rfl)))
    refine run_cond rfl (fun hb => ?_) (fun hb => ?_)
    · have hk : y.kind = kind := by simpa using hb
      rw [hik, decide_eq_true hk, if_pos rfl] at hst
      (repeat (first | (apply v_move; exact rfl; exact rfl) | (apply v_assign; exact rfl; exact rfl) | refine run_region ?_ | refine runL_nil ?_ | refine run_inBlock ?_ | (apply v_add; exact rfl; exact rfl; exact rfl; exact (by omega))))
      exact v_again ih (i + 1) idN trivial ⟨rfl, rfl, by rw [hst]; rfl, rfl, rfl, rfl, trivial⟩ trivial rfl (by omega) (by omega)
    · have hk : y.kind ≠ kind := by simpa using hb
      rw [hik, decide_eq_false hk, if_neg (by simp), Nat.add_zero] at hst
      (repeat (first | (apply v_move; exact rfl; exact rfl) | refine run_region ?_ | refine runL_nil ?_ | refine run_skip ?_ | refine run_inBlock ?_ | (apply v_add; exact rfl; exact rfl; exact rfl; exact (by omega))))
      exact v_again ih (i + 1) idN trivial ⟨rfl, rfl, by rw [hst]; rfl, rfl, rfl, rfl, trivial⟩ trivial rfl (by omega) (by omega)
  · have hge : i = ks.length := by have : ¬ i < ks.length := (by simpa using hb); omega
    (repeat (first | (apply v_move; exact rfl; exact rfl) | (apply v_assign; exact rfl; exact rfl) | refine run_seq ?_ | refine run_region ?_ | refine runL_nil ?_ | (apply run_exit; exact rfl)))
    exact run_ret idN _ Try.func67 ⟨_, _, rfl, rfl, rfl⟩ (by rw [hge, List.take_length]; rfl) trivial trivial rfl
theorem count5 {l : List Nd} (h : WF l) (id kind : Int) : Fun Try.prog 68 [.sem (listS nodeE l), .v (.int .i64 id), .v (.int .i64 kind)] [] (.v (.int .i64 (cntM l id kind))) [] := by
  have hlen := h.len
  rw [cnt_eq h, cnt5M]
  cases hx : nodeAt l id with
  | none =>
    rw [if_neg (by simp)]
    refine fun_intro 39 Try.func68 rfl rfl rfl (fun ι F S w => ?_)
    (repeat (first | (apply v_assign; exact rfl; exact rfl) | refine run_seq ?_ | refine run_region ?_ | refine runL_nil ?_ | refine run_block ?_))
    refine v_loop (fun i : Nat => ⟨[(0, .sem (listS nodeE l)), (1, .v (.int .i64 id)), (2, .v (.int .i64 kind)), (7, .v (.int .i64 0)), (8, .v (.int .i64 i))], []⟩) (fun i => i ≤ l.length) (fun i => l.length - i) 0 idN trivial (by repeat (first | exact trivial | refine ⟨rfl, ?_⟩)) (by repeat (first | exact trivial | refine ⟨rfl, ?_⟩)) rfl (by omega) fun i hi ih => ?_
    (repeat (first | (apply v_move; exact rfl; exact rfl) | refine run_seq ?_ | refine run_region ?_ | refine runL_nil ?_ | (apply v_lss; exact rfl; exact rfl; exact rfl) | (apply v_lenL; exact slA rfl; exact rfl; exact rfl)))
    refine run_cond rfl (fun hb => ?_) (fun hb => ?_)
    · have hlt : i < l.length := by simpa using hb
      (repeat (first | (apply v_cx; exact rfl; exact cbA rfl; (first | exact there_n hx); exact rfl; exact rfl) | (apply v_move; exact rfl; exact rfl) | (apply v_assign; exact rfl; exact rfl) | refine run_seq ?_ | refine run_region ?_ | refine runL_nil ?_ | refine run_skip ?_ | refine run_block ?_ | refine run_inBlock ?_ | (apply v_off; exact rfl; exact rfl) | (apply v_pick_f; exact rfl; exact rfl; exact rfl) | (apply run_cond; exact rfl; (focus (intro hb; cases hb; done)); intro hb; clear hb) | (apply v_add; exact rfl; exact rfl; exact rfl; exact (by omega))))
      exact v_again ih (i + 1) idN trivial (by repeat (first | exact trivial | refine ⟨rfl, ?_⟩)) (by repeat (first | exact trivial | refine ⟨rfl, ?_⟩)) rfl (by omega) (by omega)
    · (repeat (first | (apply v_move; exact rfl; exact rfl) | (apply v_assign; exact rfl; exact rfl) | refine run_seq ?_ | refine run_region ?_ | refine runL_nil ?_ | (apply run_exit; exact rfl)))
      exact run_ret idN _ Try.func68 ⟨_, _, rfl, rfl, rfl⟩ rfl trivial trivial rfl
  | some x =>
    rw [if_pos (show (some x : Option Nd).isSome = true from rfl)]
    refine fun_intro 39 Try.func68 rfl rfl rfl (fun ι F S w => ?_)
    (repeat (first | (apply v_assign; exact rfl; exact rfl) | refine run_seq ?_ | refine run_region ?_ | refine runL_nil ?_ | refine run_block ?_))
    refine v_loop (fun i : Nat => ⟨[(0, .sem (listS nodeE l)), (1, .v (.int .i64 id)), (2, .v (.int .i64 kind)), (7, .v (.int .i64 (((l.take i).filter (isC id kind)).length : Nat))), (8, .v (.int .i64 i))], []⟩) (fun i => i ≤ l.length) (fun i => l.length - i) 0 idN trivial (by repeat (first | exact trivial | refine ⟨rfl, ?_⟩)) (by repeat (first | exact trivial | refine ⟨rfl, ?_⟩)) rfl (by omega) fun i hi ih => ?_
    (repeat (first | (apply v_move; exact rfl; exact rfl) | refine run_seq ?_ | refine run_region ?_ | refine runL_nil ?_ | (apply v_lss; exact rfl; exact rfl; exact rfl) | (apply v_lenL; exact slA rfl; exact rfl; exact rfl)))
    refine run_cond rfl (fun hb => ?_) (fun hb => ?_)
    · have hlt : i < l.length := by simpa using hb
      have hx2 : l[((i : Int)).toNat]? = some l[i] := by simp [hlt]
      have hst : ((l.take (i + 1)).filter (isC id kind)).length = ((l.take i).filter (isC id kind)).length + (if isC id kind l[i] = true then 1 else 0) := by
        rw [List.take_add_one, List.filter_append, List.length_append, List.getElem?_eq_getElem hlt]
        congr 1
        simp only [Option.toList_some, List.filter_cons, List.filter_nil]
        split <;> rfl
      have hfl : ((l.take i).filter (isC id kind)).length ≤ i := Nat.le_trans (List.length_filter_le _ _) (by rw [List.length_take]; omega)
      have hic : isC id kind l[i] = (decide (l[i].parent = id) && decide (l[i].kind = kind)) := rfl
      generalize l[i] = y at *
      (repeat (first | (apply v_idxL; exact slA rfl; exact tyA rfl; exact rfl; exact rfl; exact rfl; exact rfl; exact (by omega); (first | exact hx2); exact rfl) | (apply v_cx; exact rfl; exact cbA rfl; (first | exact there_s hx); exact rfl; exact rfl) | (apply v_move; exact rfl; exact rfl) | refine run_seq ?_ | refine run_region ?_ | refine run_skip ?_ | refine run_block ?_ | (apply v_fldA; exact flA rfl; exact rfl; exact rfl; exact rfl) | (apply v_loadA; exact tyA rfl; exact rfl; exact rfl; exact rfl; exact rfl; exact rfl; exact rfl) | (apply v_on; exact rfl) | (apply v_pick_t; exact rfl; exact rfl; exact rfl) | (apply v_eql; exact rfl; exact rfl; exact rfl)))
      by_cases hp : y.parent = id
      · refine v_is 27 true rfl (by simpa using hp) ?_
        (repeat (first | (apply v_idxL; exact slA rfl; exact tyA rfl; exact rfl; exact rfl; exact rfl; exact rfl; exact (by omega); (first | exact hx2); exact rfl) | (apply v_move; exact rfl; exact rfl) | refine runL_nil ?_ | (apply v_fldA; exact flA rfl; exact rfl; exact rfl; exact rfl) | (apply v_loadA; exact tyA rfl; exact rfl; exact rfl; exact rfl; exact rfl; exact rfl; exact rfl) | (apply v_on; exact rfl) | (apply v_pick_t; exact rfl; exact rfl; exact rfl) | (apply v_eql; exact rfl; exact rfl; exact rfl)))
        refine run_cond rfl (fun hb => ?_) (fun hb => ?_)
        · have hk : y.kind = kind := by simpa using hb
          rw [hic, decide_eq_true hp, decide_eq_true hk, if_pos (by rfl)] at hst
          (repeat (first | (apply v_move; exact rfl; exact rfl) | (apply v_assign; exact rfl; exact rfl) | refine run_region ?_ | refine runL_nil ?_ | refine run_inBlock ?_ | (apply v_add; exact rfl; exact rfl; exact rfl; exact (by omega))))
          exact v_again ih (i + 1) idN trivial ⟨rfl, rfl, rfl, by rw [hst]; rfl, rfl, trivial⟩ trivial rfl (by omega) (by omega)
        · have hk : y.kind ≠ kind := by simpa using hb
          rw [hic, decide_eq_true hp, decide_eq_false hk, if_neg (by simp), Nat.add_zero] at hst
          (repeat (first | (apply v_move; exact rfl; exact rfl) | (apply v_assign; exact rfl; exact rfl) | refine run_region ?_ | refine runL_nil ?_ | refine run_skip ?_ | refine run_inBlock ?_ | (apply v_add; exact rfl; exact rfl; exact rfl; exact (by omega))))
          exact v_again ih (i + 1) idN trivial ⟨rfl, rfl, rfl, by rw [hst]; rfl, rfl, trivial⟩ trivial rfl (by omega) (by omega)
      · rw [hic, decide_eq_false hp, if_neg (by simp), Nat.add_zero] at hst
        refine v_is 27 false rfl (by simpa using hp) ?_
        (repeat (first | (apply v_move; exact rfl; exact rfl) | (apply v_assign; exact rfl; exact rfl) | refine run_region ?_ | refine runL_nil ?_ | refine run_skip ?_ | refine run_inBlock ?_ | (apply v_off; exact rfl; exact rfl) | (apply v_pick_f; exact rfl; exact rfl; exact rfl) | (apply run_cond; exact rfl; (focus (intro hb; cases hb; done)); intro hb; clear hb) | (apply v_add; exact rfl; exact rfl; exact rfl; exact (by omega))))
        exact v_again ih (i + 1) idN trivial ⟨rfl, rfl, rfl, by rw [hst]; rfl, rfl, trivial⟩ trivial rfl (by omega) (by omega)
    · have hge : i = l.length := by have : ¬ i < l.length := (by simpa using hb); omega
      (repeat (first | (apply v_move; exact rfl; exact rfl) | (apply v_assign; exact rfl; exact rfl) | refine run_seq ?_ | refine run_region ?_ | refine runL_nil ?_ | (apply run_exit; exact rfl)))
      exact run_ret idN _ Try.func68 ⟨_, _, rfl, rfl, rfl⟩ (by rw [hge, List.take_length]; rfl) trivial trivial rfl
end Go.Proofs.Ytjkidecaciomgaa
