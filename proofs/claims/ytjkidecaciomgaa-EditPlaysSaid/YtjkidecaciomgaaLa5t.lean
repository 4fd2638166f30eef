/- Law 05: Index, Next of the reference; KinTells. -/
import Derived.Test.YtjkidecaciomgaaRf10
import Derived.Test.YtjkidecaciomgaaLa5
import Derived.Test.YtjkidecaciomgaaFoE
import Derived.Test.YtjkidecaciomgaaKinPlW
namespace Go.Proofs.Ytjkidecaciomgaa
set_option linter.unusedVariables false
set_option linter.unusedSimpArgs false
set_option maxRecDepth 100000
open Go.RowKit

theorem index5 {l : List Nd} (h : WF l) (id : Int) : Fun Try.prog 65 [.sem (listS nodeE l), .v (.int .i64 id)] [] (.v (.int .i64 (indexM l id))) [] := by
  have hlen := h.len
  cases hx : nodeAt l id with
  | none =>
    rw [show indexM l id = -1 by rw [indexM, nodeR_none hx]; rfl]
    refine fun_intro 44 Try.func65 rfl rfl rfl (fun ι F S w => ?_)
    (repeat (first | (apply v_cx; exact rfl; exact cbA rfl; (first | exact there_n hx); exact rfl; exact rfl) | (apply v_move; exact rfl; exact rfl) | (apply v_assign; exact rfl; exact rfl) | refine run_seq ?_ | refine run_region ?_ | refine runL_nil ?_ | (apply v_off; exact rfl; exact rfl) | (apply v_pick_t; exact rfl; exact rfl; exact rfl) | (apply run_cond; exact rfl; rotate_left; (focus (intro hb; cases hb; done)); intro hb; clear hb) | (apply v_not; exact rfl; exact rfl)))
    exact run_ret idN _ Try.func65 ⟨_, _, rfl, rfl, rfl⟩ rfl trivial trivial rfl
  | some x =>
    obtain ⟨x1, x2, x3⟩ := nodeAt_some hx
    have hxr := nodeR_some hx
    by_cases hp : x.parent = 0
    · rw [show indexM l id = -1 by simp [indexM, hxr, hp]]
      refine fun_intro 44 Try.func65 rfl rfl rfl (fun ι F S w => ?_)
      (repeat (first | (apply v_cx; exact rfl; exact cbA rfl; (first | exact there_s hx); exact rfl; exact rfl) | (apply v_idxL; exact slA rfl; exact tyA rfl; exact rfl; exact rfl; exact rfl; exact rfl; exact (by omega); (first | exact x3); exact rfl) | (apply v_move; exact rfl; exact rfl) | (apply v_assign; exact rfl; exact rfl) | refine run_seq ?_ | refine run_region ?_ | refine runL_nil ?_ | (apply v_fldA; exact flA rfl; exact rfl; exact rfl; exact rfl) | (apply v_loadA; exact tyA rfl; exact rfl; exact rfl; exact rfl; exact rfl; exact rfl; exact rfl) | (apply v_on; exact rfl) | (apply v_pick_f; exact rfl; exact rfl; exact rfl) | (apply v_not; exact rfl; exact rfl) | (apply v_eql; exact rfl; exact rfl; exact rfl) | (apply v_sub; exact rfl; exact rfl; exact rfl; exact (by omega))))
      refine run_condY rfl (by simpa using hp) ?_
      (repeat (first | (apply v_assign; exact rfl; exact rfl) | refine run_seq ?_ | refine run_region ?_ | refine runL_nil ?_))
      exact run_ret idN _ Try.func65 ⟨_, _, rfl, rfl, rfl⟩ rfl trivial trivial rfl
    · obtain ⟨y, hy, hm⟩ := (h.par hx).resolve_left hp
      obtain ⟨y1, y2, y3⟩ := nodeAt_some hy
      have hkl := (kids_ok h _ y hy).1
      have hi : indexM l id = idxI y.kids id := by simp [indexM, hxr, hp, sibs, nodeR_some hy]
      rw [hi]
      refine fun_intro 44 Try.func65 rfl rfl rfl (fun ι F S w => ?_)
      (repeat (first | (apply v_cx; exact rfl; exact cbA rfl; (first | exact there_s hx); exact rfl; exact rfl) | (apply v_idxL; exact slA rfl; exact tyA rfl; exact rfl; exact rfl; exact rfl; exact rfl; exact (by omega); (first | exact x3); exact rfl) | (apply v_move; exact rfl; exact rfl) | (apply v_assign; exact rfl; exact rfl) | refine run_seq ?_ | refine run_region ?_ | refine runL_nil ?_ | (apply v_fldA; exact flA rfl; exact rfl; exact rfl; exact rfl) | (apply v_loadA; exact tyA rfl; exact rfl; exact rfl; exact rfl; exact rfl; exact rfl; exact rfl) | (apply v_on; exact rfl) | (apply v_pick_f; exact rfl; exact rfl; exact rfl) | (apply v_not; exact rfl; exact rfl) | (apply v_eql; exact rfl; exact rfl; exact rfl) | (apply v_sub; exact rfl; exact rfl; exact rfl; exact (by omega))))
      refine run_condN rfl (by simpa using hp) ?_
      (repeat (first | (apply v_idxL; exact slA rfl; exact tyA rfl; exact rfl; exact rfl; exact rfl; exact rfl; exact (by omega); (first | exact x3 | exact y3); exact rfl) | (apply v_move; exact rfl; exact rfl) | (apply v_assign; exact rfl; exact rfl) | refine run_seq ?_ | refine run_region ?_ | refine runL_nil ?_ | refine run_skip ?_ | refine run_block ?_ | (apply v_fldA; exact flA rfl; exact rfl; exact rfl; exact rfl) | (apply v_loadA; exact tyA rfl; exact rfl; exact rfl; exact rfl; exact rfl; exact rfl; exact rfl) | (apply v_sub; exact rfl; exact rfl; exact rfl; exact (by omega))))
      refine v_loop (fun i : Nat => ⟨[(1, .v (.int .i64 id)), (5, .sem (listS intE y.kids)), (6, .v (.int .i64 i))], []⟩) (fun i => i ≤ y.kids.length ∧ ∀ j, j < i → y.kids[j]? ≠ some id) (fun i => y.kids.length - i) 0 idN trivial (by repeat (first | exact trivial | refine ⟨rfl, ?_⟩)) (by repeat (first | exact trivial | refine ⟨rfl, ?_⟩)) rfl ⟨by omega, fun j hj => by omega⟩ fun i ⟨hi, hq⟩ ih => ?_
      (repeat (first | (apply v_move; exact rfl; exact rfl) | refine run_seq ?_ | refine run_region ?_ | refine runL_nil ?_ | (apply v_lss; exact rfl; exact rfl; exact rfl) | (apply v_lenL; exact slA rfl; exact rfl; exact rfl)))
      refine run_cond rfl (fun hb => ?_) (fun hb => ?_)
      · have hlt : i < y.kids.length := by simpa using hb
        have hkx : y.kids[((i : Int)).toNat]? = some y.kids[i] := by simp [hlt]
        (repeat (first | (apply v_idxL; exact slA rfl; exact tyA rfl; exact rfl; exact rfl; exact rfl; exact rfl; exact (by omega); (first | exact hkx); exact rfl) | (apply v_move; exact rfl; exact rfl) | refine run_seq ?_ | refine run_region ?_ | refine runL_nil ?_ | refine run_skip ?_ | refine run_block ?_ | (apply v_loadA; exact tyA rfl; exact rfl; exact rfl; exact rfl; exact rfl; exact rfl; exact rfl) | (apply v_eql; exact rfl; exact rfl; exact rfl)))
        refine run_cond rfl (fun hb => ?_) (fun hb => ?_)
        · have e : y.kids[i] = id := by simpa using hb
          rw [idxI_at (i := i) (by rw [List.getElem?_eq_getElem hlt, e]) hq]
          (repeat (first | (apply v_move; exact rfl; exact rfl) | (apply v_assign; exact rfl; exact rfl) | refine run_seq ?_ | refine run_region ?_ | refine runL_nil ?_))
          exact run_ret idN _ Try.func65 ⟨_, _, rfl, rfl, rfl⟩ rfl trivial trivial rfl
        · have e : y.kids[i] ≠ id := by simpa using hb
          (repeat (first | (apply v_move; exact rfl; exact rfl) | (apply v_assign; exact rfl; exact rfl) | refine run_region ?_ | refine runL_nil ?_ | refine run_skip ?_ | refine run_inBlock ?_ | (apply v_add; exact rfl; exact rfl; exact rfl; exact (by omega))))
          exact v_again ih (i + 1) idN trivial (by repeat (first | exact trivial | refine ⟨rfl, ?_⟩)) (by repeat (first | exact trivial | refine ⟨rfl, ?_⟩)) rfl ⟨by omega, fun j hj => by
            by_cases e2 : j = i
            · subst e2
              rw [List.getElem?_eq_getElem hlt]
              simpa using e
            · exact hq j (by omega)⟩ (by omega)
      · have hge : i = y.kids.length := by have : ¬ i < y.kids.length := (by simpa using hb); omega
        rw [idxI_none fun j hj => hq j (by omega)]
        (repeat (first | (apply v_assign; exact rfl; exact rfl) | refine run_seq ?_ | refine run_region ?_ | refine runL_nil ?_ | (apply run_exit; exact rfl)))
        exact run_ret idN _ Try.func65 ⟨_, _, rfl, rfl, rfl⟩ rfl trivial trivial rfl
theorem next5 {l : List Nd} (h : WF l) (id : Int) : Fun Try.prog 66 [.sem (listS nodeE l), .v (.int .i64 id)] [] (.v (.int .i64 (nextM l id))) [] := by
  have hlen := h.len
  have hi5 := index5 h id
  have hile := indexM_le h id
  have hn : nextM l id = if 0 ≤ indexM l id then (sibs l id).getD ((indexM l id).toNat + 1) 0 else 0 := rfl
  by_cases h0 : 0 ≤ indexM l id
  · rw [if_pos h0] at hn
    have hp : (nodeR l id).parent ≠ 0 := fun e => by
      rw [indexM, if_pos e] at h0
      omega
    cases hx : nodeAt l id with
    | none => rw [nodeR_none hx] at hp; exact absurd rfl hp
    | some x =>
      rw [nodeR_some hx] at hp
      obtain ⟨x1, x2, x3⟩ := nodeAt_some hx
      obtain ⟨y, hy, hm⟩ := (h.par hx).resolve_left hp
      obtain ⟨y1, y2, y3⟩ := nodeAt_some hy
      have hkl := (kids_ok h _ y hy).1
      have hs : sibs l id = y.kids := by simp [sibs, nodeR_some hx, hp, nodeR_some hy]
      rw [hs] at hn
      generalize indexM l id = i at *
      by_cases h1 : i + 1 < y.kids.length
      · have hkx : y.kids[(i + 1).toNat]? = some (nextM l id) := by
          rw [hn, List.getD_eq_getElem?_getD, show (i + 1).toNat = i.toNat + 1 by omega, List.getElem?_eq_getElem (by omega)]; rfl
        generalize nextM l id = u at *
        refine fun_intro 43 Try.func66 rfl rfl rfl (fun ι F S w => ?_)
        (repeat (first | (apply v_cx; exact rfl; exact cbA rfl; (first | exact hi5); exact rfl; exact rfl) | (apply v_move; exact rfl; exact rfl) | (apply v_assign; exact rfl; exact rfl) | refine run_seq ?_ | refine run_region ?_ | refine runL_nil ?_ | (apply v_lss; exact rfl; exact rfl; exact rfl)))
        refine v_is 11 false rfl (by simp; omega) ?_
        (repeat (first | (apply v_idxL; exact slA rfl; exact tyA rfl; exact rfl; exact rfl; exact rfl; exact rfl; exact (by omega); (first | exact x3 | exact y3); exact rfl) | (apply v_move; exact rfl; exact rfl) | refine runL_nil ?_ | (apply v_fldA; exact flA rfl; exact rfl; exact rfl; exact rfl) | (apply v_loadA; exact tyA rfl; exact rfl; exact rfl; exact rfl; exact rfl; exact rfl; exact rfl) | (apply v_on; exact rfl) | (apply v_pick_f; exact rfl; exact rfl; exact rfl) | (apply v_geq; exact rfl; exact rfl; exact rfl) | (apply v_lenL; exact slA rfl; exact rfl; exact rfl) | (apply v_add; exact rfl; exact rfl; exact rfl; exact (by omega)) | (apply v_sub; exact rfl; exact rfl; exact rfl; exact (by omega))))
        refine run_condN rfl (by simp; omega) ?_
        (repeat (first | (apply v_idxL; exact slA rfl; exact tyA rfl; exact rfl; exact rfl; exact rfl; exact rfl; exact (by omega); (first | exact x3 | exact y3 | exact hkx); exact rfl) | (apply v_move; exact rfl; exact rfl) | (apply v_assign; exact rfl; exact rfl) | refine run_seq ?_ | refine run_region ?_ | refine runL_nil ?_ | refine run_skip ?_ | (apply v_fldA; exact flA rfl; exact rfl; exact rfl; exact rfl) | (apply v_loadA; exact tyA rfl; exact rfl; exact rfl; exact rfl; exact rfl; exact rfl; exact rfl) | (apply v_add; exact rfl; exact rfl; exact rfl; exact (by omega)) | (apply v_sub; exact rfl; exact rfl; exact rfl; exact (by omega))))
        exact run_ret idN _ Try.func66 ⟨_, _, rfl, rfl, rfl⟩ rfl trivial trivial rfl
      · have hu : nextM l id = 0 := by
          rw [hn, List.getD_eq_getElem?_getD, List.getElem?_eq_none (by omega)]; rfl
        rw [hu]
        refine fun_intro 43 Try.func66 rfl rfl rfl (fun ι F S w => ?_)
        (repeat (first | (apply v_cx; exact rfl; exact cbA rfl; (first | exact hi5); exact rfl; exact rfl) | (apply v_move; exact rfl; exact rfl) | (apply v_assign; exact rfl; exact rfl) | refine run_seq ?_ | refine run_region ?_ | refine runL_nil ?_ | (apply v_lss; exact rfl; exact rfl; exact rfl)))
        refine v_is 11 false rfl (by simp; omega) ?_
        (repeat (first | (apply v_idxL; exact slA rfl; exact tyA rfl; exact rfl; exact rfl; exact rfl; exact rfl; exact (by omega); (first | exact x3 | exact y3); exact rfl) | (apply v_move; exact rfl; exact rfl) | refine runL_nil ?_ | (apply v_fldA; exact flA rfl; exact rfl; exact rfl; exact rfl) | (apply v_loadA; exact tyA rfl; exact rfl; exact rfl; exact rfl; exact rfl; exact rfl; exact rfl) | (apply v_on; exact rfl) | (apply v_pick_f; exact rfl; exact rfl; exact rfl) | (apply v_geq; exact rfl; exact rfl; exact rfl) | (apply v_lenL; exact slA rfl; exact rfl; exact rfl) | (apply v_add; exact rfl; exact rfl; exact rfl; exact (by omega)) | (apply v_sub; exact rfl; exact rfl; exact rfl; exact (by omega))))
        refine run_condY rfl (by simp; omega) ?_
        (repeat (first | (apply v_assign; exact rfl; exact rfl) | refine run_seq ?_ | refine run_region ?_ | refine runL_nil ?_))
        exact run_ret idN _ Try.func66 ⟨_, _, rfl, rfl, rfl⟩ rfl trivial trivial rfl
  · rw [if_neg h0] at hn
    rw [hn]
    generalize indexM l id = i at *
    refine fun_intro 43 Try.func66 rfl rfl rfl (fun ι F S w => ?_)
    (repeat (first | (apply v_cx; exact rfl; exact cbA rfl; (first | exact hi5); exact rfl; exact rfl) | (apply v_move; exact rfl; exact rfl) | (apply v_assign; exact rfl; exact rfl) | refine run_seq ?_ | refine run_region ?_ | refine runL_nil ?_ | (apply v_lss; exact rfl; exact rfl; exact rfl)))
    refine v_is 11 true rfl (by simp; omega) ?_
    (repeat (first | (apply v_assign; exact rfl; exact rfl) | refine run_seq ?_ | refine run_region ?_ | refine runL_nil ?_ | (apply v_off; exact rfl; exact rfl) | (apply v_pick_t; exact rfl; exact rfl; exact rfl) | (apply run_cond; exact rfl; rotate_left; (focus (intro hb; cases hb; done)); intro hb; clear hb)))
    exact run_ret idN _ Try.func66 ⟨_, _, rfl, rfl, rfl⟩ rfl trivial trivial rfl
theorem kinTells_f {xs : List Ac} (a : Int) (b : Int) (kd : Int) (hm : xs.length ≤ 9223372036854775807) (hs : ∀ x ∈ xs, AcStr x) : Fun Try.prog 8 [.sem (listS acE xs), .v (.int .i64 a), .v (.int .i64 b), .v (.int .i64 kd)] [] (.v (.bool true)) [] := by
  have hgr := great5 hm
  cases hg : greatM xs with
  | true =>
    rw [hg] at hgr
    refine fun_intro 84 Try.func8 rfl rfl rfl (fun ι F S w => ?_)
    (repeat (first | (apply v_cx; exact rfl; exact cbA rfl; (first | exact awake5 | exact hgr); exact rfl; exact rfl) | (apply v_move; exact rfl; exact rfl) | (apply v_assign; exact rfl; exact rfl) | refine run_seq ?_ | refine run_region ?_ | refine runL_nil ?_ | refine run_skip ?_ | (apply run_cond; exact rfl; rotate_left; (focus (intro hb; cases hb; done)); intro hb; clear hb) | (apply run_cond; exact rfl; (focus (intro hb; cases hb; done)); intro hb; clear hb) | (apply v_not; exact rfl; exact rfl)))
    exact run_ret idN _ Try.func8 ⟨_, _, rfl, rfl, rfl⟩ rfl trivial trivial rfl
  | false =>
    rw [hg] at hgr
    obtain ⟨hl, hx⟩ := acts_ok hg fun x hx => ⟨(hs x hx).s, (hs x hx).name, (hs x hx).want⟩
    have hw := wf_nodes hx
    have hmade := made5 hl hx
    have hnr := nodes_r hl hx
    generalize nodesM xs = l at hw hmade hnr
    have hlen := hw.len
    have h1 := root_f hw a
    have h2 := root5 hw a
    have h3 := up_p hw a
    have h4 := up_r hw a
    have hcl := ch_len (desc_par hw) a
    have h5 := ints_f (xs := ch l Nd.parent a) (ys := ch l Nd.parent a) (by omega)
    rw [decide_eq_true rfl] at h5
    have h6 := above_k hw a b
    have h7 := above5 hw a b
    have h8 := order_p hw a
    have h9 := order5p hw a
    have hol := ord_len hw a
    have h10 := ints_f (xs := orderM l a) (ys := orderM l a) (by omega)
    rw [decide_eq_true rfl] at h10
    have h11 := index_k hw a
    have h12 := index5 hw a
    have h13 := next_k hw a
    have h14 := next5 hw a
    have h15 := count_f hw a kd
    have h16 := count5 hw a kd
    generalize rootM l a = u1 at *
    generalize ch l Nd.parent a = u2 at *
    generalize decide (a ∈ ch l Nd.parent b) = u3 at *
    generalize orderM l a = u4 at *
    generalize indexM l a = u5 at *
    generalize nextM l a = u6 at *
    generalize cntM l a kd = u7 at *
    refine fun_intro 84 Try.func8 rfl rfl rfl (fun ι F S w => ?_)
    (repeat (first | (apply v_cx; exact rfl; exact cbA rfl; (first | exact awake5 | exact hgr | exact hmade | exact hnr | exact h1 | exact h2); exact rfl; exact rfl) | (apply v_move; exact rfl; exact rfl) | (apply v_assign; exact rfl; exact rfl) | refine run_seq ?_ | refine run_region ?_ | refine runL_nil ?_ | refine run_skip ?_ | (apply run_cond; exact rfl; (focus (intro hb; cases hb; done)); intro hb; clear hb) | (apply v_not; exact rfl; exact rfl) | (apply v_eql; exact rfl; exact rfl; exact rfl)))
    refine v_is 26 true rfl (by simp) ?_
    (repeat (first | (apply v_cx; exact rfl; exact cbA rfl; (first | exact h3 | exact h4 | exact h5 | exact h6 | exact h7); exact rfl; exact rfl) | (apply v_move; exact rfl; exact rfl) | (apply v_on; exact rfl) | (apply v_pick_t; exact rfl; exact rfl; exact rfl) | (apply v_eqlB; exact boA rfl; exact rfl; exact rfl; exact rfl)))
    refine v_is 46 true rfl (by simp) ?_
    (repeat (first | (apply v_cx; exact rfl; exact cbA rfl; (first | exact h8 | exact h9 | exact h10 | exact h11 | exact h12); exact rfl; exact rfl) | (apply v_move; exact rfl; exact rfl) | (apply v_on; exact rfl) | (apply v_pick_t; exact rfl; exact rfl; exact rfl) | (apply v_eql; exact rfl; exact rfl; exact rfl)))
    refine v_is 64 true rfl (by simp) ?_
    (repeat (first | (apply v_cx; exact rfl; exact cbA rfl; (first | exact h13 | exact h14); exact rfl; exact rfl) | (apply v_move; exact rfl; exact rfl) | (apply v_on; exact rfl) | (apply v_pick_t; exact rfl; exact rfl; exact rfl) | (apply v_eql; exact rfl; exact rfl; exact rfl)))
    refine v_is 73 true rfl (by simp) ?_
    (repeat (first | (apply v_cx; exact rfl; exact cbA rfl; (first | exact h15 | exact h16); exact rfl; exact rfl) | (apply v_move; exact rfl; exact rfl) | (apply v_assign; exact rfl; exact rfl) | refine runL_nil ?_ | (apply v_on; exact rfl) | (apply v_pick_t; exact rfl; exact rfl; exact rfl) | (apply v_eql; exact rfl; exact rfl; exact rfl)))
    exact run_ret idN _ Try.func8 ⟨_, _, rfl, rfl, rfl⟩ (by simp [AV.ren, oneA]) trivial trivial rfl
theorem kinTells_walk (A : Option Addr) (c0 : Nat) (xs : List Ac) (a b kd : Int) (W : World) (hv : AVRs ι0 (old W) W [.sem (listS acE xs)] [.slice A xs.length c0]) (hs : ∀ x ∈ xs, AcStr x) (hm : xs.length ≤ 9223372036854775807) (w1 : (Lit.int .i64 a).wf = true) (w2 : (Lit.int .i64 b).wf = true) (w3 : (Lit.int .i64 kd).wf = true) : Calls Try.prog 8 #[.slice A xs.length c0, .int .i64 a, .int .i64 b, .int .i64 kd] W fun e w' => e = .returned (.bool true) ∧ Below W.heap.size W w' :=
  acts_walk (vs := [.int .i64 a, .int .i64 b, .int .i64 kd]) hv (kinTells_f a b kd hm hs)
end Go.Proofs.Ytjkidecaciomgaa
