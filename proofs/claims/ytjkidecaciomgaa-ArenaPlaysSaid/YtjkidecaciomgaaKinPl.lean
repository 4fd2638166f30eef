/- Law 05: KinPlaces. -/
import Derived.Test.YtjkidecaciomgaaLa5
namespace Go.Proofs.Ytjkidecaciomgaa
set_option linter.unusedVariables false
set_option linter.unusedSimpArgs false
set_option maxRecDepth 100000
open Go.RowKit

/-- The texts are of a length that there is. -/
structure AcStr (x : Ac) : Prop where
  s : x.s.size ≤ 9223372036854775807
  name : x.n.name.size ≤ 9223372036854775807
  want : x.n.want.size ≤ 9223372036854775807
theorem ac_ok {xs : List Ac} (hg : greatM xs = false) (hs : ∀ x ∈ xs, AcStr x) : ∀ x ∈ xs, AcOk x := fun x hx => by
  rw [greatM, Bool.or_eq_false_iff] at hg
  have h1 : x.l.length ≤ 200 := by
    have h2 := hg.1
    rw [← Bool.not_eq_true, List.any_eq_true] at h2
    have := fun h => h2 ⟨x, hx, h⟩
    simp at this
    omega
  exact ⟨(hs x hx).s, (hs x hx).name, (hs x hx).want, by omega⟩
theorem places_f {xs : List Ac} (id : Int) (hm : xs.length ≤ 9223372036854775807) (hs : ∀ x ∈ xs, AcStr x) : Fun Try.prog 7 [.sem (listS acE xs), .v (.int .i64 id)] [] (.v (.bool true)) [] := by
  cases hg : greatM xs with
  | true =>
    have hgr := great5 hm
    rw [hg] at hgr
    refine fun_intro 158 Try.func7 rfl rfl rfl (fun ι F S w => ?_)
    (repeat (first | (apply v_cx; exact rfl; exact cbA rfl; (first | exact awake5 | exact hgr); exact rfl; exact rfl) | (apply v_move; exact rfl; exact rfl) | (apply v_assign; exact rfl; exact rfl) | refine run_seq ?_ | refine run_region ?_ | refine runL_nil ?_ | refine run_skip ?_ | (apply run_cond; exact rfl; rotate_left; (focus (intro hb; cases hb; done)); intro hb; clear hb) | (apply run_cond; exact rfl; (focus (intro hb; cases hb; done)); intro hb; clear hb) | (apply v_not; exact rfl; exact rfl)))
    exact run_ret idN _ Try.func7 ⟨_, _, rfl, rfl, rfl⟩ rfl trivial trivial rfl
  | false =>
    have hgr := great5 hm
    rw [hg] at hgr
    have hl : xs.length ≤ 300 := by
      rw [greatM, Bool.or_eq_false_iff] at hg
      simpa using hg.2
    have hx := ac_ok hg hs
    have hw := wf_nodes hx
    have hmade := made5 hl hx
    generalize nodesM xs = l at hw hmade
    have hlen := hw.len
    have hd := desc_par hw
    have hcl := ch_len hd id
    cases hn : nodeAt l id with
    | none =>
      have hu := up_p hw id
      have hi := index_k hw id
      have hx2 := next_k hw id
      have hr := root_f hw id
      have hp : (nodeR l id).parent = 0 := by rw [nodeR_none hn]; rfl
      rw [ch_none hn] at hu
      rw [show indexM l id = -1 by simp [indexM, hp]] at hi
      rw [show nextM l id = 0 by simp [nextM, indexM, hp]] at hx2
      rw [show rootM l id = 0 by simp [rootM, ch_none hn]] at hr
      refine fun_intro 158 Try.func7 rfl rfl rfl (fun ι F S w => ?_)
      (repeat (first | (apply v_cx; exact rfl; exact cbA rfl; (first | exact awake5 | exact hgr | exact hmade | exact node_n hw hn | exact hu | exact hi | exact hx2 | exact hr); exact rfl; exact rfl) | (apply v_move; exact rfl; exact rfl) | (apply v_assign; exact rfl; exact rfl) | refine run_seq ?_ | refine run_region ?_ | refine runL_nil ?_ | refine run_skip ?_ | (apply v_extract; exact rfl; exact rfl; exact rfl) | (apply v_on; exact rfl) | (apply v_pick_t; exact rfl; exact rfl; exact rfl) | (apply run_cond; exact rfl; rotate_left; (focus (intro hb; cases hb; done)); intro hb; clear hb) | (apply run_cond; exact rfl; (focus (intro hb; cases hb; done)); intro hb; clear hb) | (apply v_not; exact rfl; exact rfl) | (apply v_eql; exact rfl; exact rfl; exact rfl) | (apply v_lenL; exact slA rfl; exact rfl; exact rfl) | (apply v_allocD; exact tyA rfl; exact rfl; exact rfl; exact rfl; exact rfl) | (apply v_storeW; exact tyA rfl; exact rfl; exact rfl; exact rfl; exact rfl; exact rfl; exact rfl; exact rfl)))
      exact run_ret idN _ Try.func7 ⟨_, _, rfl, rfl, rfl⟩ rfl trivial trivial rfl
    | some x =>
      have hst := ch_step hd hlen hn
      have h0 : (ch l Nd.parent id)[((0 : Int)).toNat]? = some id := by rw [hst]; rfl
      have hne : ch l Nd.parent id ≠ [] := by rw [hst]; simp
      have hpos : 0 < (ch l Nd.parent id).length := List.length_pos_iff.2 hne
      have hla : (ch l Nd.parent id)[(((ch l Nd.parent id).length : Int) - 1).toNat]? = some (rootM l id) := by
        rw [show (((ch l Nd.parent id).length : Int) - 1).toNat = (ch l Nd.parent id).length - 1 by omega, ← List.getLast?_eq_getElem?, rootM, List.getLastD_eq_getLast?]
        cases he : (ch l Nd.parent id).getLast? with
        | none => rw [List.getLast?_eq_none_iff] at he; exact absurd he hne
        | some v => rfl
      refine fun_intro 158 Try.func7 rfl rfl rfl (fun ι F S w => ?_)
      (repeat (first | (apply v_cx; exact rfl; exact cbA rfl; (first | exact awake5 | exact hgr | exact hmade | exact node_s hw hn | exact up_p hw id); exact rfl; exact rfl) | (apply v_move; exact rfl; exact rfl) | (apply v_assign; exact rfl; exact rfl) | refine run_seq ?_ | refine run_region ?_ | refine runL_nil ?_ | refine run_skip ?_ | (apply v_extract; exact rfl; exact rfl; exact rfl) | (apply run_cond; exact rfl; (focus (intro hb; cases hb; done)); intro hb; clear hb) | (apply v_not; exact rfl; exact rfl) | (apply v_allocD; exact tyA rfl; exact rfl; exact rfl; exact rfl; exact rfl) | (apply v_storeW; exact tyA rfl; exact rfl; exact rfl; exact rfl; exact rfl; exact rfl; exact rfl; exact rfl)))
      refine run_draws (by kernel_rfl) (by kernel_rfl) ?_
      (repeat (first | (apply p_move; exact rfl; exact rfl; exact rfl) | (apply p_eql; exact rfl; exact rfl; exact rfl; exact rfl) | (apply p_lenL; exact slA rfl; exact rfl; exact rfl; exact rfl)))
      refine p_is 54 false rfl (by simpa using hne) ?_
      (repeat (first | (apply p_idxL; exact slA rfl; exact tyA rfl; exact rfl; exact rfl; exact rfl; exact rfl; exact (by omega); (first | exact h0); exact rfl; exact rfl) | (apply p_move; exact rfl; exact rfl; exact rfl) | (apply p_loadA; exact tyA rfl; exact rfl; exact rfl; exact rfl; exact rfl; exact rfl; exact rfl; exact rfl) | (apply p_pick_f; exact rfl; exact rfl; exact rfl; exact rfl) | (apply p_neq; exact rfl; exact rfl; exact rfl; exact rfl)))
      refine p_is 61 false rfl (by simp) ?_
      (repeat (first | (apply p_idxL; exact slA rfl; exact tyA rfl; exact rfl; exact rfl; exact rfl; exact rfl; exact (by omega); (first | exact hla); exact rfl; exact rfl) | (apply p_cx; exact rfl; exact cbA rfl; (first | exact root_f hw id); exact rfl; exact rfl; exact rfl) | (apply p_move; exact rfl; exact rfl; exact rfl) | (apply p_loadA; exact tyA rfl; exact rfl; exact rfl; exact rfl; exact rfl; exact rfl; exact rfl; exact rfl) | (apply p_pick_f; exact rfl; exact rfl; exact rfl; exact rfl) | (apply p_neq; exact rfl; exact rfl; exact rfl; exact rfl) | (apply p_lenL; exact slA rfl; exact rfl; exact rfl; exact rfl) | (apply p_sub; exact rfl; exact rfl; exact rfl; exact (by omega); exact rfl)))
      refine p_is 73 false rfl (by simp) ?_
      (repeat (first | (apply p_move; exact rfl; exact rfl; exact rfl) | (apply p_fldP; exact flA rfl; exact rfl; exact rfl; exact rfl; exact rfl) | (apply p_loadB; exact tyA rfl; exact rfl; exact rfl; exact rfl; exact rfl; exact rfl; exact rfl; exact rfl) | (apply p_neq; exact rfl; exact rfl; exact rfl; exact rfl)))
      have hpe : rootM l id = rootM l id := rfl
      by_cases hp : x.parent = 0
      · refine p_is 77 false rfl (by simp [hp]) ?_
        (repeat (first | (apply p_off; exact rfl; exact rfl) | (apply p_pick_f; exact rfl; exact rfl; exact rfl; exact rfl)))
        refine planL_nil (by kernel_rfl) ?_
        refine run_condN rfl (by simp) ?_
        have hz : nodeAt l x.parent = none := by rw [hp]; exact nodeAt_zero
        have hxr := nodeR_some hn
        have hi := index_k hw id
        have hx2 := next_k hw id
        rw [show indexM l id = -1 by simp [indexM, hxr, hp]] at hi
        rw [show nextM l id = 0 by simp [nextM, indexM, hxr, hp]] at hx2
        (repeat (first | (apply v_cx; exact rfl; exact cbA rfl; (first | exact node_n hw hz | exact hi | exact hx2); exact rfl; exact rfl) | (apply v_move; exact rfl; exact rfl) | (apply v_assign; exact rfl; exact rfl) | refine run_seq ?_ | refine run_region ?_ | refine runL_nil ?_ | refine run_skip ?_ | (apply v_extract; exact rfl; exact rfl; exact rfl) | (apply v_fldP; exact flA rfl; exact rfl; exact rfl; exact rfl) | (apply v_loadB; exact tyA rfl; exact rfl; exact rfl; exact rfl; exact rfl; exact rfl; exact rfl) | (apply v_on; exact rfl) | (apply v_pick_t; exact rfl; exact rfl; exact rfl) | (apply run_cond; exact rfl; rotate_left; (focus (intro hb; cases hb; done)); intro hb; clear hb) | (apply v_not; exact rfl; exact rfl) | (apply v_eql; exact rfl; exact rfl; exact rfl) | (apply v_allocD; exact tyA rfl; exact rfl; exact rfl; exact rfl; exact rfl) | (apply v_storeW; exact tyA rfl; exact rfl; exact rfl; exact rfl; exact rfl; exact rfl; exact rfl; exact rfl)))
        exact run_ret idN _ Try.func7 ⟨_, _, rfl, rfl, rfl⟩ rfl trivial trivial rfl
      · obtain ⟨y, hy, hym⟩ := (hw.par hn).resolve_left hp
        have h1 : (ch l Nd.parent id)[((1 : Int)).toNat]? = some x.parent := by rw [hst, ch_step hd hlen hy]; rfl
        have h2 : 2 ≤ (ch l Nd.parent id).length := by
          have := (List.getElem?_eq_some_iff.1 h1).1
          simp at this
          omega
        refine p_is 77 true rfl (by simp [hp]) ?_
        (repeat (first | (apply p_move; exact rfl; exact rfl; exact rfl) | (apply p_lss; exact rfl; exact rfl; exact rfl; exact rfl) | (apply p_lenL; exact slA rfl; exact rfl; exact rfl; exact rfl)))
        refine p_is 81 false rfl (by first | (simp; done) | (simp; omega)) ?_
        (repeat (first | (apply p_idxL; exact slA rfl; exact tyA rfl; exact rfl; exact rfl; exact rfl; exact rfl; exact (by omega); (first | exact h1); exact rfl; exact rfl) | (apply p_move; exact rfl; exact rfl; exact rfl) | (apply p_fldP; exact flA rfl; exact rfl; exact rfl; exact rfl; exact rfl) | (apply p_loadB; exact tyA rfl; exact rfl; exact rfl; exact rfl; exact rfl; exact rfl; exact rfl; exact rfl) | (apply p_loadA; exact tyA rfl; exact rfl; exact rfl; exact rfl; exact rfl; exact rfl; exact rfl; exact rfl) | (apply p_pick_t; exact rfl; exact rfl; exact rfl; exact rfl) | (apply p_pick_f; exact rfl; exact rfl; exact rfl; exact rfl) | (apply p_neq; exact rfl; exact rfl; exact rfl; exact rfl)))
        refine planL_nil (by kernel_rfl) ?_
        refine run_condN rfl (by simp) ?_
        have hxr := nodeR_some hn
        have hyr := nodeR_some hy
        have hsb : sibs l id = y.kids := by simp [sibs, hxr, hp, hyr]
        have hkl := (kids_ok hw _ y hy).1
        obtain ⟨i, hi0⟩ : ∃ i : Nat, i = y.kids.idxOf id := ⟨_, rfl⟩
        have hil : i < y.kids.length := by rw [hi0]; exact List.idxOf_lt_length_iff.2 hym
        have hki : y.kids[((i : Int)).toNat]? = some id := by
          rw [show ((i : Int)).toNat = i by omega, List.getElem?_eq_getElem hil]
          subst hi0
          rw [List.getElem_idxOf]
        have hix : indexM l id = (i : Int) := by rw [indexM, hxr, if_neg hp, hsb, idxI, if_pos hym, hi0]
        have hnx : nextM l id = y.kids.getD (i + 1) 0 := by
          rw [nextM, hix, if_pos (by omega), hsb]; rfl
        have hi := index_k hw id
        have hx2 := next_k hw id
        rw [hix] at hi
        rw [hnx] at hx2
        clear hi0 hix hnx
        (repeat (first | (apply v_cx; exact rfl; exact cbA rfl; (first | exact node_s hw hy | exact hi | exact hx2); exact rfl; exact rfl) | (apply v_move; exact rfl; exact rfl) | (apply v_assign; exact rfl; exact rfl) | refine run_seq ?_ | refine run_region ?_ | refine runL_nil ?_ | refine run_skip ?_ | (apply v_extract; exact rfl; exact rfl; exact rfl) | (apply v_fldP; exact flA rfl; exact rfl; exact rfl; exact rfl) | (apply v_loadB; exact tyA rfl; exact rfl; exact rfl; exact rfl; exact rfl; exact rfl; exact rfl) | (apply v_on; exact rfl) | (apply v_pick_f; exact rfl; exact rfl; exact rfl) | (apply run_cond; exact rfl; (focus (intro hb; cases hb; done)); intro hb; clear hb) | (apply v_not; exact rfl; exact rfl) | (apply v_lss; exact rfl; exact rfl; exact rfl) | (apply v_geq; exact rfl; exact rfl; exact rfl) | (apply v_lenL; exact slA rfl; exact rfl; exact rfl) | (apply v_allocD; exact tyA rfl; exact rfl; exact rfl; exact rfl; exact rfl) | (apply v_storeW; exact tyA rfl; exact rfl; exact rfl; exact rfl; exact rfl; exact rfl; exact rfl; exact rfl)))
        refine v_is 114 false rfl (by first | (simp; done) | (simp; omega)) ?_
        skip
        refine v_is 121 false rfl (by first | (simp; done) | (simp; omega)) ?_
        (repeat (first | (apply v_idxL; exact slA rfl; exact tyA rfl; exact rfl; exact rfl; exact rfl; exact rfl; exact (by omega); (first | exact hki); exact rfl) | (apply v_move; exact rfl; exact rfl) | refine runL_nil ?_ | (apply v_fldP; exact flA rfl; exact rfl; exact rfl; exact rfl) | (apply v_loadB; exact tyA rfl; exact rfl; exact rfl; exact rfl; exact rfl; exact rfl; exact rfl) | (apply v_loadA; exact tyA rfl; exact rfl; exact rfl; exact rfl; exact rfl; exact rfl; exact rfl) | (apply v_on; exact rfl) | (apply v_pick_f; exact rfl; exact rfl; exact rfl) | (apply v_neq; exact rfl; exact rfl; exact rfl)))
        refine run_condN rfl (by simp) ?_
        (repeat (first | (apply v_move; exact rfl; exact rfl) | refine run_seq ?_ | refine run_region ?_ | refine run_skip ?_ | (apply v_fldP; exact flA rfl; exact rfl; exact rfl; exact rfl) | (apply v_loadB; exact tyA rfl; exact rfl; exact rfl; exact rfl; exact rfl; exact rfl; exact rfl) | (apply v_lss; exact rfl; exact rfl; exact rfl) | (apply v_lenL; exact slA rfl; exact rfl; exact rfl) | (apply v_add; exact rfl; exact rfl; exact rfl; exact (by omega))))
        by_cases hlt : i + 1 < y.kids.length
        · have hk2 : y.kids[((i : Int) + 1).toNat]? = some (y.kids.getD (i + 1) 0) := by
            rw [show ((i : Int) + 1).toNat = i + 1 by omega, List.getD_eq_getElem?_getD, List.getElem?_eq_getElem hlt]; rfl
          refine v_is 136 true rfl (by first | (simp; done) | (simp; omega)) ?_
          (repeat (first | (apply v_idxL; exact slA rfl; exact tyA rfl; exact rfl; exact rfl; exact rfl; exact rfl; exact (by omega); (first | exact hk2); exact rfl) | (apply v_move; exact rfl; exact rfl) | (apply v_fldP; exact flA rfl; exact rfl; exact rfl; exact rfl) | (apply v_loadB; exact tyA rfl; exact rfl; exact rfl; exact rfl; exact rfl; exact rfl; exact rfl) | (apply v_loadA; exact tyA rfl; exact rfl; exact rfl; exact rfl; exact rfl; exact rfl; exact rfl) | (apply v_on; exact rfl) | (apply v_pick_t; exact rfl; exact rfl; exact rfl) | (apply v_eql; exact rfl; exact rfl; exact rfl) | (apply v_add; exact rfl; exact rfl; exact rfl; exact (by omega))))
          refine v_is 146 true rfl (by simp) ?_
          (repeat (first | (apply v_assign; exact rfl; exact rfl) | refine runL_nil ?_ | (apply v_off; exact rfl; exact rfl) | (apply v_pick_t; exact rfl; exact rfl; exact rfl)))
          exact run_ret idN _ Try.func7 ⟨_, _, rfl, rfl, rfl⟩ rfl trivial trivial rfl
        · have hz : y.kids.getD (i + 1) 0 = 0 := by rw [List.getD_eq_getElem?_getD, List.getElem?_eq_none (by omega)]; rfl
          rw [hz]
          refine v_is 136 false rfl (by first | (simp; done) | (simp; omega)) ?_
          (repeat (first | (apply v_move; exact rfl; exact rfl) | (apply v_fldP; exact flA rfl; exact rfl; exact rfl; exact rfl) | (apply v_loadB; exact tyA rfl; exact rfl; exact rfl; exact rfl; exact rfl; exact rfl; exact rfl) | (apply v_on; exact rfl) | (apply v_off; exact rfl; exact rfl) | (apply v_pick_f; exact rfl; exact rfl; exact rfl) | (apply v_eql; exact rfl; exact rfl; exact rfl) | (apply v_lenL; exact slA rfl; exact rfl; exact rfl) | (apply v_add; exact rfl; exact rfl; exact rfl; exact (by omega))))
          refine v_is 153 true rfl (by first | (simp; done) | (simp; omega)) ?_
          (repeat (first | (apply v_move; exact rfl; exact rfl) | (apply v_assign; exact rfl; exact rfl) | refine runL_nil ?_ | (apply v_on; exact rfl) | (apply v_pick_t; exact rfl; exact rfl; exact rfl) | (apply v_pick_f; exact rfl; exact rfl; exact rfl) | (apply v_eql; exact rfl; exact rfl; exact rfl)))
          exact run_ret idN _ Try.func7 ⟨_, _, rfl, rfl, rfl⟩ rfl trivial trivial rfl
end Go.Proofs.Ytjkidecaciomgaa
