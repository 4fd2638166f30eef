/- kin: Up, Root, Above, kids, Index, Next, Count. -/
import Derived.Test.YtjkidecaciomgaaBD
namespace Go.Proofs.Ytjkidecaciomgaa
set_option linter.unusedVariables false
set_option linter.unusedSimpArgs false
set_option maxRecDepth 100000
open Go.RowKit

theorem node_w {l : List Nd} (h : WF l) (id : Int) : Fun Try.prog 38 [forA l, .v (.int .i64 id)] [] (.tup [.agg (nodeL (nodeR l id)), .v (.bool (nodeAt l id).isSome)]) [] :=
  node_f id (by have := h.len; omega) fun x hx => by
    obtain ⟨i, hi, e⟩ := List.getElem_of_mem hx
    refine (kids_ok h ((i : Int) + 1) x ?_).1
    unfold nodeAt
    rw [if_pos (by omega), show ((i : Int) + 1 - 1).toNat = i by omega, List.getElem?_eq_getElem hi, e]
theorem nodeR_some {l : List Nd} {id : Int} {x : Nd} (h : nodeAt l id = some x) : nodeR l id = x := by rw [nodeR, h]; rfl
theorem nodeR_none {l : List Nd} {id : Int} (h : nodeAt l id = none) : nodeR l id = nd0 := by rw [nodeR, h]; rfl
theorem node_s {l : List Nd} (h : WF l) {id : Int} {x : Nd} (hx : nodeAt l id = some x) : Fun Try.prog 38 [forA l, .v (.int .i64 id)] [] (.tup [.agg (nodeL x), .v (.bool true)]) [] := by
  have := node_w h id
  rwa [nodeR_some hx, hx] at this
theorem node_n {l : List Nd} (h : WF l) {id : Int} (hx : nodeAt l id = none) : Fun Try.prog 38 [forA l, .v (.int .i64 id)] [] (.tup [.agg (nodeL nd0), .v (.bool false)]) [] := by
  have := node_w h id
  rwa [nodeR_none hx, hx] at this
theorem up_f {l : List Nd} (h : WF l) (id : Int) : Fun Try.prog 56 [forA l, .v (.int .i64 id)] [] (.res 0) [(0, .obj (ownS 3 intE (ch l Nd.parent id)))] := by
  have hd := desc_par h
  have hlen := h.len
  have hcl := ch_len hd id
  refine fun_intro 23 Try.func56 rfl rfl rfl (fun ι F S w => ?_)
  (repeat (first | (apply v_assign; exact rfl; exact rfl) | refine run_seq ?_ | refine run_region ?_ | refine runL_nil ?_ | refine run_block ?_))
  refine run_own 5 5 3 intE rfl rfl rfl rfl ?_
  refine v_loop (fun q : List Int × Int => ⟨[(0, forA l), (1, .v (.int .i64 q.2)), (5, .res 5)], [(5, .obj (ownS 3 intE q.1))]⟩) (fun q => q.1 ++ ch l Nd.parent q.2 = ch l Nd.parent id) (fun q => (ch l Nd.parent q.2).length) ([], id) idN trivial (by repeat (first | exact trivial | refine ⟨rfl, ?_⟩)) (by repeat (first | exact trivial | refine ⟨rfl, ?_⟩)) rfl rfl fun ⟨out, c⟩ hq ih => ?_
  simp only at hq
  cases hx : nodeAt l c with
  | none =>
    (repeat (first | (apply v_cx; exact rfl; exact cbA rfl; (first | exact node_n h hx); exact rfl; exact rfl) | (apply v_move; exact rfl; exact rfl) | (apply v_assign; exact rfl; exact rfl) | refine run_seq ?_ | refine run_region ?_ | refine runL_nil ?_ | refine run_block ?_ | (apply v_extract; exact rfl; exact rfl; exact rfl) | (apply run_cond; exact rfl; rotate_left; (focus (intro hb; cases hb; done)); intro hb; clear hb) | (apply v_not; exact rfl; exact rfl) | (apply v_allocD; exact tyA rfl; exact rfl; exact rfl; exact rfl; exact rfl) | (apply v_storeW; exact tyA rfl; exact rfl; exact rfl; exact rfl; exact rfl; exact rfl; exact rfl; exact rfl)))
    exact run_ret (mp [(0, 5)]) _ Try.func56 ⟨_, _, rfl, rfl, rfl⟩ rfl trivial ⟨by rw [← hq, ch_none hx, List.append_nil]; rfl, trivial⟩ rfl
  | some x =>
    have hst := ch_step hd hlen hx
    have hle : out.length + 1 ≤ 128 := by
      have := congrArg List.length hq
      rw [hst] at this
      simp at this
      omega
    (repeat (first | (apply v_cx; exact rfl; exact cbA rfl; (first | exact node_s h hx); exact rfl; exact rfl) | (apply v_move; exact rfl; exact rfl) | (apply v_assign; exact rfl; exact rfl) | refine run_seq ?_ | refine run_region ?_ | refine runL_nil ?_ | refine run_skip ?_ | refine run_block ?_ | (apply v_extract; exact rfl; exact rfl; exact rfl) | (apply run_cond; exact rfl; (focus (intro hb; cases hb; done)); intro hb; clear hb) | (apply v_not; exact rfl; exact rfl) | (apply v_allocD; exact tyA rfl; exact rfl; exact rfl; exact rfl; exact rfl) | (apply v_storeW; exact tyA rfl; exact rfl; exact rfl; exact rfl; exact rfl; exact rfl; exact rfl; exact rfl)))
    refine v_l intE [c] (slA rfl) (tyA rfl) rfl rfl rfl rfl rfl rfl rfl rfl rfl rfl ?_
    refine v_appendD (slA rfl) (tyA rfl) rfl rfl rfl rfl rfl rfl rfl (by simp; omega) rfl rfl rfl rfl ?_
    (repeat (first | (apply v_assign; exact rfl; exact rfl) | refine run_region ?_ | refine runL_nil ?_ | refine run_inBlock ?_ | (apply v_fldP; exact flA rfl; exact rfl; exact rfl; exact rfl) | (apply v_loadB; exact tyA rfl; exact rfl; exact rfl; exact rfl; exact rfl; exact rfl; exact rfl)))
    exact v_again ih (out ++ [c], x.parent) (mp [(5, 20)]) trivial (by repeat (first | exact trivial | refine ⟨rfl, ?_⟩)) ⟨rfl, trivial⟩ rfl (by simp only; rw [← hq, hst]; simp) (by simp only; rw [hst]; simp)
theorem up_p {l : List Nd} (h : WF l) (id : Int) : Fun Try.prog 56 [forA l, .v (.int .i64 id)] [] (.sem (listS intE (ch l Nd.parent id))) [] := (up_f h id).freeze
/-- A node's root. -/
def rootM (l : List Nd) (id : Int) : Int := (ch l Nd.parent id).getLastD 0
theorem root_f {l : List Nd} (h : WF l) (id : Int) : Fun Try.prog 53 [forA l, .v (.int .i64 id)] [] (.v (.int .i64 (rootM l id))) [] := by
  have hcl := ch_len (desc_par h) id
  have hlen := h.len
  refine fun_intro 18 Try.func53 rfl rfl rfl (fun ι F S w => ?_)
  (repeat (first | (apply v_cx; exact rfl; exact cbA rfl; (first | exact up_p h id); exact rfl; exact rfl) | (apply v_move; exact rfl; exact rfl) | (apply v_assign; exact rfl; exact rfl) | refine run_seq ?_ | refine run_region ?_ | refine runL_nil ?_ | (apply v_eql; exact rfl; exact rfl; exact rfl) | (apply v_lenL; exact slA rfl; exact rfl; exact rfl)))
  refine run_cond rfl (fun hc => ?_) (fun hc => ?_)
  · have h0 : ch l Nd.parent id = [] := by simpa using hc
    (repeat (first | (apply v_assign; exact rfl; exact rfl) | refine run_seq ?_ | refine run_region ?_ | refine runL_nil ?_))
    exact run_ret idN _ Try.func53 ⟨_, _, rfl, rfl, rfl⟩ (by simp [rootM, h0, oneA, AV.ren]) trivial trivial rfl
  · have h0 : ch l Nd.parent id ≠ [] := by simpa using hc
    have hpos : 0 < (ch l Nd.parent id).length := List.length_pos_iff.2 h0
    have hx : (ch l Nd.parent id)[(((ch l Nd.parent id).length : Int) - 1).toNat]? = some (rootM l id) := by
      rw [show (((ch l Nd.parent id).length : Int) - 1).toNat = (ch l Nd.parent id).length - 1 by omega, ← List.getLast?_eq_getElem?, rootM, List.getLastD_eq_getLast?]
      cases he : (ch l Nd.parent id).getLast? with
      | none => rw [List.getLast?_eq_none_iff] at he; exact absurd he h0
      | some v => rfl
    (repeat (first | (apply v_idxL; exact slA rfl; exact tyA rfl; exact rfl; exact rfl; exact rfl; exact rfl; exact (by omega); (first | exact hx); exact rfl) | (apply v_move; exact rfl; exact rfl) | (apply v_assign; exact rfl; exact rfl) | refine run_seq ?_ | refine run_region ?_ | refine runL_nil ?_ | refine run_skip ?_ | (apply v_loadA; exact tyA rfl; exact rfl; exact rfl; exact rfl; exact rfl; exact rfl; exact rfl) | (apply v_lenL; exact slA rfl; exact rfl; exact rfl) | (apply v_sub; exact rfl; exact rfl; exact rfl; exact (by omega))))
    exact run_ret idN _ Try.func53 ⟨_, _, rfl, rfl, rfl⟩ rfl trivial trivial rfl
theorem above_k {l : List Nd} (h : WF l) (a b : Int) : Fun Try.prog 55 [forA l, .v (.int .i64 a), .v (.int .i64 b)] [] (.v (.bool (decide (a ∈ ch l Nd.parent b)))) [] := by
  have hcl := ch_len (desc_par h) b
  have hlen := h.len
  refine fun_intro 12 Try.func55 rfl rfl rfl (fun ι F S w => ?_)
  (repeat (first | (apply v_cx; exact rfl; exact cbA rfl; (first | exact up_p h b | exact contains_i a (by omega)); exact rfl; exact rfl) | (apply v_move; exact rfl; exact rfl) | (apply v_assign; exact rfl; exact rfl) | refine run_seq ?_ | refine run_region ?_ | refine runL_nil ?_))
  exact run_ret idN _ Try.func55 ⟨_, _, rfl, rfl, rfl⟩ rfl trivial trivial rfl
/-- The children of a node's parent. -/
def sibs (l : List Nd) (id : Int) : List Int := if (nodeR l id).parent = 0 then [] else (nodeR l (nodeR l id).parent).kids
def indexM (l : List Nd) (id : Int) : Int := if (nodeR l id).parent = 0 then -1 else idxI (sibs l id) id
theorem sibs_ok {l : List Nd} (h : WF l) (id : Int) : (sibs l id).length ≤ 1000000 := by
  unfold sibs
  split
  · simp
  · unfold nodeR
    cases hx : nodeAt l ((nodeAt l id).getD nd0).parent with
    | none => simp [nd0]
    | some y => exact (kids_ok h _ y hx).1
theorem kids_k {l : List Nd} (h : WF l) (id : Int) : Fun Try.prog 146 [forA l, .v (.int .i64 id)] [] (.tup [.sem (listS intE (sibs l id)), .v (.int .i64 (indexM l id))]) [] := by
  have hsl := sibs_ok h id
  cases hx : nodeAt l id with
  | none =>
    have hp : (nodeR l id).parent = 0 := by rw [nodeR_none hx]; rfl
    rw [show sibs l id = [] by simp [sibs, hp], show indexM l id = -1 by simp [indexM, hp]]
    refine fun_intro 36 Try.func146 rfl rfl rfl (fun ι F S w => ?_)
    (repeat (first | (apply v_cx; exact rfl; exact cbA rfl; (first | exact node_n h hx); exact rfl; exact rfl) | (apply v_move; exact rfl; exact rfl) | (apply v_assign; exact rfl; exact rfl) | refine run_seq ?_ | refine run_region ?_ | refine runL_nil ?_ | (apply v_extract; exact rfl; exact rfl; exact rfl) | (apply v_off; exact rfl; exact rfl) | (apply v_pick_t; exact rfl; exact rfl; exact rfl) | (apply run_cond; exact rfl; rotate_left; (focus (intro hb; cases hb; done)); intro hb; clear hb) | (apply v_not; exact rfl; exact rfl) | (apply v_allocD; exact tyA rfl; exact rfl; exact rfl; exact rfl; exact rfl) | (apply v_storeW; exact tyA rfl; exact rfl; exact rfl; exact rfl; exact rfl; exact rfl; exact rfl; exact rfl)))
    refine run_le 4 rfl (y := .sem (listS intE [])) Le.nil ?_
    exact run_ret idN _ Try.func146 ⟨_, _, rfl, rfl, _, _, rfl, rfl, rfl⟩ rfl trivial trivial rfl
  | some x =>
    have hxr := nodeR_some hx
    by_cases hp : x.parent = 0
    · rw [show sibs l id = [] by simp [sibs, hxr, hp], show indexM l id = -1 by simp [indexM, hxr, hp]]
      refine fun_intro 36 Try.func146 rfl rfl rfl (fun ι F S w => ?_)
      (repeat (first | (apply v_cx; exact rfl; exact cbA rfl; (first | exact node_s h hx); exact rfl; exact rfl) | (apply v_move; exact rfl; exact rfl) | (apply v_assign; exact rfl; exact rfl) | refine run_seq ?_ | refine run_region ?_ | refine runL_nil ?_ | (apply v_extract; exact rfl; exact rfl; exact rfl) | (apply v_fldP; exact flA rfl; exact rfl; exact rfl; exact rfl) | (apply v_loadB; exact tyA rfl; exact rfl; exact rfl; exact rfl; exact rfl; exact rfl; exact rfl) | (apply v_on; exact rfl) | (apply v_pick_f; exact rfl; exact rfl; exact rfl) | (apply v_not; exact rfl; exact rfl) | (apply v_eql; exact rfl; exact rfl; exact rfl) | (apply v_allocD; exact tyA rfl; exact rfl; exact rfl; exact rfl; exact rfl) | (apply v_storeW; exact tyA rfl; exact rfl; exact rfl; exact rfl; exact rfl; exact rfl; exact rfl; exact rfl)))
      refine run_condY rfl (by simp [hp]) ?_
      (repeat (first | (apply v_assign; exact rfl; exact rfl) | refine run_seq ?_ | refine run_region ?_ | refine runL_nil ?_))
      refine run_le 4 rfl (y := .sem (listS intE [])) Le.nil ?_
      exact run_ret idN _ Try.func146 ⟨_, _, rfl, rfl, _, _, rfl, rfl, rfl⟩ rfl trivial trivial rfl
    · obtain ⟨y, hy, _⟩ := (h.par hx).resolve_left hp
      have hs : sibs l id = y.kids := by simp [sibs, hxr, hp, nodeR_some hy]
      rw [show indexM l id = idxI y.kids id by simp [indexM, hxr, hp, hs], hs]
      rw [hs] at hsl
      refine fun_intro 36 Try.func146 rfl rfl rfl (fun ι F S w => ?_)
      (repeat (first | (apply v_cx; exact rfl; exact cbA rfl; (first | exact node_s h hx); exact rfl; exact rfl) | (apply v_move; exact rfl; exact rfl) | (apply v_assign; exact rfl; exact rfl) | refine run_seq ?_ | refine run_region ?_ | refine runL_nil ?_ | (apply v_extract; exact rfl; exact rfl; exact rfl) | (apply v_fldP; exact flA rfl; exact rfl; exact rfl; exact rfl) | (apply v_loadB; exact tyA rfl; exact rfl; exact rfl; exact rfl; exact rfl; exact rfl; exact rfl) | (apply v_on; exact rfl) | (apply v_pick_f; exact rfl; exact rfl; exact rfl) | (apply v_not; exact rfl; exact rfl) | (apply v_eql; exact rfl; exact rfl; exact rfl) | (apply v_allocD; exact tyA rfl; exact rfl; exact rfl; exact rfl; exact rfl) | (apply v_storeW; exact tyA rfl; exact rfl; exact rfl; exact rfl; exact rfl; exact rfl; exact rfl; exact rfl)))
      refine run_condN rfl (by simp [hp]) ?_
      (repeat (first | (apply v_cx; exact rfl; exact cbA rfl; (first | exact node_s h hy); exact rfl; exact rfl) | (apply v_move; exact rfl; exact rfl) | (apply v_assign; exact rfl; exact rfl) | refine run_seq ?_ | refine run_region ?_ | refine runL_nil ?_ | refine run_skip ?_ | (apply v_extract; exact rfl; exact rfl; exact rfl) | (apply v_fldP; exact flA rfl; exact rfl; exact rfl; exact rfl) | (apply v_loadB; exact tyA rfl; exact rfl; exact rfl; exact rfl; exact rfl; exact rfl; exact rfl) | (apply v_allocD; exact tyA rfl; exact rfl; exact rfl; exact rfl; exact rfl) | (apply v_storeW; exact tyA rfl; exact rfl; exact rfl; exact rfl; exact rfl; exact rfl; exact rfl; exact rfl)))
      refine run_draws (by kernel_rfl) (by kernel_rfl) ?_
      (repeat (first | (apply p_cx; exact rfl; exact cbA rfl; (first | exact index_i id hsl); exact rfl; exact rfl; exact rfl) | (apply p_move; exact rfl; exact rfl; exact rfl) | (apply p_assign; exact rfl; exact rfl; exact rfl) | (apply p_fldP; exact flA rfl; exact rfl; exact rfl; exact rfl; exact rfl) | (apply p_loadB; exact tyA rfl; exact rfl; exact rfl; exact rfl; exact rfl; exact rfl; exact rfl; exact rfl)))
      refine planL_nil (by kernel_rfl) ?_
      exact run_ret idN _ Try.func146 ⟨_, _, rfl, rfl, _, _, rfl, rfl, rfl⟩ rfl trivial trivial rfl
theorem index_k {l : List Nd} (h : WF l) (id : Int) : Fun Try.prog 57 [forA l, .v (.int .i64 id)] [] (.v (.int .i64 (indexM l id))) [] := by
  refine fun_intro 14 Try.func57 rfl rfl rfl (fun ι F S w => ?_)
  (repeat (first | (apply v_cx; exact rfl; exact cbA rfl; (first | exact kids_k h id); exact rfl; exact rfl) | (apply v_move; exact rfl; exact rfl) | (apply v_assign; exact rfl; exact rfl) | refine run_seq ?_ | refine run_region ?_ | refine runL_nil ?_ | (apply v_extract; exact rfl; exact rfl; exact rfl)))
  exact run_ret idN _ Try.func57 ⟨_, _, rfl, rfl, rfl⟩ rfl trivial trivial rfl
end Go.Proofs.Ytjkidecaciomgaa
