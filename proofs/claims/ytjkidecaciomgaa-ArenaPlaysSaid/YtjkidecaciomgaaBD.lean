/- Fo1, Fo2, Fo3, Fo4, Fo5, Fo6, Fo7, Fo8, FoM, FoN, FoA, FoC. -/
import Derived.Test.YtjkidecaciomgaaBB
import Derived.Test.YtjkidecaciomgaaBC
import Derived.Test.YtjkidecaciomgaaWord
/- The forest: nodes, read. -/
namespace Go.Proofs.Ytjkidecaciomgaa
set_option linter.unusedVariables false
set_option linter.unusedSimpArgs false
set_option maxRecDepth 100000
open Go.RowKit

def intE : Enc Int where
  sz := 1
  f := fun n => [.v (.int .i64 n)]
  len := fun _ => rfl
  leaf := fun _ => rfl
structure Nd where
  kind : Int
  parent : Int
  host : Int
  shadow : Int
  mode : Int
  slot : Bool
  name : ByteArray
  want : ByteArray
  kids : List Int
deriving DecidableEq
def nodeL (x : Nd) : List AV := [.v (.int .i64 x.kind), .v (.int .i64 x.parent), .v (.int .i64 x.host), .v (.int .i64 x.shadow), .v (.int .i64 x.mode), .v (.bool x.slot), .v (.string x.name), .v (.string x.want), .sem (listS intE x.kids)]
def nodeE : Enc Nd where
  sz := 9
  f := nodeL
  len := fun _ => rfl
  leaf := fun _ => rfl
/-- A forest that is read: its pointer. -/
abbrev forA (l : List Nd) : AV := .sem (adrS [.sem (listS nodeE l)])
def nd0 : Nd := ⟨0, 0, 0, 0, 0, false, ⟨#[]⟩, ⟨#[]⟩, []⟩
/-- A node by its number. -/
def nodeAt (l : List Nd) (id : Int) : Option Nd := if 1 ≤ id then l[(id - 1).toNat]? else none
theorem nodeAt_some {l : List Nd} {id : Int} {x : Nd} (h : nodeAt l id = some x) : 1 ≤ id ∧ id ≤ l.length ∧ l[(id - 1).toNat]? = some x := by
  unfold nodeAt at h
  split at h
  · have := (List.getElem?_eq_some_iff.1 h).1
    exact ⟨by assumption, by omega, h⟩
  · cases h
theorem nodeAt_none {l : List Nd} {id : Int} (h : nodeAt l id = none) : id < 1 ∨ (l.length : Int) < id := by
  unfold nodeAt at h
  split at h
  · rw [List.getElem?_eq_none_iff] at h
    omega
  · omega

theorem at_some {l : List Nd} {id : Int} {x : Nd} (h : nodeAt l id = some x) (hm : l.length ≤ 1000000) : Fun Try.prog 138 [forA l, .v (.int .i64 id)] [] (.sem (adrS (nodeL x))) [] := by
  obtain ⟨h0, h1, hx⟩ := nodeAt_some h
  refine fun_intro 27 Try.func138 rfl rfl rfl (fun ι F S w => ?_)
  (repeat (first | (apply v_move; exact rfl; exact rfl) | (apply v_assign; exact rfl; exact rfl) | refine run_seq ?_ | refine run_region ?_ | refine runL_nil ?_ | (apply v_on; exact rfl) | (apply v_pick_f; exact rfl; exact rfl; exact rfl) | (apply v_lss; exact rfl; exact rfl; exact rfl) | (apply v_eqlNil; exact ptA rfl; exact rfl; exact NN.adr; exact rfl)))
  refine v_is 11 false rfl (by simp; omega) ?_
  (repeat (first | (apply v_move; exact rfl; exact rfl) | refine runL_nil ?_ | (apply v_fldA; exact flA rfl; exact rfl; exact rfl; exact rfl) | (apply v_loadA; exact tyA rfl; exact rfl; exact rfl; exact rfl; exact rfl; exact rfl; exact rfl) | (apply v_on; exact rfl) | (apply v_pick_f; exact rfl; exact rfl; exact rfl) | (apply v_gtr; exact rfl; exact rfl; exact rfl) | (apply v_lenL; exact slA rfl; exact rfl; exact rfl) | (apply v_nilCheck; exact rfl; exact NN.adr; exact rfl)))
  refine run_condN rfl (by simp; omega) ?_
  (repeat (first | (apply v_move; exact rfl; exact rfl) | refine run_seq ?_ | refine run_region ?_ | refine run_skip ?_ | (apply v_fldA; exact flA rfl; exact rfl; exact rfl; exact rfl) | (apply v_loadA; exact tyA rfl; exact rfl; exact rfl; exact rfl; exact rfl; exact rfl; exact rfl) | (apply v_nilCheck; exact rfl; exact NN.adr; exact rfl) | (apply v_sub; exact rfl; exact rfl; exact rfl; exact (by omega))))
  refine v_idxL sl27 ty33 rfl rfl rfl rfl (by omega) hx rfl ?_
  (repeat (first | (apply v_assign; exact rfl; exact rfl) | refine runL_nil ?_))
  exact run_ret idN _ Try.func138 ⟨_, _, rfl, rfl, rfl⟩ rfl trivial trivial rfl
theorem at_none {l : List Nd} {id : Int} (h : nodeAt l id = none) (hm : l.length ≤ 1000000) : Fun Try.prog 138 [forA l, .v (.int .i64 id)] [] (.v (.pointer none)) [] := by
  have h := nodeAt_none h
  refine fun_intro 27 Try.func138 rfl rfl rfl (fun ι F S w => ?_)
  (repeat (first | (apply v_move; exact rfl; exact rfl) | (apply v_assign; exact rfl; exact rfl) | refine run_seq ?_ | refine run_region ?_ | refine runL_nil ?_ | (apply v_on; exact rfl) | (apply v_pick_f; exact rfl; exact rfl; exact rfl) | (apply v_lss; exact rfl; exact rfl; exact rfl) | (apply v_eqlNil; exact ptA rfl; exact rfl; exact NN.adr; exact rfl)))
  by_cases h1 : id < 1
  · refine v_is 11 true rfl (by simp; omega) ?_
    (repeat (first | (apply v_assign; exact rfl; exact rfl) | refine run_seq ?_ | refine run_region ?_ | refine runL_nil ?_ | (apply v_off; exact rfl; exact rfl) | (apply v_pick_t; exact rfl; exact rfl; exact rfl) | (apply run_cond; exact rfl; rotate_left; (focus (intro hb; cases hb; done)); intro hb; clear hb)))
    exact run_ret idN _ Try.func138 ⟨_, _, rfl, rfl, rfl⟩ rfl trivial trivial rfl
  · refine v_is 11 false rfl (by simp; omega) ?_
    (repeat (first | (apply v_move; exact rfl; exact rfl) | refine runL_nil ?_ | (apply v_fldA; exact flA rfl; exact rfl; exact rfl; exact rfl) | (apply v_loadA; exact tyA rfl; exact rfl; exact rfl; exact rfl; exact rfl; exact rfl; exact rfl) | (apply v_on; exact rfl) | (apply v_pick_f; exact rfl; exact rfl; exact rfl) | (apply v_gtr; exact rfl; exact rfl; exact rfl) | (apply v_lenL; exact slA rfl; exact rfl; exact rfl) | (apply v_nilCheck; exact rfl; exact NN.adr; exact rfl)))
    refine run_condY rfl (by simp; omega) ?_
    (repeat (first | (apply v_assign; exact rfl; exact rfl) | refine run_seq ?_ | refine run_region ?_ | refine runL_nil ?_))
    exact run_ret idN _ Try.func138 ⟨_, _, rfl, rfl, rfl⟩ rfl trivial trivial rfl
theorem at_nil (id : Int) : Fun Try.prog 138 [.v (.pointer none), .v (.int .i64 id)] [] (.v (.pointer none)) [] := by
  refine fun_intro 27 Try.func138 rfl rfl rfl (fun ι F S w => ?_)
  (repeat (first | (apply v_move; exact rfl; exact rfl) | (apply v_assign; exact rfl; exact rfl) | refine run_seq ?_ | refine run_region ?_ | refine runL_nil ?_ | (apply v_off; exact rfl; exact rfl) | (apply v_pick_t; exact rfl; exact rfl; exact rfl) | (apply run_cond; exact rfl; rotate_left; (focus (intro hb; cases hb; done)); intro hb; clear hb) | (apply v_nilEql; exact ptA rfl; exact rfl; exact rfl)))
  exact run_ret idN _ Try.func138 ⟨_, _, rfl, rfl, rfl⟩ rfl trivial trivial rfl
theorem len_f {l : List Nd} : Fun Try.prog 37 [forA l] [] (.v (.int .i64 l.length)) [] := by
  refine fun_intro 10 Try.func37 rfl rfl rfl (fun ι F S w => ?_)
  (repeat (first | (apply v_move; exact rfl; exact rfl) | (apply v_assign; exact rfl; exact rfl) | refine run_seq ?_ | refine run_region ?_ | refine runL_nil ?_ | refine run_skip ?_ | (apply v_fldA; exact flA rfl; exact rfl; exact rfl; exact rfl) | (apply v_loadA; exact tyA rfl; exact rfl; exact rfl; exact rfl; exact rfl; exact rfl; exact rfl) | (apply run_cond; exact rfl; (focus (intro hb; cases hb; done)); intro hb; clear hb) | (apply v_lenL; exact slA rfl; exact rfl; exact rfl) | (apply v_eqlNil; exact ptA rfl; exact rfl; exact NN.adr; exact rfl) | (apply v_nilCheck; exact rfl; exact NN.adr; exact rfl)))
  exact run_ret idN _ Try.func37 ⟨_, _, rfl, rfl, rfl⟩ rfl trivial trivial rfl
theorem len_nil : Fun Try.prog 37 [.v (.pointer none)] [] (.v (.int .i64 0)) [] := by
  refine fun_intro 10 Try.func37 rfl rfl rfl (fun ι F S w => ?_)
  (repeat (first | (apply v_move; exact rfl; exact rfl) | (apply v_assign; exact rfl; exact rfl) | refine run_seq ?_ | refine run_region ?_ | refine runL_nil ?_ | (apply run_cond; exact rfl; rotate_left; (focus (intro hb; cases hb; done)); intro hb; clear hb) | (apply v_nilEql; exact ptA rfl; exact rfl; exact rfl)))
  exact run_ret idN _ Try.func37 ⟨_, _, rfl, rfl, rfl⟩ rfl trivial trivial rfl
theorem clone_i {xs : List Int} (hm : xs.length ≤ 1000000) : Fun Try.prog 139 [.sem (listS intE xs)] [] (.sem (listS intE xs)) [] := by
  refine fun_intro 8 Try.func139 rfl rfl rfl (fun ι F S w => ?_)
  (repeat (first | (apply v_move; exact rfl; exact rfl) | (apply v_assign; exact rfl; exact rfl) | refine run_seq ?_ | refine run_region ?_ | refine runL_nil ?_))
  refine v_sliceNil sl31 rfl rfl (by decide) fun b hb => ?_
  refine runL_nil ?_
  refine run_cond rfl (fun h => ?_) (fun h => ?_)
  · obtain rfl := hb h
    (repeat (first | (apply v_assign; exact rfl; exact rfl) | refine run_seq ?_ | refine run_region ?_ | refine runL_nil ?_))
    refine run_know 2 rfl (nil_list intE) ?_
    exact run_ret idN _ Try.func139 ⟨_, _, rfl, rfl, rfl⟩ rfl trivial trivial rfl
  · (repeat (first | refine run_seq ?_ | refine run_region ?_ | refine run_skip ?_))
    refine v_litO intE [] [] [] sl31 ty3 rfl rfl trivial rfl rfl rfl rfl rfl rfl rfl rfl rfl rfl rfl rfl ?_
    (repeat (first | (apply v_move; exact rfl; exact rfl)))
    refine v_appendD sl31 ty3 rfl rfl rfl rfl rfl rfl rfl (by simpa using hm) rfl rfl rfl rfl ?_
    (repeat (first | (apply v_assign; exact rfl; exact rfl) | refine runL_nil ?_))
    refine run_freeze 2 7 rfl rfl ?_
    exact run_ret idN _ Try.func139 ⟨_, _, rfl, rfl, rfl⟩ rfl trivial trivial rfl
end Go.Proofs.Ytjkidecaciomgaa
/- The forest: Node, All; kin. -/
namespace Go.Proofs.Ytjkidecaciomgaa
set_option linter.unusedVariables false
set_option linter.unusedSimpArgs false
set_option maxRecDepth 100000
open Go.RowKit

def nodeR (l : List Nd) (id : Int) : Nd := (nodeAt l id).getD nd0
theorem node_f {l : List Nd} (id : Int) (hm : l.length ≤ 1000000) (hk : ∀ x ∈ l, x.kids.length ≤ 1000000) : Fun Try.prog 38 [forA l, .v (.int .i64 id)] [] (.tup [.agg (nodeL (nodeR l id)), .v (.bool (nodeAt l id).isSome)]) [] := by
  cases h : nodeAt l id with
  | none =>
    have hr : nodeR l id = nd0 := by simp [nodeR, h]
    rw [hr]
    refine fun_intro 24 Try.func38 rfl rfl rfl (fun ι F S w => ?_)
    (repeat (first | (apply v_c (at_none h hm); exact rfl; exact cbA rfl; exact rfl; exact rfl) | (apply v_move; exact rfl; exact rfl) | (apply v_assign; exact rfl; exact rfl) | refine run_seq ?_ | refine run_region ?_ | refine runL_nil ?_ | (apply run_cond; exact rfl; rotate_left; (focus (intro hb; cases hb; done)); intro hb; clear hb) | (apply v_nilEql; exact ptA rfl; exact rfl; exact rfl) | (apply v_allocD; exact tyA rfl; exact rfl; exact rfl; exact rfl; exact rfl) | (apply v_storeB; exact tyA rfl; exact rfl; exact rfl; exact rfl; exact rfl; exact rfl; exact rfl; exact rfl) | (apply v_b; exact plA rfl; exact tyA rfl; exact rfl; exact rfl; exact rfl)))
    refine run_leB 4 rfl (l' := nodeL nd0) (by repeat (first | exact trivial | refine ⟨Le.refl, ?_⟩ | refine ⟨Le.nil, ?_⟩)) ?_
    exact run_ret idN _ Try.func38 ⟨_, _, _, _, _, _, rfl, rfl, rfl, ty33, rfl, (fun h => by cases h), rfl, ⟨_, _, rfl, rfl, rfl⟩⟩ rfl trivial trivial rfl
  | some x =>
    have hr : nodeR l id = x := by simp [nodeR, h]
    rw [hr]
    obtain ⟨_, _, hx⟩ := nodeAt_some h
    have hkx : x.kids.length ≤ 1000000 := hk x (List.mem_of_getElem? hx)
    refine fun_intro 24 Try.func38 rfl rfl rfl (fun ι F S w => ?_)
    (repeat (first | (apply v_c (at_some h hm); exact rfl; exact cbA rfl; exact rfl; exact rfl) | (apply v_c (clone_i hkx); exact rfl; exact cbA rfl; exact rfl; exact rfl) | (apply v_move; exact rfl; exact rfl) | (apply v_assign; exact rfl; exact rfl) | refine run_seq ?_ | refine run_region ?_ | refine runL_nil ?_ | refine run_skip ?_ | (apply v_fldP; exact flA rfl; exact rfl; exact rfl; exact rfl) | (apply v_fldA; exact flA rfl; exact rfl; exact rfl; exact rfl) | (apply v_loadB; exact tyA rfl; exact rfl; exact rfl; exact rfl; exact rfl; exact rfl; exact rfl) | (apply v_loadA; exact tyA rfl; exact rfl; exact rfl; exact rfl; exact rfl; exact rfl; exact rfl) | (apply run_cond; exact rfl; (focus (intro hb; cases hb; done)); intro hb; clear hb) | (apply v_eqlNil; exact ptA rfl; exact rfl; exact NN.adr; exact rfl) | (apply v_nilCheck; exact rfl; exact NN.adr; exact rfl) | (apply v_allocD; exact tyA rfl; exact rfl; exact rfl; exact rfl; exact rfl) | (apply v_storeB; exact tyA rfl; exact rfl; exact rfl; exact rfl; exact rfl; exact rfl; exact rfl; exact rfl)))
    exact run_ret idN _ Try.func38 ⟨_, _, _, _, _, _, rfl, rfl, rfl, ty33, rfl, (fun h => by cases h), rfl, ⟨_, _, rfl, rfl, rfl⟩⟩ rfl trivial trivial rfl

theorem take_nodeR {l : List Nd} {i : Nat} (h : i < l.length) : l.take (i + 1) = l.take i ++ [nodeR l ((i : Int) + 1)] := by
  have : nodeAt l ((i : Int) + 1) = l[i]? := by
    unfold nodeAt
    rw [if_pos (by omega), show ((i : Int) + 1 - 1).toNat = i by omega]
  rw [List.take_add_one, nodeR, this, List.getElem?_eq_getElem h]
  rfl
theorem all_f {l : List Nd} (hm : l.length ≤ 1000) (hk : ∀ x ∈ l, x.kids.length ≤ 1000000) : Fun Try.prog 41 [forA l] [] (.res 0) [(0, .obj (ownS 33 nodeE l))] := by
  have hm2 : l.length ≤ 1000000 := by omega
  refine fun_intro 25 Try.func41 rfl rfl rfl (fun ι F S w => ?_)
  (repeat (first | (apply v_c (len_f); exact rfl; exact cbA rfl; exact rfl; exact rfl) | (apply v_move; exact rfl; exact rfl) | (apply v_assign; exact rfl; exact rfl) | refine run_seq ?_ | refine run_region ?_ | refine runL_nil ?_ | refine run_block ?_))
  refine run_own 3 3 33 nodeE rfl rfl rfl rfl ?_
  refine v_loop (fun i : Nat => ⟨[(0, forA l), (8, .v (.int .i64 l.length)), (9, .v (.int .i64 i)), (3, .res 3)], [(3, .obj (ownS 33 nodeE (l.take i)))]⟩) (fun i => i ≤ l.length) (fun i => l.length - i) 0 idN trivial (by repeat (first | exact trivial | refine ⟨rfl, ?_⟩)) (by repeat (first | exact trivial | refine ⟨rfl, ?_⟩)) rfl (by omega) fun i hi ih => ?_
  (repeat (first | refine run_seq ?_ | refine run_region ?_ | refine runL_nil ?_ | (apply v_lss; exact rfl; exact rfl; exact rfl)))
  refine run_cond rfl (fun h => ?_) (fun h => ?_)
  · have hlt : i < l.length := by simpa using h
    have ht := take_nodeR hlt
    (repeat (first | (apply v_c (node_f _ hm2 hk); exact rfl; exact cbA rfl; exact rfl; exact rfl) | (apply v_move; exact rfl; exact rfl) | (apply v_assign; exact rfl; exact rfl) | refine run_seq ?_ | refine run_region ?_ | refine runL_nil ?_ | refine run_skip ?_ | refine run_block ?_ | (apply v_extract; exact rfl; exact rfl; exact rfl) | (apply v_loadB; exact tyA rfl; exact rfl; exact rfl; exact rfl; exact rfl; exact rfl; exact rfl) | (apply v_allocD; exact tyA rfl; exact rfl; exact rfl; exact rfl; exact rfl) | (apply v_storeB; exact tyA rfl; exact rfl; exact rfl; exact rfl; exact rfl; exact rfl; exact rfl; exact rfl) | (apply v_add; exact rfl; exact rfl; exact rfl; exact (by omega))))
    refine v_l nodeE [nodeR l ((i : Int) + 1)] sl27 ty33 rfl rfl rfl rfl rfl rfl rfl rfl rfl rfl ?_
    refine v_appendD sl27 ty33 rfl rfl rfl rfl rfl rfl rfl (by simp; omega) rfl rfl rfl rfl ?_
    (repeat (first | (apply v_move; exact rfl; exact rfl) | (apply v_assign; exact rfl; exact rfl) | refine run_region ?_ | refine runL_nil ?_ | refine run_inBlock ?_ | (apply v_add; exact rfl; exact rfl; exact rfl; exact (by omega))))
    exact v_again ih (i + 1) (mp [(3, 22)]) trivial (by repeat (first | exact trivial | refine ⟨rfl, ?_⟩)) ⟨by rw [ht]; rfl, trivial⟩ rfl (by omega) (by omega)
  · have hge : i = l.length := by have : ¬ i < l.length := by simpa using h
                                  omega
    (repeat (first | (apply v_move; exact rfl; exact rfl) | (apply v_assign; exact rfl; exact rfl) | refine run_seq ?_ | refine run_region ?_ | refine runL_nil ?_ | (apply run_exit; exact rfl)))
    exact run_ret (mp [(0, 3)]) _ Try.func41 ⟨_, _, rfl, rfl, rfl⟩ rfl trivial ⟨by rw [hge, List.take_length]; rfl, trivial⟩ rfl
end Go.Proofs.Ytjkidecaciomgaa
/- The forest: which nodes may be made. -/
namespace Go.Proofs.Ytjkidecaciomgaa
set_option linter.unusedVariables false
set_option linter.unusedSimpArgs false
set_option maxRecDepth 100000
open Go.RowKit

theorem right_w {s : ByteArray} (hs : s.size ≤ 9223372036854775807) : Fun Try.prog 180 [.v (.string s)] [] (.v (.bool (wordB s))) [] := fun_of_calls (l := [.string s]) fun w => word_right s w hs
def namedB (s : ByteArray) : Bool := decide (s = ⟨#[]⟩) || wordB s
theorem named_f {s : ByteArray} (hs : s.size ≤ 9223372036854775807) : Fun Try.prog 144 [.v (.string s)] [] (.v (.bool (namedB s))) [] := by
  refine fun_intro 9 Try.func144 rfl rfl rfl (fun ι F S w => ?_)
  (repeat' (first | (apply v_cx; exact rfl; exact cbA rfl; (first | exact right_w hs); exact rfl; exact rfl) | (apply v_move; exact rfl; exact rfl) | (apply v_assign; exact rfl; exact rfl) | refine run_seq ?_ | refine run_region ?_ | refine runL_nil ?_ | (apply v_on; exact rfl) | (apply v_off; exact rfl; exact rfl) | (apply v_pick_t; exact rfl; exact rfl; exact rfl) | (apply v_pick_f; exact rfl; exact rfl; exact rfl) | (apply v_eqlS; exact rfl; exact rfl; exact rfl) | (apply v_gsplit; exact rfl; exact rfl; exact rfl; all_goals intro hb)))
  all_goals exact run_ret idN _ Try.func144 ⟨_, _, rfl, rfl, rfl⟩ (by simp_all [AV.ren, oneA, namedB]) trivial trivial rfl
def rightM (x : Nd) : Int :=
  if x.kind < 1 ∨ x.kind > 4 then 2
  else if (x.kind = 3) ≠ (x.mode = 1 ∨ x.mode = 2) ∨ (x.kind ≠ 3 ∧ x.mode ≠ 0) then 1
  else if ((x.slot = true ∨ x.want ≠ ⟨#[]⟩) ∧ x.kind ≠ 2) ∨ (x.name ≠ ⟨#[]⟩ ∧ x.slot = false) ∨ namedB x.name = false ∨ namedB x.want = false then 1
  else 0
theorem right_f {x : Nd} (h1 : x.name.size ≤ 9223372036854775807) (h2 : x.want.size ≤ 9223372036854775807) : Fun Try.prog 140 [.agg (nodeL x)] [] (.v (.int .i64 (rightM x))) [] := by
  refine fun_intro 66 Try.func140 rfl rfl rfl (fun ι F S w => ?_)
  (repeat' (first | (apply v_assign; exact rfl; exact rfl) | refine run_seq ?_ | refine run_region ?_ | refine runL_nil ?_ | (apply v_boxD; exact rfl; exact rfl; exact rfl; exact rfl; exact rfl; exact rfl; exact rfl)))
  refine run_draws (by kernel_rfl) (by kernel_rfl) ?_
  (repeat (first | (apply p_assign; exact rfl; exact rfl; exact rfl) | (apply p_fldP; exact flA rfl; exact rfl; exact rfl; exact rfl; exact rfl) | (apply p_loadB; exact tyA rfl; exact rfl; exact rfl; exact rfl; exact rfl; exact rfl; exact rfl; exact rfl) | (apply p_eql; exact rfl; exact rfl; exact rfl; exact rfl)))
  refine planL_nil (by kernel_rfl) ?_
  (repeat' (first | (apply v_cx; exact rfl; exact cbA rfl; (first | exact named_f h1 | exact named_f h2); exact rfl; exact rfl) | (apply v_move; exact rfl; exact rfl) | (apply v_assign; exact rfl; exact rfl) | refine run_seq ?_ | refine run_region ?_ | refine runL_nil ?_ | refine run_skip ?_ | refine run_block ?_ | refine run_inBlock ?_ | (apply v_fldP; exact flA rfl; exact rfl; exact rfl; exact rfl) | (apply v_loadB; exact tyA rfl; exact rfl; exact rfl; exact rfl; exact rfl; exact rfl; exact rfl) | (apply v_on; exact rfl) | (apply v_off; exact rfl; exact rfl) | (apply v_pick_t; exact rfl; exact rfl; exact rfl) | (apply v_pick_f; exact rfl; exact rfl; exact rfl) | (apply run_cond; exact rfl; rotate_left; (focus (intro hb; cases hb; done)); intro hb; clear hb) | (apply run_cond; exact rfl; (focus (intro hb; cases hb; done)); intro hb; clear hb) | (apply v_not; exact rfl; exact rfl) | (apply v_lss; exact rfl; exact rfl; exact rfl) | (apply v_eql; exact rfl; exact rfl; exact rfl) | (apply v_neq; exact rfl; exact rfl; exact rfl) | (apply v_gtr; exact rfl; exact rfl; exact rfl) | (apply v_neqS; exact rfl; exact rfl; exact rfl) | (apply v_neqB; exact boA rfl; exact rfl; exact rfl; exact rfl) | (apply v_gsplit; exact rfl; exact rfl; exact rfl; all_goals intro hb) | (apply run_cond; exact rfl; all_goals intro hb)))
  all_goals exact run_ret idN _ Try.func140 ⟨_, _, rfl, rfl, rfl⟩ (by first | (simp_all [AV.ren, oneA, rightM]; done) | (cases h3 : (x.kind == 3) <;> cases hm : (x.mode == 2) <;> cases hn : (x.mode == 1) <;> simp_all [AV.ren, oneA, rightM] <;> omega)) trivial trivial rfl
end Go.Proofs.Ytjkidecaciomgaa
/- The forest: Make. -/
namespace Go.Proofs.Ytjkidecaciomgaa
set_option linter.unusedVariables false
set_option linter.unusedSimpArgs false
set_option maxRecDepth 100000
open Go.RowKit

/-- A forest that is being made: its pointer is ptr 0 0. -/
def forR (g : Nat) (l : List Nd) : List (Nat × RK) := [(0, .box 53 [.res g]), (g, .obj (ownS 33 nodeE l))]
/-- What Make makes of a node that is told. -/
def fresh (n : Nd) : Nd := { nd0 with kind := n.kind, mode := n.mode, slot := n.slot, name := n.name, want := n.want }
def makeM (l : List Nd) (n : Nd) : List Nd × Int × Int :=
  if rightM n ≠ 0 then (l, 0, rightM n)
  else if 128 ≤ l.length then (l, 0, 9)
  else (l ++ [fresh n], l.length + 1, 0)
theorem make_f {l : List Nd} {x : Nd} (h1 : x.name.size ≤ 9223372036854775807) (h2 : x.want.size ≤ 9223372036854775807) (hl : l.length ≤ 128) : Fun Try.prog 45 [.ptr 0 0, .agg (nodeL x)] (forR 1 l) (.tup [.v (.int .i64 (makeM l x).2.1), .v (.int .i64 (makeM l x).2.2)]) (forR 2 (makeM l x).1) := by
  refine fun_intro 45 Try.func45 rfl rfl rfl (fun ι F S w => ?_)
  (repeat (first | (apply v_cx; exact rfl; exact cbA rfl; (first | exact right_f h1 h2); exact rfl; exact rfl) | (apply v_move; exact rfl; exact rfl) | (apply v_assign; exact rfl; exact rfl) | refine run_seq ?_ | refine run_region ?_ | refine runL_nil ?_ | refine run_skip ?_ | (apply v_loadB; exact tyA rfl; exact rfl; exact rfl; exact rfl; exact rfl; exact rfl; exact rfl) | (apply run_cond; exact rfl; (focus (intro hb; cases hb; done)); intro hb; clear hb) | (apply v_neq; exact rfl; exact rfl; exact rfl) | (apply v_eqlNil; exact ptA rfl; exact rfl; exact NN.ptr; exact rfl) | (apply v_boxD; exact rfl; exact rfl; exact rfl; exact rfl; exact rfl; exact rfl; exact rfl)))
  refine run_cond rfl (fun h => ?_) (fun h => ?_)
  · have hr : rightM x ≠ 0 := by simpa using h
    have hm : makeM l x = (l, 0, rightM x) := by simp [makeM, hr]
    rw [hm]
    (repeat (first | (apply v_move; exact rfl; exact rfl) | (apply v_assign; exact rfl; exact rfl) | refine run_seq ?_ | refine run_region ?_ | refine runL_nil ?_))
    exact run_ret (mp [(2, 1)]) _ Try.func45 ⟨_, _, rfl, rfl, _, _, rfl, rfl, rfl⟩ rfl ⟨rfl, rfl, trivial⟩ ⟨rfl, rfl, trivial⟩ rfl
  · have hr : rightM x = 0 := by simpa using h
    (repeat (first | (apply v_move; exact rfl; exact rfl) | refine run_seq ?_ | refine run_region ?_ | refine runL_nil ?_ | refine run_skip ?_ | (apply v_fldP; exact flA rfl; exact rfl; exact rfl; exact rfl) | (apply v_loadB; exact tyA rfl; exact rfl; exact rfl; exact rfl; exact rfl; exact rfl; exact rfl) | (apply v_geq; exact rfl; exact rfl; exact rfl) | (apply v_lenO; exact slA rfl; exact rfl; exact rfl; exact rfl) | (apply v_nilCheck; exact rfl; exact NN.ptr; exact rfl)))
    refine run_cond rfl (fun h => ?_) (fun h => ?_)
    · have hlen : 128 ≤ l.length := by have : (128 : Int) ≤ l.length := (by simpa using h); omega
      have hm : makeM l x = (l, 0, 9) := by simp [makeM, hr, hlen]
      rw [hm]
      (repeat (first | (apply v_assign; exact rfl; exact rfl) | refine run_seq ?_ | refine run_region ?_ | refine runL_nil ?_))
      exact run_ret (mp [(2, 1)]) _ Try.func45 ⟨_, _, rfl, rfl, _, _, rfl, rfl, rfl⟩ rfl ⟨rfl, rfl, trivial⟩ ⟨rfl, rfl, trivial⟩ rfl
    · have hlen : ¬ 128 ≤ l.length := by have : (l.length : Int) < 128 := (by simpa using h); omega
      have hm : makeM l x = (l ++ [fresh x], (l.length : Int) + 1, 0) := by simp [makeM, hr, hlen]
      rw [hm]
      (repeat (first | refine run_seq ?_ | refine run_skip ?_))
      refine run_draws (by kernel_rfl) (by kernel_rfl) ?_
      (repeat (first | (apply p_move; exact rfl; exact rfl; exact rfl) | (apply p_fldP; exact flA rfl; exact rfl; exact rfl; exact rfl; exact rfl) | (apply p_loadB; exact tyA rfl; exact rfl; exact rfl; exact rfl; exact rfl; exact rfl; exact rfl; exact rfl) | (apply p_nilCheck; exact rfl; exact NNf.ptr; exact rfl; exact rfl) | (apply p_b; exact plA rfl; exact tyA rfl; exact rfl; exact rfl; exact rfl; exact rfl)))
      refine planL_know 35 rfl (y := .agg (nodeL (fresh x))) (Le.agg (by repeat (first | exact trivial | refine ⟨Le.refl, ?_⟩ | refine ⟨Le.nil, ?_⟩))) ?_
      refine p_l nodeE [fresh x] (slA rfl) (tyA rfl) rfl rfl rfl rfl rfl rfl rfl rfl rfl rfl rfl ?_
      refine p_appendD (slA rfl) (tyA rfl) rfl rfl rfl rfl rfl rfl rfl (by simp; omega) rfl rfl rfl ?_
      (repeat (first | (apply p_fldP; exact flA rfl; exact rfl; exact rfl; exact rfl; exact rfl) | (apply p_nilCheck; exact rfl; exact NNf.ptr; exact rfl; exact rfl) | (apply p_storeW; exact tyA rfl; exact rfl; exact rfl; exact rfl; exact rfl; exact rfl; exact rfl; exact rfl; exact rfl)))
      refine planL_nil (by kernel_rfl) ?_
      (repeat (first | (apply v_move; exact rfl; exact rfl) | (apply v_assign; exact rfl; exact rfl) | refine run_seq ?_ | refine run_region ?_ | refine runL_nil ?_ | (apply v_fldP; exact flA rfl; exact rfl; exact rfl; exact rfl) | (apply v_loadB; exact tyA rfl; exact rfl; exact rfl; exact rfl; exact rfl; exact rfl; exact rfl) | (apply v_lenO; exact slA rfl; exact rfl; exact rfl; exact rfl) | (apply v_nilCheck; exact rfl; exact NN.ptr; exact rfl)))
      exact run_ret (mp [(2, 37)]) _ Try.func45 ⟨_, _, rfl, rfl, _, _, rfl, rfl, rfl⟩ (by simp [oneA, AV.ren, AV.renL]) ⟨rfl, rfl, trivial⟩ ⟨rfl, rfl, trivial⟩ rfl
end Go.Proofs.Ytjkidecaciomgaa
/- The forest: what is only read may be lent; at, above, Name, Want. -/
namespace Go.Proofs.Ytjkidecaciomgaa
set_option linter.unusedVariables false
set_option linter.unusedSimpArgs false
set_option maxRecDepth 100000
open Go.RowKit

/-- A forest that is being made may be read as if it were left as it is, where a plain value comes back. -/
theorem lend {P : Program} {f : FuncId} {l : List Nd} {bs : List AV} {u : Value} (g : Nat) (hg : Nat.beq 0 g = false) (has : AV.noRefs bs = true) (h : Fun P f (forA l :: bs) [] (.v u) []) : Fun P f (.ptr 0 0 :: bs) (forR g l) (.v u) (forR g l) := fun ι F S w vals hh hv => by
  have hg0 : (0 : Nat) ≠ g := fun e => by subst e; simp at hg
  have l0 : look (forR g l) 0 = some (.box 53 [.res g]) := rfl
  have l1 : look (forR g l) g = some (.obj (ownS 33 nodeE l)) := by simp only [forR, look_cons, if_neg hg0, if_pos]
  obtain ⟨b, e1, e2, cs, e3, e4⟩ := hh.bx 0 _ _ l0
  have hob := hh.ob g _ l1
  let S2 : Bl := fun k => S k ∨ F 0 k ∨ F g k
  have hF : Fut S w S2 w := ⟨fun _ h => .inl h, fun _ _ _ => rfl⟩
  simp only [AVRs, AVR] at hv e4
  obtain ⟨p, vs, rfl, ⟨b', hb', rfl⟩, hvs⟩ := hv
  rw [e1] at hb'
  obtain rfl : b = b' := by simpa [baseOf] using hb'
  obtain ⟨c, cr, ec, ⟨ec1, ec2⟩, rfl⟩ := e4
  have hlist : (listS nodeE l).R w S2 c := by
    rw [ec1]
    exact ownS_list hob (fun k hk => .inl hk) (fun k hk => .inr (.inr hk))
  have hadr : AVR ι S2 w (forA l) (.pointer (some ⟨b, 0, none⟩)) := by
    simp only [AVR]
    refine ⟨b, 0, rfl, .inr (.inl ((e2 b).2 rfl)), [c], ⟨c, [], rfl, by simpa [AVR] using hlist, rfl⟩, fun j u hj => ?_⟩
    rw [Addr.add_lit, Nat.zero_add, cell_of_row w b _ cs _ (0, 0) e3, ← Array.getElem?_toList, ec]
    exact hj
  have hbnd : ∀ k, S2 k → k < w.heap.size := fun k hk => by
    rcases hk with hk | hk | hk
    · exact hh.bnd k hk
    · exact hh.lt l0 rfl hk
    · exact hh.lt l1 rfl hk
  refine (h ι F S2 w (_ :: vs) ⟨fun _ _ _ h => (by cases h), fun _ _ h => (by cases h), fun _ _ _ _ h => (by cases h), fun _ _ h => (by cases h), hbnd⟩ ⟨_, vs, rfl, hadr, hvs.fut hF fun _ _ => rfl⟩).mono fun e w' hh2 => ?_
  obtain ⟨ι', F', S', u', rfl, h1, h2, h3, h4, h5, h6, h7⟩ := hh2
  have hb : Below w.heap.size w w' := ⟨h5.os, h5.tape, h5.output, h5.size, fun k hk => h5.block k hk (fun ⟨_, _, h, _⟩ => by cases h)⟩
  have hF' : Fut S w S w' := ⟨fun _ h => h, fun k _ hk => hb.block k hk⟩
  simp only [AVR] at h2
  subst h2
  refine ⟨ι, F, S, u', rfl, hh.step hF' (fun g x hg hx k hk => hb.block k (hh.lt hg hx hk)) hh.out (fun k hk => Nat.lt_of_lt_of_le (hh.bnd k hk) hb.size), by simp [AVR], hF', fun _ _ _ _ => rfl, But.of_below hb, fun k hk => .inl hk, fun g x hg hx k hk => .inr ⟨g, x, hg, hx, hk⟩⟩

theorem at_m {l : List Nd} {id : Int} {x : Nd} (h : nodeAt l id = some x) (hm : l.length ≤ 1000000) : Fun Try.prog 138 [.ptr 0 0, .v (.int .i64 id)] (forR 1 l) (.ptr 1 ((id - 1).toNat * 9)) (forR 1 l) := by
  obtain ⟨h0, h1, hx⟩ := nodeAt_some h
  refine fun_intro 27 Try.func138 rfl rfl rfl (fun ι F S w => ?_)
  (repeat (first | (apply v_move; exact rfl; exact rfl) | (apply v_assign; exact rfl; exact rfl) | refine run_seq ?_ | refine run_region ?_ | refine runL_nil ?_ | (apply v_on; exact rfl) | (apply v_pick_f; exact rfl; exact rfl; exact rfl) | (apply v_lss; exact rfl; exact rfl; exact rfl) | (apply v_eqlNil; exact ptA rfl; exact rfl; exact NN.ptr; exact rfl)))
  refine v_is 11 false rfl (by simp; omega) ?_
  (repeat (first | (apply v_move; exact rfl; exact rfl) | refine runL_nil ?_ | (apply v_fldP; exact flA rfl; exact rfl; exact rfl; exact rfl) | (apply v_loadB; exact tyA rfl; exact rfl; exact rfl; exact rfl; exact rfl; exact rfl; exact rfl) | (apply v_on; exact rfl) | (apply v_pick_f; exact rfl; exact rfl; exact rfl) | (apply v_gtr; exact rfl; exact rfl; exact rfl) | (apply v_lenO; exact slA rfl; exact rfl; exact rfl; exact rfl) | (apply v_nilCheck; exact rfl; exact NN.ptr; exact rfl)))
  refine run_condN rfl (by simp; omega) ?_
  (repeat (first | (apply v_move; exact rfl; exact rfl) | refine run_seq ?_ | refine run_region ?_ | refine run_skip ?_ | (apply v_fldP; exact flA rfl; exact rfl; exact rfl; exact rfl) | (apply v_loadB; exact tyA rfl; exact rfl; exact rfl; exact rfl; exact rfl; exact rfl; exact rfl) | (apply v_nilCheck; exact rfl; exact NN.ptr; exact rfl) | (apply v_sub; exact rfl; exact rfl; exact rfl; exact (by omega))))
  refine v_idxO (slA rfl) (tyA rfl) rfl rfl rfl rfl (by omega) (by omega) rfl ?_
  (repeat (first | (apply v_assign; exact rfl; exact rfl) | refine runL_nil ?_))
  exact run_ret idN _ Try.func138 ⟨_, _, rfl, rfl, rfl⟩ rfl ⟨rfl, rfl, trivial⟩ ⟨rfl, rfl, trivial⟩ rfl
theorem at_mn {l : List Nd} {id : Int} (h : nodeAt l id = none) (hm : l.length ≤ 1000000) : Fun Try.prog 138 [.ptr 0 0, .v (.int .i64 id)] (forR 1 l) (.v (.pointer none)) (forR 1 l) := lend 1 rfl rfl (at_none h hm)

def upX (x : Nd) : Int := if x.parent = 0 then x.host else x.parent
/-- a is b, or above it. -/
inductive Abv (l : List Nd) (a : Int) : Int → Prop where
  | here {b : Int} {x : Nd} : nodeAt l b = some x → b = a → Abv l a b
  | up {b : Int} {x : Nd} : nodeAt l b = some x → Abv l a (upX x) → Abv l a b
theorem abv_iff {l : List Nd} {a b : Int} {x : Nd} (h : nodeAt l b = some x) : Abv l a b ↔ b = a ∨ Abv l a (upX x) := by
  constructor
  · intro h1
    cases h1 with
    | here h2 e => exact .inl e
    | up h2 h3 => rw [h] at h2; cases h2; exact .inr h3
  · rintro (e | h1)
    · exact .here h e
    · exact .up h h1
theorem abv_not {l : List Nd} {a b : Int} (h : nodeAt l b = none) : ¬ Abv l a b := fun h1 => by
  cases h1 with
  | here h2 _ => rw [h] at h2; cases h2
  | up h2 _ => rw [h] at h2; cases h2
/-- Who is above is there, and above there are fewer and fewer. -/
structure Ups (l : List Nd) : Prop where
  there : ∀ {b x}, nodeAt l b = some x → upX x = 0 ∨ ∃ y, nodeAt l (upX x) = some y
  rank : ∃ rk : Int → Nat, ∀ b x, nodeAt l b = some x → upX x ≠ 0 → rk (upX x) < rk b
theorem nodeAt_zero {l : List Nd} : nodeAt l 0 = none := by simp [nodeAt]
open Classical in
noncomputable def aboveB (l : List Nd) (a b : Int) : Bool := decide (Abv l a b)
theorem aboveB_true {l : List Nd} {a b : Int} : aboveB l a b = true ↔ Abv l a b := by simp [aboveB]
theorem above_f {l : List Nd} (hu : Ups l) (a b : Int) (hm : l.length ≤ 1000000) (hb : b = 0 ∨ ∃ y, nodeAt l b = some y) : Fun Try.prog 143 [forA l, .v (.int .i64 a), .v (.int .i64 b)] [] (.v (.bool (aboveB l a b))) [] := by
  obtain ⟨rk, hrk⟩ := hu.rank
  refine fun_intro 26 Try.func143 rfl rfl rfl (fun ι F S w => ?_)
  (repeat (first | (apply v_assign; exact rfl; exact rfl) | refine run_seq ?_ | refine run_region ?_ | refine runL_nil ?_ | refine run_block ?_))
  refine v_loop (fun c : Int => ⟨[(0, forA l), (1, .v (.int .i64 a)), (2, .v (.int .i64 c))], []⟩) (fun c => (c = 0 ∨ ∃ y, nodeAt l c = some y) ∧ aboveB l a b = aboveB l a c) (fun c => if c = 0 then 0 else rk c + 1) b idN trivial (by repeat (first | exact trivial | refine ⟨rfl, ?_⟩)) (by repeat (first | exact trivial | refine ⟨rfl, ?_⟩)) rfl ⟨hb, rfl⟩ fun c ⟨hc, he⟩ ih => ?_
  (repeat (first | (apply v_move; exact rfl; exact rfl) | refine run_seq ?_ | refine run_region ?_ | refine runL_nil ?_ | (apply v_gtr; exact rfl; exact rfl; exact rfl)))
  rcases hc with rfl | ⟨y, hy⟩
  · refine run_condN rfl (by simp) ?_
    have hf : aboveB l a b = false := by rw [he, ← Bool.not_eq_true, aboveB_true]; exact abv_not nodeAt_zero
    (repeat (first | (apply v_assign; exact rfl; exact rfl) | refine run_seq ?_ | refine run_region ?_ | refine runL_nil ?_ | (apply run_exit; exact rfl)))
    exact run_ret idN _ Try.func143 ⟨_, _, rfl, rfl, rfl⟩ (by rw [hf]; rfl) trivial trivial rfl
  · have h1 := nodeAt_some hy
    refine run_condY rfl (by simp; omega) ?_
    (repeat (first | (apply v_move; exact rfl; exact rfl) | refine run_seq ?_ | refine run_region ?_ | refine runL_nil ?_ | refine run_skip ?_ | refine run_block ?_ | (apply v_eql; exact rfl; exact rfl; exact rfl)))
    refine run_cond rfl (fun h => ?_) (fun h => ?_)
    · have hac : a = c := by simpa using h
      have hf : aboveB l a b = true := by rw [he, aboveB_true]; exact .here hy hac.symm
      (repeat (first | (apply v_assign; exact rfl; exact rfl) | refine run_seq ?_ | refine run_region ?_ | refine runL_nil ?_))
      exact run_ret idN _ Try.func143 ⟨_, _, rfl, rfl, rfl⟩ (by rw [hf]; rfl) trivial trivial rfl
    · have hac : a ≠ c := by simpa using h
      have hst : aboveB l a c = aboveB l a (upX y) := by
        rw [Bool.eq_iff_iff, aboveB_true, aboveB_true, abv_iff hy]
        exact ⟨fun h => h.resolve_left (Ne.symm hac), .inr⟩
      have hup := hu.there hy
      have hrk' := hrk c y hy
      have hc0 : c ≠ 0 := by omega
      (repeat (first | (apply v_cx; exact rfl; exact cbA rfl; (first | exact at_some hy hm); exact rfl; exact rfl) | (apply v_move; exact rfl; exact rfl) | (apply v_assign; exact rfl; exact rfl) | refine run_seq ?_ | refine run_region ?_ | refine runL_nil ?_ | refine run_skip ?_ | (apply v_fldA; exact flA rfl; exact rfl; exact rfl; exact rfl) | (apply v_loadA; exact tyA rfl; exact rfl; exact rfl; exact rfl; exact rfl; exact rfl; exact rfl) | (apply v_eql; exact rfl; exact rfl; exact rfl) | (apply v_nilCheck; exact rfl; exact NN.adr; exact rfl)))
      refine run_cond rfl (fun h => ?_) (fun h => ?_)
      · have hp : y.parent = 0 := by simpa using h
        have hux : upX y = y.host := by simp [upX, hp]
        rw [hux] at hst hup hrk'
        (repeat (first | (apply v_move; exact rfl; exact rfl) | (apply v_assign; exact rfl; exact rfl) | refine run_region ?_ | refine runL_nil ?_ | refine run_inBlock ?_ | (apply v_fldA; exact flA rfl; exact rfl; exact rfl; exact rfl) | (apply v_loadA; exact tyA rfl; exact rfl; exact rfl; exact rfl; exact rfl; exact rfl; exact rfl) | (apply v_nilCheck; exact rfl; exact NN.adr; exact rfl)))
        exact v_again ih y.host idN trivial (by repeat (first | exact trivial | refine ⟨rfl, ?_⟩)) (by repeat (first | exact trivial | refine ⟨rfl, ?_⟩)) rfl ⟨hup, he.trans hst⟩ (by simp only [if_neg hc0]; split <;> rename_i hz <;> first | omega | (have := hrk' hz; omega))
      · have hp : y.parent ≠ 0 := by simpa using h
        have hux : upX y = y.parent := by simp [upX, hp]
        rw [hux] at hst hup hrk'
        (repeat (first | refine run_skip ?_ | refine run_inBlock ?_))
        exact v_again ih y.parent idN trivial (by repeat (first | exact trivial | refine ⟨rfl, ?_⟩)) (by repeat (first | exact trivial | refine ⟨rfl, ?_⟩)) rfl ⟨hup, he.trans hst⟩ (by simp only [if_neg hc0]; split <;> rename_i hz <;> first | omega | (have := hrk' hz; omega))
end Go.Proofs.Ytjkidecaciomgaa
/- The forest: Name, Want, Tie. -/
namespace Go.Proofs.Ytjkidecaciomgaa
set_option linter.unusedVariables false
set_option linter.unusedSimpArgs false
set_option maxRecDepth 100000
open Go.RowKit

def setN (l : List Nd) (id : Int) (x : Nd) : List Nd := l.set (id - 1).toNat x
def nameM (l : List Nd) (id : Int) (s : ByteArray) : List Nd × Int :=
  match nodeAt l id with
  | none => (l, 1)
  | some x => if namedB s = false then (l, 1) else if x.slot = false then (l, 2) else (setN l id { x with name := s }, 0)
def wantM (l : List Nd) (id : Int) (s : ByteArray) : List Nd × Int :=
  match nodeAt l id with
  | none => (l, 1)
  | some x => if namedB s = false then (l, 1) else if x.kind ≠ 2 then (l, 2) else (setN l id { x with want := s }, 0)
noncomputable def tieM (l : List Nd) (host root : Int) : List Nd × Int :=
  match nodeAt l host, nodeAt l root with
  | some h, some r => if h.kind ≠ 2 ∨ r.kind ≠ 3 then (l, 2) else if h.shadow ≠ 0 ∨ r.host ≠ 0 then (l, 6) else if aboveB l root host = true then (l, 3) else (setN (setN l host { h with shadow := root }) root { r with host := host }, 0)
  | _, _ => (l, 1)
theorem name_f {l : List Nd} (id : Int) {s : ByteArray} (hs : s.size ≤ 9223372036854775807) (hm : l.length ≤ 1000000) : Fun Try.prog 48 [.ptr 0 0, .v (.int .i64 id), .v (.string s)] (forR 1 l) (.v (.int .i64 (nameM l id s).2)) (forR 2 (nameM l id s).1) := by
  cases hx : nodeAt l id with
  | none =>
    have hr : nameM l id s = (l, 1) := by simp [nameM, hx]
    rw [hr]
    refine fun_intro 29 Try.func48 rfl rfl rfl (fun ι F S w => ?_)
    (repeat (first | (apply v_cSx; exact rfl; exact cbA rfl; (first | exact at_mn hx hm); (repeat (first | exact trivial | refine ⟨rfl, ?_⟩)); exact rfl; exact rfl; exact rfl; exact rfl; exact rfl) | (apply v_move; exact rfl; exact rfl) | (apply v_assign; exact rfl; exact rfl) | refine run_seq ?_ | refine run_region ?_ | refine runL_nil ?_ | refine run_block ?_ | (apply v_off; exact rfl; exact rfl) | (apply v_pick_t; exact rfl; exact rfl; exact rfl) | (apply run_cond; exact rfl; rotate_left; (focus (intro hb; cases hb; done)); intro hb; clear hb) | (apply v_nilEql; exact ptA rfl; exact rfl; exact rfl)))
    exact run_ret (mp [(2, 1)]) _ Try.func48 ⟨_, _, rfl, rfl, rfl⟩ rfl ⟨rfl, rfl, trivial⟩ ⟨rfl, rfl, trivial⟩ rfl
  | some x =>
    have hj := (nodeAt_some hx).2.2
    have hr : nameM l id s = if namedB s = false then (l, 1) else if x.slot = false then (l, 2) else (setN l id { x with name := s }, 0) := by simp [nameM, hx]
    rw [hr]
    refine fun_intro 29 Try.func48 rfl rfl rfl (fun ι F S w => ?_)
    (repeat (first | (apply v_cSx; exact rfl; exact cbA rfl; (first | exact at_m hx hm); (repeat (first | exact trivial | refine ⟨rfl, ?_⟩)); exact rfl; exact rfl; exact rfl; exact rfl; exact rfl) | (apply v_cx; exact rfl; exact cbA rfl; (first | exact named_f hs); exact rfl; exact rfl) | (apply v_move; exact rfl; exact rfl) | (apply v_assign; exact rfl; exact rfl) | refine run_seq ?_ | refine run_region ?_ | refine runL_nil ?_ | refine run_block ?_ | (apply v_on; exact rfl) | (apply v_pick_f; exact rfl; exact rfl; exact rfl) | (apply v_not; exact rfl; exact rfl) | (apply v_eqlNil; exact ptA rfl; exact rfl; exact NN.ptr; exact rfl)))
    refine run_cond rfl (fun h => ?_) (fun h => ?_)
    · have h' : namedB s = false := by simpa using h
      rw [if_pos h']
      (repeat (first | (apply v_assign; exact rfl; exact rfl) | refine run_seq ?_ | refine run_region ?_ | refine runL_nil ?_))
      exact run_ret (mp [(2, 1)]) _ Try.func48 ⟨_, _, rfl, rfl, rfl⟩ rfl ⟨rfl, rfl, trivial⟩ ⟨rfl, rfl, trivial⟩ rfl
    · have h' : ¬ namedB s = false := by simpa using h
      rw [if_neg h']
      (repeat (first | (apply v_loadO; exact tyA rfl; exact rfl; exact rfl; exact rfl; exact rfl; (first | exact hj); exact (by decide); exact rfl; exact rfl) | (apply v_move; exact rfl; exact rfl) | (apply v_assign; exact rfl; exact rfl) | refine run_seq ?_ | refine run_region ?_ | refine runL_nil ?_ | (apply v_fldP; exact flA rfl; exact rfl; exact rfl; exact rfl) | (apply v_not; exact rfl; exact rfl) | (apply v_nilCheck; exact rfl; exact NN.ptr; exact rfl)))
      refine run_cond rfl (fun h => ?_) (fun h => ?_)
      · have h' : x.slot = false := by simpa using h
        rw [if_pos h']
        (repeat (first | (apply v_assign; exact rfl; exact rfl) | refine run_seq ?_ | refine run_region ?_ | refine runL_nil ?_))
        exact run_ret (mp [(2, 1)]) _ Try.func48 ⟨_, _, rfl, rfl, rfl⟩ rfl ⟨rfl, rfl, trivial⟩ ⟨rfl, rfl, trivial⟩ rfl
      · have h' : ¬ x.slot = false := by simpa using h
        rw [if_neg h']
        (repeat (first | (apply v_move; exact rfl; exact rfl) | refine run_seq ?_ | refine run_region ?_ | refine run_skip ?_ | refine run_inBlock ?_ | (apply v_fldP; exact flA rfl; exact rfl; exact rfl; exact rfl) | (apply v_nilCheck; exact rfl; exact NN.ptr; exact rfl)))
        refine v_storeO { x with name := s } (tyA rfl) rfl rfl rfl rfl hj rfl rfl (by decide) rfl rfl ?_
        (repeat (first | (apply v_assign; exact rfl; exact rfl) | refine run_seq ?_ | refine run_region ?_ | refine runL_nil ?_))
        exact run_ret (mp [(2, 1)]) _ Try.func48 ⟨_, _, rfl, rfl, rfl⟩ rfl ⟨rfl, rfl, trivial⟩ ⟨rfl, rfl, trivial⟩ rfl
theorem want_f {l : List Nd} (id : Int) {s : ByteArray} (hs : s.size ≤ 9223372036854775807) (hm : l.length ≤ 1000000) : Fun Try.prog 49 [.ptr 0 0, .v (.int .i64 id), .v (.string s)] (forR 1 l) (.v (.int .i64 (wantM l id s).2)) (forR 2 (wantM l id s).1) := by
  cases hx : nodeAt l id with
  | none =>
    have hr : wantM l id s = (l, 1) := by simp [wantM, hx]
    rw [hr]
    refine fun_intro 29 Try.func49 rfl rfl rfl (fun ι F S w => ?_)
    (repeat (first | (apply v_cSx; exact rfl; exact cbA rfl; (first | exact at_mn hx hm); (repeat (first | exact trivial | refine ⟨rfl, ?_⟩)); exact rfl; exact rfl; exact rfl; exact rfl; exact rfl) | (apply v_move; exact rfl; exact rfl) | (apply v_assign; exact rfl; exact rfl) | refine run_seq ?_ | refine run_region ?_ | refine runL_nil ?_ | refine run_block ?_ | (apply v_off; exact rfl; exact rfl) | (apply v_pick_t; exact rfl; exact rfl; exact rfl) | (apply run_cond; exact rfl; rotate_left; (focus (intro hb; cases hb; done)); intro hb; clear hb) | (apply v_nilEql; exact ptA rfl; exact rfl; exact rfl)))
    exact run_ret (mp [(2, 1)]) _ Try.func49 ⟨_, _, rfl, rfl, rfl⟩ rfl ⟨rfl, rfl, trivial⟩ ⟨rfl, rfl, trivial⟩ rfl
  | some x =>
    have hj := (nodeAt_some hx).2.2
    have hr : wantM l id s = if namedB s = false then (l, 1) else if x.kind ≠ 2 then (l, 2) else (setN l id { x with want := s }, 0) := by simp [wantM, hx]
    rw [hr]
    refine fun_intro 29 Try.func49 rfl rfl rfl (fun ι F S w => ?_)
    (repeat (first | (apply v_cSx; exact rfl; exact cbA rfl; (first | exact at_m hx hm); (repeat (first | exact trivial | refine ⟨rfl, ?_⟩)); exact rfl; exact rfl; exact rfl; exact rfl; exact rfl) | (apply v_cx; exact rfl; exact cbA rfl; (first | exact named_f hs); exact rfl; exact rfl) | (apply v_move; exact rfl; exact rfl) | (apply v_assign; exact rfl; exact rfl) | refine run_seq ?_ | refine run_region ?_ | refine runL_nil ?_ | refine run_block ?_ | (apply v_on; exact rfl) | (apply v_pick_f; exact rfl; exact rfl; exact rfl) | (apply v_not; exact rfl; exact rfl) | (apply v_eqlNil; exact ptA rfl; exact rfl; exact NN.ptr; exact rfl)))
    refine run_cond rfl (fun h => ?_) (fun h => ?_)
    · have h' : namedB s = false := by simpa using h
      rw [if_pos h']
      (repeat (first | (apply v_assign; exact rfl; exact rfl) | refine run_seq ?_ | refine run_region ?_ | refine runL_nil ?_))
      exact run_ret (mp [(2, 1)]) _ Try.func49 ⟨_, _, rfl, rfl, rfl⟩ rfl ⟨rfl, rfl, trivial⟩ ⟨rfl, rfl, trivial⟩ rfl
    · have h' : ¬ namedB s = false := by simpa using h
      rw [if_neg h']
      (repeat (first | (apply v_loadO; exact tyA rfl; exact rfl; exact rfl; exact rfl; exact rfl; (first | exact hj); exact (by decide); exact rfl; exact rfl) | (apply v_move; exact rfl; exact rfl) | (apply v_assign; exact rfl; exact rfl) | refine run_seq ?_ | refine run_region ?_ | refine runL_nil ?_ | (apply v_fldP; exact flA rfl; exact rfl; exact rfl; exact rfl) | (apply v_neq; exact rfl; exact rfl; exact rfl) | (apply v_nilCheck; exact rfl; exact NN.ptr; exact rfl)))
      refine run_cond rfl (fun h => ?_) (fun h => ?_)
      · have h' : x.kind ≠ 2 := by simpa using h
        rw [if_pos h']
        (repeat (first | (apply v_assign; exact rfl; exact rfl) | refine run_seq ?_ | refine run_region ?_ | refine runL_nil ?_))
        exact run_ret (mp [(2, 1)]) _ Try.func49 ⟨_, _, rfl, rfl, rfl⟩ rfl ⟨rfl, rfl, trivial⟩ ⟨rfl, rfl, trivial⟩ rfl
      · have h' : ¬ x.kind ≠ 2 := by simpa using h
        rw [if_neg h']
        (repeat (first | (apply v_move; exact rfl; exact rfl) | refine run_seq ?_ | refine run_region ?_ | refine run_skip ?_ | refine run_inBlock ?_ | (apply v_fldP; exact flA rfl; exact rfl; exact rfl; exact rfl) | (apply v_nilCheck; exact rfl; exact NN.ptr; exact rfl)))
        refine v_storeO { x with want := s } (tyA rfl) rfl rfl rfl rfl hj rfl rfl (by decide) rfl rfl ?_
        (repeat (first | (apply v_assign; exact rfl; exact rfl) | refine run_seq ?_ | refine run_region ?_ | refine runL_nil ?_))
        exact run_ret (mp [(2, 1)]) _ Try.func49 ⟨_, _, rfl, rfl, rfl⟩ rfl ⟨rfl, rfl, trivial⟩ ⟨rfl, rfl, trivial⟩ rfl
theorem via {p G : Prop} (h : p) (k : p → G) : G := k h
theorem setN_ne {l : List Nd} {a b : Int} {x y : Nd} (hx : nodeAt l a = some x) (hy : nodeAt l b = some y) (hne : a ≠ b) (z : Nd) : (setN l a z)[(b - 1).toNat]? = some y := by
  have h1 := nodeAt_some hx
  have h2 := nodeAt_some hy
  rw [setN, List.getElem?_set, if_neg (by omega)]
  exact h2.2.2
theorem tie_f {l : List Nd} (hu : Ups l) (host root : Int) (hm : l.length ≤ 1000000) : Fun Try.prog 47 [.ptr 0 0, .v (.int .i64 host), .v (.int .i64 root)] (forR 1 l) (.v (.int .i64 (tieM l host root).2)) (forR 2 (tieM l host root).1) := by
  generalize hT : tieM l host root = T
  cases hx : nodeAt l host with
  | none =>
    obtain rfl : T = (l, 1) := by rw [← hT]; simp [tieM, hx]
    cases hy : nodeAt l root with
    | none =>
      refine fun_intro 61 Try.func47 rfl rfl rfl (fun ι F S w => ?_)
      (repeat (first | (apply v_cSx; exact rfl; exact cbA rfl; (first | exact at_mn hx hm | exact at_mn hy hm); (repeat (first | exact trivial | refine ⟨rfl, ?_⟩)); exact rfl; exact rfl; exact rfl; exact rfl; exact rfl) | (apply v_move; exact rfl; exact rfl) | (apply v_assign; exact rfl; exact rfl) | refine run_seq ?_ | refine run_region ?_ | refine runL_nil ?_ | refine run_block ?_ | (apply v_off; exact rfl; exact rfl) | (apply v_pick_t; exact rfl; exact rfl; exact rfl) | (apply run_cond; exact rfl; rotate_left; (focus (intro hb; cases hb; done)); intro hb; clear hb) | (apply v_nilEql; exact ptA rfl; exact rfl; exact rfl)))
      exact run_ret (mp [(2, 1)]) _ Try.func47 ⟨_, _, rfl, rfl, rfl⟩ rfl ⟨rfl, rfl, trivial⟩ ⟨rfl, rfl, trivial⟩ rfl
    | some y =>
      refine fun_intro 61 Try.func47 rfl rfl rfl (fun ι F S w => ?_)
      (repeat (first | (apply v_cSx; exact rfl; exact cbA rfl; (first | exact at_mn hx hm | exact at_m hy hm); (repeat (first | exact trivial | refine ⟨rfl, ?_⟩)); exact rfl; exact rfl; exact rfl; exact rfl; exact rfl) | (apply v_move; exact rfl; exact rfl) | (apply v_assign; exact rfl; exact rfl) | refine run_seq ?_ | refine run_region ?_ | refine runL_nil ?_ | refine run_block ?_ | (apply v_off; exact rfl; exact rfl) | (apply v_pick_t; exact rfl; exact rfl; exact rfl) | (apply run_cond; exact rfl; rotate_left; (focus (intro hb; cases hb; done)); intro hb; clear hb) | (apply v_nilEql; exact ptA rfl; exact rfl; exact rfl)))
      exact run_ret (mp [(2, 1)]) _ Try.func47 ⟨_, _, rfl, rfl, rfl⟩ rfl ⟨rfl, rfl, trivial⟩ ⟨rfl, rfl, trivial⟩ rfl
  | some x =>
    cases hy : nodeAt l root with
    | none =>
      obtain rfl : T = (l, 1) := by rw [← hT]; simp [tieM, hx, hy]
      refine fun_intro 61 Try.func47 rfl rfl rfl (fun ι F S w => ?_)
      (repeat (first | (apply v_cSx; exact rfl; exact cbA rfl; (first | exact at_m hx hm | exact at_mn hy hm); (repeat (first | exact trivial | refine ⟨rfl, ?_⟩)); exact rfl; exact rfl; exact rfl; exact rfl; exact rfl) | (apply v_move; exact rfl; exact rfl) | (apply v_assign; exact rfl; exact rfl) | refine run_seq ?_ | refine run_region ?_ | refine runL_nil ?_ | refine run_block ?_ | (apply v_on; exact rfl) | (apply v_pick_f; exact rfl; exact rfl; exact rfl) | (apply run_cond; exact rfl; rotate_left; (focus (intro hb; cases hb; done)); intro hb; clear hb) | (apply v_nilEql; exact ptA rfl; exact rfl; exact rfl) | (apply v_eqlNil; exact ptA rfl; exact rfl; exact NN.ptr; exact rfl)))
      exact run_ret (mp [(2, 1)]) _ Try.func47 ⟨_, _, rfl, rfl, rfl⟩ rfl ⟨rfl, rfl, trivial⟩ ⟨rfl, rfl, trivial⟩ rfl
    | some y =>
      have hj := (nodeAt_some hx).2.2
      have hi := (nodeAt_some hy).2.2
      have hT' : T = if x.kind ≠ 2 ∨ y.kind ≠ 3 then (l, 2) else if x.shadow ≠ 0 ∨ y.host ≠ 0 then (l, 6) else if aboveB l root host = true then (l, 3) else (setN (setN l host { x with shadow := root }) root { y with host := host }, 0) := by
        rw [← hT]; simp [tieM, hx, hy]
      clear hT
      have hA := lend 1 rfl rfl (above_f hu root host hm (.inr ⟨x, hx⟩))
      refine fun_intro 61 Try.func47 rfl rfl rfl (fun ι F S w => ?_)
      (repeat' (first | (apply v_cSx; exact rfl; exact cbA rfl; (first | exact at_m hx hm | exact at_m hy hm | exact hA); (repeat (first | exact trivial | refine ⟨rfl, ?_⟩)); exact rfl; exact rfl; exact rfl; exact rfl; exact rfl) | (apply v_loadO; exact tyA rfl; exact rfl; exact rfl; exact rfl; exact rfl; (first | exact hj | exact hi); exact (by decide); exact rfl; exact rfl) | (apply v_move; exact rfl; exact rfl) | (apply v_assign; exact rfl; exact rfl) | refine run_seq ?_ | refine run_region ?_ | refine runL_nil ?_ | refine run_skip ?_ | refine run_block ?_ | refine run_inBlock ?_ | (apply v_fldP; exact flA rfl; exact rfl; exact rfl; exact rfl) | (apply v_on; exact rfl) | (apply v_off; exact rfl; exact rfl) | (apply v_pick_t; exact rfl; exact rfl; exact rfl) | (apply v_pick_f; exact rfl; exact rfl; exact rfl) | (apply run_cond; exact rfl; rotate_left; (focus (intro hb; cases hb; done)); intro hb; clear hb) | (apply run_cond; exact rfl; (focus (intro hb; cases hb; done)); intro hb; clear hb) | (apply v_neq; exact rfl; exact rfl; exact rfl) | (apply v_eqlNil; exact ptA rfl; exact rfl; exact NN.ptr; exact rfl) | (apply v_nilCheck; exact rfl; exact NN.ptr; exact rfl) | (apply v_gsplit; exact rfl; exact rfl; exact rfl; all_goals intro hb) | (apply run_cond; exact rfl; all_goals intro hb)))
      all_goals first
        | (refine via (p := T = (l, 2)) ?_ ?_; (focus (rw [hT']; simp_all; done)); intro hT2; clear hT'; subst hT2; exact run_ret (mp [(2, 1)]) _ Try.func47 ⟨_, _, rfl, rfl, rfl⟩ rfl ⟨rfl, rfl, trivial⟩ ⟨rfl, rfl, trivial⟩ rfl)
        | (refine via (p := T = (l, 6)) ?_ ?_; (focus (rw [hT']; simp_all; done)); intro hT2; clear hT'; subst hT2; exact run_ret (mp [(2, 1)]) _ Try.func47 ⟨_, _, rfl, rfl, rfl⟩ rfl ⟨rfl, rfl, trivial⟩ ⟨rfl, rfl, trivial⟩ rfl)
        | (refine via (p := T = (l, 3)) ?_ ?_; (focus (rw [hT']; simp_all; done)); intro hT2; clear hT'; subst hT2; exact run_ret (mp [(2, 1)]) _ Try.func47 ⟨_, _, rfl, rfl, rfl⟩ rfl ⟨rfl, rfl, trivial⟩ ⟨rfl, rfl, trivial⟩ rfl)
        | skip
      have hne : host ≠ root := fun e => by
        subst e
        rw [hx] at hy
        cases hy
        simp_all
      have hT2 : T = (setN (setN l host { x with shadow := root }) root { y with host := host }, 0) := by rw [hT']; simp_all
      clear hT'
      subst hT2
      refine v_storeO { x with shadow := root } (tyA rfl) rfl rfl rfl rfl hj rfl rfl (by decide) rfl rfl ?_
      (repeat (first | (apply v_fldP; exact flA rfl; exact rfl; exact rfl; exact rfl) | (apply v_nilCheck; exact rfl; exact NN.ptr; exact rfl)))
      refine v_storeO { y with host := host } (tyA rfl) rfl rfl rfl rfl (setN_ne hx hy hne _) rfl rfl (by decide) rfl rfl ?_
      (repeat (first | (apply v_assign; exact rfl; exact rfl) | refine run_seq ?_ | refine run_region ?_ | refine runL_nil ?_))
      exact run_ret (mp [(2, 1)]) _ Try.func47 ⟨_, _, rfl, rfl, rfl⟩ rfl ⟨rfl, rfl, trivial⟩ ⟨rfl, rfl, trivial⟩ rfl
end Go.Proofs.Ytjkidecaciomgaa
/- The forest: Put. -/
namespace Go.Proofs.Ytjkidecaciomgaa
set_option linter.unusedVariables false
set_option linter.unusedSimpArgs false
set_option maxRecDepth 100000
open Go.RowKit

def idxI (xs : List Int) (v : Int) : Int := if v ∈ xs then (xs.idxOf v : Nat) else -1
theorem idxI_at {xs : List Int} {v : Int} {i : Nat} (h : xs[i]? = some v) (hj : ∀ j, j < i → xs[j]? ≠ some v) : idxI xs v = i := by
  obtain ⟨hi, e⟩ := List.getElem?_eq_some_iff.1 h
  have : xs.idxOf v = i := by
    rw [List.idxOf, List.findIdx_eq hi]
    refine ⟨by simp [e], fun j hj' => ?_⟩
    have := hj j hj'
    rw [List.getElem?_eq_getElem (by omega)] at this
    simpa using this
  rw [idxI, if_pos (List.mem_of_getElem? h), this]
theorem idxI_none {xs : List Int} {v : Int} (hj : ∀ j, j < xs.length → xs[j]? ≠ some v) : idxI xs v = -1 := by
  rw [idxI, if_neg]
  intro h
  obtain ⟨i, hi, e⟩ := List.getElem_of_mem h
  exact hj i hi (by rw [List.getElem?_eq_getElem hi, e])
theorem index_i {xs : List Int} (v : Int) (hm : xs.length ≤ 1000000) : Fun Try.prog 164 [.sem (listS intE xs), .v (.int .i64 v)] [] (.v (.int .i64 (idxI xs v))) [] := by
  refine fun_intro 19 Try.func164 rfl rfl rfl (fun ι F S w => ?_)
  (repeat (first | (apply v_move; exact rfl; exact rfl) | (apply v_assign; exact rfl; exact rfl) | refine run_seq ?_ | refine run_region ?_ | refine runL_nil ?_ | refine run_block ?_ | (apply v_lenL; exact slA rfl; exact rfl; exact rfl)))
  refine v_loop (fun i : Nat => ⟨[(0, .sem (listS intE xs)), (1, .v (.int .i64 v)), (7, .v (.int .i64 xs.length)), (8, .v (.int .i64 i))], []⟩) (fun i => i ≤ xs.length ∧ ∀ j, j < i → xs[j]? ≠ some v) (fun i => xs.length - i) 0 idN trivial (by repeat (first | exact trivial | refine ⟨rfl, ?_⟩)) (by repeat (first | exact trivial | refine ⟨rfl, ?_⟩)) rfl ⟨by omega, fun j hj => by omega⟩ fun i ⟨hi, hp⟩ ih => ?_
  (repeat (first | refine run_seq ?_ | refine run_region ?_ | refine runL_nil ?_ | (apply v_lss; exact rfl; exact rfl; exact rfl)))
  refine run_cond rfl (fun h => ?_) (fun h => ?_)
  · have hlt : i < xs.length := by simpa using h
    have hx : xs[((i : Int)).toNat]? = some xs[i] := by simp [hlt]
    (repeat (first | (apply v_move; exact rfl; exact rfl) | (apply v_assign; exact rfl; exact rfl) | refine run_seq ?_ | refine run_region ?_ | refine runL_nil ?_ | refine run_skip ?_ | refine run_block ?_))
    refine v_idxL (slA rfl) (tyA rfl) rfl rfl rfl rfl (by omega) hx rfl ?_
    (repeat (first | refine runL_nil ?_ | (apply v_loadA; exact tyA rfl; exact rfl; exact rfl; exact rfl; exact rfl; exact rfl; exact rfl) | (apply v_eql; exact rfl; exact rfl; exact rfl)))
    refine run_cond rfl (fun h => ?_) (fun h => ?_)
    · have he : v = xs[i] := by simpa using h
      (repeat (first | (apply v_move; exact rfl; exact rfl) | (apply v_assign; exact rfl; exact rfl) | refine run_seq ?_ | refine run_region ?_ | refine runL_nil ?_))
      exact run_ret idN _ Try.func164 ⟨_, _, rfl, rfl, rfl⟩ (by rw [idxI_at (i := i) (by simp [hlt, he]) hp]; rfl) trivial trivial rfl
    · have he : v ≠ xs[i] := by simpa using h
      (repeat (first | (apply v_move; exact rfl; exact rfl) | refine run_region ?_ | refine runL_nil ?_ | refine run_skip ?_ | refine run_inBlock ?_ | (apply v_add; exact rfl; exact rfl; exact rfl; exact (by omega))))
      exact v_again ih (i + 1) idN trivial (by repeat (first | exact trivial | refine ⟨rfl, ?_⟩)) (by repeat (first | exact trivial | refine ⟨rfl, ?_⟩)) rfl ⟨by omega, fun j hj => by
        by_cases e : j = i
        · subst e; simpa [hlt] using Ne.symm he
        · exact hp j (by omega)⟩ (by omega)
  · have hge : i = xs.length := by have : ¬ i < xs.length := (by simpa using h); omega
    (repeat (first | (apply v_assign; exact rfl; exact rfl) | refine run_seq ?_ | refine run_region ?_ | refine runL_nil ?_ | (apply run_exit; exact rfl)))
    exact run_ret idN _ Try.func164 ⟨_, _, rfl, rfl, rfl⟩ (by rw [idxI_none fun j hj => hp j (by omega)]; rfl) trivial trivial rfl
theorem contains_i {xs : List Int} (v : Int) (hm : xs.length ≤ 1000000) : Fun Try.prog 141 [.sem (listS intE xs), .v (.int .i64 v)] [] (.v (.bool (decide (v ∈ xs)))) [] := by
  have he : decide (idxI xs v ≥ 0) = decide (v ∈ xs) := by
    unfold idxI
    split <;> rename_i h <;> simp [h]
  refine fun_intro 9 Try.func141 rfl rfl rfl (fun ι F S w => ?_)
  (repeat (first | (apply v_cx; exact rfl; exact cbA rfl; (first | exact index_i v hm); exact rfl; exact rfl) | (apply v_move; exact rfl; exact rfl) | (apply v_assign; exact rfl; exact rfl) | refine run_seq ?_ | refine run_region ?_ | refine runL_nil ?_ | (apply v_geq; exact rfl; exact rfl; exact rfl)))
  exact run_ret idN _ Try.func141 ⟨_, _, rfl, rfl, rfl⟩ (by rw [← he]; rfl) trivial trivial rfl
def rootedB (x : Nd) : Bool := x.kind == 1 || x.kind == 3
theorem rooted_f {l : List Nd} {j : Nat} {x : Nd} (hj : l[j]? = some x) : Fun Try.prog 142 [.ptr 1 (j * 9)] [(1, .obj (ownS 33 nodeE l))] (.v (.bool (rootedB x))) [(1, .obj (ownS 33 nodeE l))] := by
  refine fun_intro 15 Try.func142 rfl rfl rfl (fun ι F S w => ?_)
  (repeat' (first | (apply v_loadO; exact tyA rfl; exact rfl; exact rfl; exact rfl; exact rfl; (first | exact hj); exact (by decide); exact rfl; exact rfl) | (apply v_move; exact rfl; exact rfl) | (apply v_assign; exact rfl; exact rfl) | refine run_seq ?_ | refine run_region ?_ | refine runL_nil ?_ | (apply v_fldP; exact flA rfl; exact rfl; exact rfl; exact rfl) | (apply v_on; exact rfl) | (apply v_off; exact rfl; exact rfl) | (apply v_pick_t; exact rfl; exact rfl; exact rfl) | (apply v_pick_f; exact rfl; exact rfl; exact rfl) | (apply v_eql; exact rfl; exact rfl; exact rfl) | (apply v_nilCheck; exact rfl; exact NN.ptr; exact rfl) | (apply v_gsplit; exact rfl; exact rfl; exact rfl; all_goals intro hb)))
  all_goals exact run_ret idN _ Try.func142 ⟨_, _, rfl, rfl, rfl⟩ (by simp_all [AV.ren, oneA, rootedB]) ⟨rfl, trivial⟩ ⟨rfl, trivial⟩ rfl

/-! ### Put, as it is done -/
def setPar (l : List Nd) (k v : Int) : List Nd :=
  match nodeAt l k with
  | some x => setN l k { x with parent := v }
  | none => l
def parAll (l : List Nd) (ks : List Int) (v : Int) : List Nd := ks.foldl (fun l k => setPar l k v) l
def setKids (l : List Nd) (p : Int) (ks : List Int) : List Nd :=
  match nodeAt l p with
  | some x => setN l p { x with kids := ks }
  | none => l
def argOk (l : List Nd) (ks : List Int) (i : Nat) : Bool := (nodeAt l (ks.getD i 0)).isSome && !decide (ks.getD i 0 ∈ ks.take i)
noncomputable def putOk (l : List Nd) (p : Int) (k : Int) : Bool :=
  match nodeAt l k with
  | some x => !(rootedB x) && (!(aboveB l k p) && (x.parent == 0 || x.parent == p))
  | none => false
noncomputable def putM (l : List Nd) (p : Int) (ks : List Int) : List Nd × Int :=
  match nodeAt l p with
  | none => (l, 1)
  | some x =>
    if (List.range ks.length).all (argOk l ks) = false then (l, 1)
    else if ks.all (putOk l p) = false then (l, 3)
    else (setKids (parAll (parAll l x.kids 0) ks p) p ks, 0)
end Go.Proofs.Ytjkidecaciomgaa
/- The forest: Put's walk. -/
namespace Go.Proofs.Ytjkidecaciomgaa
set_option linter.unusedVariables false
set_option linter.unusedSimpArgs false
set_option maxRecDepth 100000
open Go.RowKit

theorem len_setN (l : List Nd) (k : Int) (x : Nd) : (setN l k x).length = l.length := by simp [setN]
theorem len_setPar (l : List Nd) (k v : Int) : (setPar l k v).length = l.length := by
  unfold setPar
  split
  · exact len_setN _ _ _
  · rfl
theorem len_parAll (ks : List Int) (v : Int) : ∀ l : List Nd, (parAll l ks v).length = l.length := by
  induction ks with
  | nil => intro l; rfl
  | cons k ks ih => intro l; rw [parAll, List.foldl_cons, ← parAll, ih, len_setPar]
theorem nodeAt_isSome {l : List Nd} {k : Int} : (nodeAt l k).isSome = true ↔ 1 ≤ k ∧ k ≤ l.length := by
  unfold nodeAt
  split
  · rename_i h
    rw [Option.isSome_iff_exists]
    constructor
    · rintro ⟨x, hx⟩
      have := (List.getElem?_eq_some_iff.1 hx).1
      omega
    · intro h'
      exact ⟨_, List.getElem?_eq_getElem (by omega)⟩
  · simp; omega
theorem nodeAt_len {l l' : List Nd} (h : l'.length = l.length) (k : Int) : (nodeAt l' k).isSome = (nodeAt l k).isSome := by
  rw [Bool.eq_iff_iff, nodeAt_isSome, nodeAt_isSome, h]
theorem parAll_take {l : List Nd} {ks : List Int} {v : Int} {i : Nat} {k : Int} (h : ks[i]? = some k) : parAll l (ks.take (i + 1)) v = setPar (parAll l (ks.take i) v) k v := by
  rw [List.take_add_one, h, parAll, List.foldl_append]
  rfl
/-- Nodes, one of whose lists of children is known by its name alone. -/
def nodeX : Enc (Nd × Option { u : Value // u.oneCell' = true }) where
  sz := 9
  f := fun p => match p.2 with
    | none => nodeL p.1
    | some u => [.v (.int .i64 p.1.kind), .v (.int .i64 p.1.parent), .v (.int .i64 p.1.host), .v (.int .i64 p.1.shadow), .v (.int .i64 p.1.mode), .v (.bool p.1.slot), .v (.string p.1.name), .v (.string p.1.want), .v u.1]
  len := fun p => by rcases p with ⟨x, _ | u⟩ <;> rfl
  leaf := fun p => by
    rcases p with ⟨x, _ | u⟩
    · rfl
    · have := u.2
      simp only [AV.leaves, AV.leaf, this]
      rfl
theorem nodeX_all (l : List Nd) : nodeX.all (l.map fun x => (x, none)) = nodeE.all l := by
  simp only [Enc.all, List.flatMap_map]
  rfl
theorem nodeX_sink {u : { u : Value // u.oneCell' = true }} {x : Nd} {ks : List Int} : ∀ (l : List Nd) (j : Nat), LeUs u.1 (listS intE ks) (nodeX.all ((l.map fun x => (x, none)).set j (x, some u))) (nodeE.all (l.set j { x with kids := ks }))
  | [], j => by simp [Enc.all, LeUs]
  | y :: l, 0 => by
    simp only [List.map_cons, List.set_cons_zero, Enc.all, List.flatMap_cons]
    refine LeUs.append ?_ ?_
    · exact ⟨LeU.refl, LeU.refl, LeU.refl, LeU.refl, LeU.refl, LeU.refl, LeU.refl, LeU.refl, LeU.here, trivial⟩
    · have := nodeX_all l
      simp only [Enc.all] at this
      rw [this]
      exact LeUs.refl
  | y :: l, j + 1 => by
    simp only [List.map_cons, List.set_cons_succ, Enc.all, List.flatMap_cons]
    exact LeUs.append LeUs.refl (nodeX_sink l j)
theorem okC_one {u : Value} (h : u.oneCell' = true) : okC (.v u) = true := by cases u <;> simp_all [okC, Value.oneCell']

theorem all_false {α : Type} {xs : List α} {f : α → Bool} {i : Nat} (hi : i < xs.length) (h : f xs[i] = false) : xs.all f = false := by
  rw [← Bool.not_eq_true, List.all_eq_true]
  intro hall
  rw [hall _ (List.getElem_mem hi)] at h
  cases h
theorem put_f {l : List Nd} (hu : Ups l) (p : Int) (ks : List Int) (hm : l.length ≤ 1000000) (hk : ks.length ≤ 1000000) (hkid : ∀ x, nodeAt l p = some x → x.kids.length ≤ 1000000 ∧ ∀ c ∈ x.kids, (nodeAt l c).isSome = true) : Fun Try.prog 46 [.ptr 0 0, .v (.int .i64 p), .sem (listS intE ks)] (forR 1 l) (.v (.int .i64 (putM l p ks).2)) (forR 2 (putM l p ks).1) := by
  cases hp : nodeAt l p with
  | none =>
    have hr : putM l p ks = (l, 1) := by simp [putM, hp]
    rw [hr]
    refine fun_intro 113 Try.func46 rfl rfl rfl (fun ι F S w => ?_)
    (repeat (first | (apply v_cSx; exact rfl; exact cbA rfl; (first | exact at_mn hp hm); (repeat (first | exact trivial | refine ⟨rfl, ?_⟩)); exact rfl; exact rfl; exact rfl; exact rfl; exact rfl) | (apply v_move; exact rfl; exact rfl) | (apply v_assign; exact rfl; exact rfl) | refine run_seq ?_ | refine run_region ?_ | refine runL_nil ?_ | (apply run_cond; exact rfl; rotate_left; (focus (intro hb; cases hb; done)); intro hb; clear hb) | (apply v_nilEql; exact ptA rfl; exact rfl; exact rfl)))
    exact run_ret (mp [(2, 1)]) _ Try.func46 ⟨_, _, rfl, rfl, rfl⟩ rfl ⟨rfl, rfl, trivial⟩ ⟨rfl, rfl, trivial⟩ rfl
  | some x =>
    have hj := (nodeAt_some hp).2.2
    have hr : putM l p ks = if (List.range ks.length).all (argOk l ks) = false then (l, 1) else if ks.all (putOk l p) = false then (l, 3) else (setKids (parAll (parAll l x.kids 0) ks p) p ks, 0) := by simp [putM, hp]
    generalize putM l p ks = T at hr
    obtain ⟨hxk, hxc⟩ := hkid x hp
    refine fun_intro 113 Try.func46 rfl rfl rfl (fun ι F S w => ?_)
    (repeat (first | (apply v_cSx; exact rfl; exact cbA rfl; (first | exact at_m hp hm); (repeat (first | exact trivial | refine ⟨rfl, ?_⟩)); exact rfl; exact rfl; exact rfl; exact rfl; exact rfl) | (apply v_move; exact rfl; exact rfl) | (apply v_assign; exact rfl; exact rfl) | refine run_seq ?_ | refine run_region ?_ | refine runL_nil ?_ | refine run_skip ?_ | refine run_block ?_ | (apply run_cond; exact rfl; (focus (intro hb; cases hb; done)); intro hb; clear hb) | (apply v_lenL; exact slA rfl; exact rfl; exact rfl) | (apply v_eqlNil; exact ptA rfl; exact rfl; exact NN.ptr; exact rfl)))
    refine v_loop (fun i : Nat => ⟨[(0, .ptr 0 0), (1, .v (.int .i64 p)), (2, .sem (listS intE ks)), (7, .ptr 1 ((p - 1).toNat * 9)), (22, .sem (listS intE ks)), (23, .v (.int .i64 ks.length)), (24, .v (.int .i64 i))], forR 1 l⟩) (fun i => i ≤ ks.length ∧ ∀ j, j < i → argOk l ks j = true) (fun i => ks.length - i) 0 idN ⟨rfl, rfl, trivial⟩ (by repeat (first | exact trivial | refine ⟨rfl, ?_⟩)) (by repeat (first | exact trivial | refine ⟨rfl, ?_⟩)) rfl ⟨by omega, fun j hj => by omega⟩ fun i ⟨hi, hok⟩ ih => ?_
    (repeat (first | refine run_seq ?_ | refine run_region ?_ | refine runL_nil ?_ | (apply v_lss; exact rfl; exact rfl; exact rfl)))
    refine run_cond rfl (fun h => ?_) (fun h => ?_)
    · have hlt : i < ks.length := by simpa using h
      have hx : ks[((i : Int)).toNat]? = some ks[i] := by simp [hlt]
      have hgd : ks.getD i 0 = ks[i] := by simp [hlt]
      (repeat (first | (apply v_move; exact rfl; exact rfl) | refine run_seq ?_ | refine run_region ?_ | refine run_skip ?_ | refine run_block ?_))
      refine v_idxL (slA rfl) (tyA rfl) rfl rfl rfl rfl (by omega) hx rfl ?_
      cases hq : nodeAt l ks[i] with
      | none =>
        (repeat (first | (apply v_cSx; exact rfl; exact cbA rfl; (first | exact at_mn hq hm); (repeat (first | exact trivial | refine ⟨rfl, ?_⟩)); exact rfl; exact rfl; exact rfl; exact rfl; exact rfl) | (apply v_move; exact rfl; exact rfl) | (apply v_assign; exact rfl; exact rfl) | refine run_seq ?_ | refine run_region ?_ | refine runL_nil ?_ | (apply v_loadA; exact tyA rfl; exact rfl; exact rfl; exact rfl; exact rfl; exact rfl; exact rfl) | (apply v_off; exact rfl; exact rfl) | (apply v_pick_t; exact rfl; exact rfl; exact rfl) | (apply run_cond; exact rfl; rotate_left; (focus (intro hb; cases hb; done)); intro hb; clear hb) | (apply v_nilEql; exact ptA rfl; exact rfl; exact rfl)))
        have hT2 : T = (l, 1) := by
          rw [hr, if_pos]
          rw [← Bool.not_eq_true, List.all_eq_true]
          intro hall
          have := hall i (List.mem_range.2 hlt)
          rw [argOk, hgd, hq] at this
          simp at this
        clear hr
        subst hT2
        exact run_ret (mp [(2, 1)]) _ Try.func46 ⟨_, _, rfl, rfl, rfl⟩ rfl ⟨rfl, rfl, trivial⟩ ⟨rfl, rfl, trivial⟩ rfl
      | some y =>
        (repeat (first | (apply v_cSx; exact rfl; exact cbA rfl; (first | exact at_m hq hm); (repeat (first | exact trivial | refine ⟨rfl, ?_⟩)); exact rfl; exact rfl; exact rfl; exact rfl; exact rfl) | (apply v_cx; exact rfl; exact cbA rfl; (first | exact contains_i _ (by simp; omega)); exact rfl; exact rfl) | (apply v_move; exact rfl; exact rfl) | (apply v_assign; exact rfl; exact rfl) | refine run_seq ?_ | refine run_region ?_ | refine runL_nil ?_ | (apply v_loadA; exact tyA rfl; exact rfl; exact rfl; exact rfl; exact rfl; exact rfl; exact rfl) | (apply v_on; exact rfl) | (apply v_pick_f; exact rfl; exact rfl; exact rfl) | (apply v_eqlNil; exact ptA rfl; exact rfl; exact NN.ptr; exact rfl) | (apply v_sliceH; exact slA rfl; exact tyA rfl; exact rfl; exact rfl; exact rfl; exact (by omega); exact (by omega); exact rfl)))
        have htk : ((i : Int)).toNat = i := by omega
        refine run_cond rfl (fun h => ?_) (fun h => ?_)
        · have hin : ks[i] ∈ ks.take i := by simpa using h
          have hT2 : T = (l, 1) := by
            rw [hr, if_pos]
            rw [← Bool.not_eq_true, List.all_eq_true]
            intro hall
            have := hall i (List.mem_range.2 hlt)
            rw [argOk, hgd] at this
            simp [hin] at this
          clear hr
          subst hT2
          (repeat (first | (apply v_assign; exact rfl; exact rfl) | refine run_seq ?_ | refine run_region ?_ | refine runL_nil ?_))
          exact run_ret (mp [(2, 1)]) _ Try.func46 ⟨_, _, rfl, rfl, rfl⟩ rfl ⟨rfl, rfl, trivial⟩ ⟨rfl, rfl, trivial⟩ rfl
        · have hin : ¬ ks[i] ∈ ks.take i := by simpa using h
          (repeat (first | (apply v_move; exact rfl; exact rfl) | refine run_region ?_ | refine runL_nil ?_ | refine run_skip ?_ | refine run_inBlock ?_ | (apply v_add; exact rfl; exact rfl; exact rfl; exact (by omega))))
          exact v_again ih (i + 1) idN ⟨rfl, rfl, trivial⟩ (by repeat (first | exact trivial | refine ⟨rfl, ?_⟩)) (by repeat (first | exact trivial | refine ⟨rfl, ?_⟩)) rfl ⟨by omega, fun j hj => by
            by_cases e : j = i
            · subst e
              rw [argOk, hgd, hq]
              simp [hin]
            · exact hok j (by omega)⟩ (by omega)
    · have hge : i = ks.length := by have : ¬ i < ks.length := (by simpa using h); omega
      have hall : ∀ j, j < ks.length → argOk l ks j = true := fun j hj => hok j (by omega)
      have hall2 : (List.range ks.length).all (argOk l ks) = true := List.all_eq_true.2 fun j hj => hall j (List.mem_range.1 hj)
      rw [hall2, if_neg (by simp)] at hr
      clear hok ih
      have hsome : ∀ j (hj : j < ks.length), ∃ y, nodeAt l ks[j] = some y := fun j hj => by
        have := hall j hj
        rw [argOk, show ks.getD j 0 = ks[j] by simp [hj], Bool.and_eq_true] at this
        exact Option.isSome_iff_exists.1 this.1
      (repeat (first | (apply v_move; exact rfl; exact rfl) | refine run_seq ?_ | refine run_region ?_ | refine runL_nil ?_ | refine run_block ?_ | (apply run_exit; exact rfl) | (apply v_lenL; exact slA rfl; exact rfl; exact rfl)))
      refine v_loop (fun i : Nat => ⟨[(0, .ptr 0 0), (1, .v (.int .i64 p)), (2, .sem (listS intE ks)), (7, .ptr 1 ((p - 1).toNat * 9)), (41, .sem (listS intE ks)), (42, .v (.int .i64 ks.length)), (43, .v (.int .i64 i))], forR 1 l⟩) (fun i => i ≤ ks.length ∧ ∀ j (hj : j < ks.length), j < i → putOk l p ks[j] = true) (fun i => ks.length - i) 0 idN ⟨rfl, rfl, trivial⟩ (by repeat (first | exact trivial | refine ⟨rfl, ?_⟩)) (by repeat (first | exact trivial | refine ⟨rfl, ?_⟩)) rfl ⟨by omega, fun j _ hj => by omega⟩ fun i ⟨hi, hok⟩ ih => ?_
      (repeat (first | refine run_seq ?_ | refine run_region ?_ | refine runL_nil ?_ | (apply v_lss; exact rfl; exact rfl; exact rfl)))
      refine run_cond rfl (fun h => ?_) (fun h => ?_)
      · have hlt : i < ks.length := by simpa using h
        have hx : ks[((i : Int)).toNat]? = some ks[i] := by simp [hlt]
        obtain ⟨y, hq⟩ := hsome i hlt
        have hjq := (nodeAt_some hq).2.2
        have hA := lend 1 rfl rfl (above_f hu ks[i] p hm (.inr ⟨x, hp⟩))
        have hpo : putOk l p ks[i] = (!(rootedB y) && (!(aboveB l ks[i] p) && (y.parent == 0 || y.parent == p))) := by simp [putOk, hq]
        (repeat' (first | (apply v_idxL; exact slA rfl; exact tyA rfl; exact rfl; exact rfl; exact rfl; exact rfl; exact (by omega); (first | exact hx); exact rfl) | (apply v_cSx; exact rfl; exact cbA rfl; (first | exact at_m hq hm | exact rooted_f hjq | exact hA); (repeat (first | exact trivial | refine ⟨rfl, ?_⟩)); exact rfl; exact rfl; exact rfl; exact rfl; exact rfl) | (apply v_loadO; exact tyA rfl; exact rfl; exact rfl; exact rfl; exact rfl; (first | exact hjq); exact (by decide); exact rfl; exact rfl) | (apply v_move; exact rfl; exact rfl) | (apply v_assign; exact rfl; exact rfl) | refine run_seq ?_ | refine run_region ?_ | refine runL_nil ?_ | refine run_skip ?_ | refine run_block ?_ | refine run_inBlock ?_ | (apply v_fldP; exact flA rfl; exact rfl; exact rfl; exact rfl) | (apply v_loadA; exact tyA rfl; exact rfl; exact rfl; exact rfl; exact rfl; exact rfl; exact rfl) | (apply v_on; exact rfl) | (apply v_off; exact rfl; exact rfl) | (apply v_pick_t; exact rfl; exact rfl; exact rfl) | (apply v_pick_f; exact rfl; exact rfl; exact rfl) | (apply run_cond; exact rfl; rotate_left; (focus (intro hb; cases hb; done)); intro hb; clear hb) | (apply run_cond; exact rfl; (focus (intro hb; cases hb; done)); intro hb; clear hb) | (apply v_neq; exact rfl; exact rfl; exact rfl) | (apply v_nilCheck; exact rfl; exact NN.ptr; exact rfl) | (apply v_add; exact rfl; exact rfl; exact rfl; exact (by omega)) | (apply v_gsplit; exact rfl; exact rfl; exact rfl; all_goals intro hb) | (apply run_cond; exact rfl; all_goals intro hb)))
        all_goals first
          | (refine via (p := putOk l p ks[i] = false) ?_ ?_; (focus (rw [hpo]; simp_all; done)); intro hbad; have hT2 : T = (l, 3) := (hr.trans (if_pos (all_false hlt hbad))); clear hr; subst hT2; exact run_ret (mp [(2, 1)]) _ Try.func46 ⟨_, _, rfl, rfl, rfl⟩ rfl ⟨rfl, rfl, trivial⟩ ⟨rfl, rfl, trivial⟩ rfl)
          | (refine via (p := putOk l p ks[i] = true) ?_ ?_; (focus (rw [hpo]; simp_all; done)); intro hgood; exact v_again ih (i + 1) idN ⟨rfl, rfl, trivial⟩ (by repeat (first | exact trivial | refine ⟨rfl, ?_⟩)) (by repeat (first | exact trivial | refine ⟨rfl, ?_⟩)) rfl ⟨by omega, fun j hj' hj => if e : j = i then (by subst e; exact hgood) else hok j hj' (by omega)⟩ (by omega))
      · have hge : i = ks.length := by have : ¬ i < ks.length := (by simpa using h); omega
        have hall3 : ks.all (putOk l p) = true := List.all_eq_true.2 fun k hk => by
          obtain ⟨j, hj, rfl⟩ := List.getElem_of_mem hk
          exact hok j hj (by omega)
        rw [hall3, if_neg (by simp)] at hr
        subst hr
        clear hok ih hall2 hall3
        (repeat (first | (apply v_loadO; exact tyA rfl; exact rfl; exact rfl; exact rfl; exact rfl; (first | exact hj); exact (by decide); exact rfl; exact rfl) | (apply v_move; exact rfl; exact rfl) | refine run_seq ?_ | refine run_region ?_ | refine runL_nil ?_ | refine run_block ?_ | (apply run_exit; exact rfl) | (apply v_fldP; exact flA rfl; exact rfl; exact rfl; exact rfl) | (apply v_lenL; exact slA rfl; exact rfl; exact rfl) | (apply v_nilCheck; exact rfl; exact NN.ptr; exact rfl)))
        refine v_loop (fun i : Nat => ⟨[(0, .ptr 0 0), (1, .v (.int .i64 p)), (2, .sem (listS intE ks)), (7, .ptr 1 ((p - 1).toNat * 9)), (76, .sem (listS intE x.kids)), (77, .v (.int .i64 x.kids.length)), (78, .v (.int .i64 i))], forR 1 (parAll l (x.kids.take i) 0)⟩) (fun i => i ≤ x.kids.length) (fun i => x.kids.length - i) 0 idN ⟨rfl, rfl, trivial⟩ (by repeat (first | exact trivial | refine ⟨rfl, ?_⟩)) (by repeat (first | exact trivial | refine ⟨rfl, ?_⟩)) rfl (by omega) fun i hi ih => ?_
        (repeat (first | refine run_seq ?_ | refine run_region ?_ | refine runL_nil ?_ | (apply v_lss; exact rfl; exact rfl; exact rfl)))
        refine run_cond rfl (fun h => ?_) (fun h => ?_)
        · have hlt : i < x.kids.length := by simpa using h
          have hx : x.kids[((i : Int)).toNat]? = some x.kids[i] := by simp [hlt]
          have hLl := len_parAll (x.kids.take i) 0 l
          obtain ⟨y, hq⟩ := Option.isSome_iff_exists.1 ((nodeAt_len hLl x.kids[i]).trans (hxc _ (List.getElem_mem hlt)))
          have hstep : parAll l (x.kids.take (i + 1)) 0 = (parAll l (x.kids.take i) 0).set (x.kids[i] - 1).toNat { y with parent := 0 } := by
            rw [parAll_take (k := x.kids[i]) (by simp [hlt]), setPar, hq]
            rfl
          (repeat (first | (apply v_idxL; exact slA rfl; exact tyA rfl; exact rfl; exact rfl; exact rfl; exact rfl; exact (by omega); (first | exact hx); exact rfl) | (apply v_cSx; exact rfl; exact cbA rfl; (first | exact at_m hq (by omega)); (repeat (first | exact trivial | refine ⟨rfl, ?_⟩)); exact rfl; exact rfl; exact rfl; exact rfl; exact rfl) | (apply v_move; exact rfl; exact rfl) | (apply v_assign; exact rfl; exact rfl) | refine run_seq ?_ | refine run_region ?_ | refine runL_nil ?_ | refine run_skip ?_ | refine run_block ?_ | (apply v_fldP; exact flA rfl; exact rfl; exact rfl; exact rfl) | (apply v_loadA; exact tyA rfl; exact rfl; exact rfl; exact rfl; exact rfl; exact rfl; exact rfl) | (apply v_nilCheck; exact rfl; exact NN.ptr; exact rfl)))
          refine v_storeO { y with parent := 0 } (tyA rfl) rfl rfl rfl rfl (nodeAt_some hq).2.2 rfl rfl (by decide) rfl rfl ?_
          (repeat (first | (apply v_move; exact rfl; exact rfl) | refine run_region ?_ | refine runL_nil ?_ | refine run_inBlock ?_ | (apply v_add; exact rfl; exact rfl; exact rfl; exact (by omega))))
          exact v_again ih (i + 1) idN ⟨rfl, rfl, trivial⟩ (by repeat (first | exact trivial | refine ⟨rfl, ?_⟩)) ⟨rfl, by rw [hstep]; rfl, trivial⟩ rfl (by omega) (by omega)
        · have hge : i = x.kids.length := by have : ¬ i < x.kids.length := (by simpa using h); omega
          rw [hge, List.take_length]
          clear ih
          obtain ⟨l1, hl1e⟩ : ∃ l1, l1 = parAll l x.kids 0 := ⟨_, rfl⟩
          have hl1 : l1.length = l.length := by rw [hl1e, len_parAll]
          rw [← hl1e]
          (repeat (first | (apply v_move; exact rfl; exact rfl) | refine run_seq ?_ | refine run_region ?_ | refine runL_nil ?_ | refine run_block ?_ | (apply run_exit; exact rfl) | (apply v_lenL; exact slA rfl; exact rfl; exact rfl)))
          refine v_loop (fun i : Nat => ⟨[(0, .ptr 0 0), (1, .v (.int .i64 p)), (2, .sem (listS intE ks)), (7, .ptr 1 ((p - 1).toNat * 9)), (88, .sem (listS intE ks)), (89, .v (.int .i64 ks.length)), (90, .v (.int .i64 i))], forR 1 (parAll l1 (ks.take i) p)⟩) (fun i => i ≤ ks.length) (fun i => ks.length - i) 0 idN ⟨rfl, rfl, trivial⟩ (by repeat (first | exact trivial | refine ⟨rfl, ?_⟩)) (by repeat (first | exact trivial | refine ⟨rfl, ?_⟩)) rfl (by omega) fun i hi ih => ?_
          (repeat (first | refine run_seq ?_ | refine run_region ?_ | refine runL_nil ?_ | (apply v_lss; exact rfl; exact rfl; exact rfl)))
          refine run_cond rfl (fun h => ?_) (fun h => ?_)
          · have hlt : i < ks.length := by simpa using h
            have hx : ks[((i : Int)).toNat]? = some ks[i] := by simp [hlt]
            have hLl := len_parAll (ks.take i) p l1
            obtain ⟨y, hq⟩ := Option.isSome_iff_exists.1 ((nodeAt_len hLl ks[i]).trans (by obtain ⟨y, hy⟩ := hsome i hlt; rw [nodeAt_len hl1, hy]; rfl))
            have hstep : parAll l1 (ks.take (i + 1)) p = (parAll l1 (ks.take i) p).set (ks[i] - 1).toNat { y with parent := p } := by
              rw [parAll_take (k := ks[i]) (by simp [hlt]), setPar, hq]
              rfl
            (repeat (first | (apply v_idxL; exact slA rfl; exact tyA rfl; exact rfl; exact rfl; exact rfl; exact rfl; exact (by omega); (first | exact hx); exact rfl) | (apply v_cSx; exact rfl; exact cbA rfl; (first | exact at_m hq (by omega)); (repeat (first | exact trivial | refine ⟨rfl, ?_⟩)); exact rfl; exact rfl; exact rfl; exact rfl; exact rfl) | (apply v_move; exact rfl; exact rfl) | (apply v_assign; exact rfl; exact rfl) | refine run_seq ?_ | refine run_region ?_ | refine runL_nil ?_ | refine run_skip ?_ | refine run_block ?_ | (apply v_fldP; exact flA rfl; exact rfl; exact rfl; exact rfl) | (apply v_loadA; exact tyA rfl; exact rfl; exact rfl; exact rfl; exact rfl; exact rfl; exact rfl) | (apply v_nilCheck; exact rfl; exact NN.ptr; exact rfl)))
            refine v_storeO { y with parent := p } (tyA rfl) rfl rfl rfl rfl (nodeAt_some hq).2.2 rfl rfl (by decide) rfl rfl ?_
            (repeat (first | (apply v_move; exact rfl; exact rfl) | refine run_region ?_ | refine runL_nil ?_ | refine run_inBlock ?_ | (apply v_add; exact rfl; exact rfl; exact rfl; exact (by omega))))
            exact v_again ih (i + 1) idN ⟨rfl, rfl, trivial⟩ (by repeat (first | exact trivial | refine ⟨rfl, ?_⟩)) ⟨rfl, by rw [hstep]; rfl, trivial⟩ rfl (by omega) (by omega)
          · have hge : i = ks.length := by have : ¬ i < ks.length := (by simpa using h); omega
            rw [hge, List.take_length]
            clear ih
            obtain ⟨l2, hl2e⟩ : ∃ l2, l2 = parAll l1 ks p := ⟨_, rfl⟩
            have hl2 : l2.length = l.length := by rw [hl2e, len_parAll, hl1]
            rw [← hl2e]
            obtain ⟨p2, hp2⟩ := Option.isSome_iff_exists.1 ((nodeAt_len hl2 p).trans (by rw [hp]; rfl))
            have hj2 := (nodeAt_some hp2).2.2
            have hres : setKids l2 p ks = l2.set (p - 1).toNat { p2 with kids := ks } := by rw [setKids, hp2]; rfl
            rw [hres]
            have hjx : (l2.map fun x => ((x, none) : Nd × Option { u : Value // u.oneCell' = true }))[(p - 1).toNat]? = some (p2, none) := by rw [List.getElem?_map, hj2]; rfl
            refine run_recode 1 (E' := nodeX) (ys := l2.map fun x => (x, none)) rfl rfl (by simp) (by rw [nodeX_all]; exact LeL.refl) ?_
            (repeat (first | (apply v_move; exact rfl; exact rfl) | refine run_seq ?_ | refine run_region ?_ | (apply run_exit; exact rfl) | (apply v_lenL; exact slA rfl; exact rfl; exact rfl)))
            refine v_make intE 0 (slA rfl) (tyA rfl) rfl rfl rfl rfl ⟨Le.refl, trivial⟩ rfl hk rfl rfl rfl rfl ?_
            refine runL_name 104 104 rfl rfl fun u hu1 => ?_
            (repeat (first | (apply v_fldP; exact flA rfl; exact rfl; exact rfl; exact rfl) | (apply v_nilCheck; exact rfl; exact NN.ptr; exact rfl)))
            refine v_storeO (p2, some ⟨u, hu1⟩) (tyA rfl) rfl rfl rfl rfl hjx (okC_one hu1) rfl (by decide) (by simp [cellsA, AV.leaves, AV.leaf, hu1]) rfl ?_
            have hjy : ((l2.map fun x => ((x, none) : Nd × Option { u : Value // u.oneCell' = true })).set (p - 1).toNat (p2, some ⟨u, hu1⟩))[(p - 1).toNat]? = some (p2, some ⟨u, hu1⟩) := by
              rw [List.getElem?_set_self]
              simpa using (List.getElem?_eq_some_iff.1 hj2).1
            (repeat (first | (apply v_loadO; exact tyA rfl; exact rfl; exact rfl; exact rfl; exact rfl; (first | exact hjy); exact (by decide); exact rfl; exact rfl) | (apply v_move; exact rfl; exact rfl) | refine run_seq ?_ | refine run_region ?_ | refine runL_nil ?_ | (apply v_fldP; exact flA rfl; exact rfl; exact rfl; exact rfl) | (apply v_nilCheck; exact rfl; exact NN.ptr; exact rfl)))
            refine v_copyU 104 (slA rfl) (tyA rfl) rfl rfl rfl rfl rfl (by simp) rfl ?_
            refine runL_nil ?_
            refine run_sink 1 104 (E' := nodeE) (ys := l2.set (p - 1).toNat { p2 with kids := ks }) rfl rfl rfl rfl (by simp) (nodeX_sink (u := ⟨u, hu1⟩) l2 _) ?_
            (repeat (first | (apply v_assign; exact rfl; exact rfl) | refine run_seq ?_ | refine run_region ?_ | refine runL_nil ?_))
            exact run_ret (mp [(2, 1)]) _ Try.func46 ⟨_, _, rfl, rfl, rfl⟩ rfl ⟨rfl, rfl, trivial⟩ ⟨rfl, rfl, trivial⟩ rfl
end Go.Proofs.Ytjkidecaciomgaa
/- The forest: what holds of every forest that calls make. -/
namespace Go.Proofs.Ytjkidecaciomgaa
set_option linter.unusedVariables false
set_option linter.unusedSimpArgs false
set_option maxRecDepth 100000
open Go.RowKit

theorem nodeAt_setN {l : List Nd} {k : Int} {x : Nd} (h : nodeAt l k = some x) (x' : Nd) (b : Int) : nodeAt (setN l k x') b = if b = k then some x' else nodeAt l b := by
  have h1 := nodeAt_some h
  unfold nodeAt setN
  by_cases hb : 1 ≤ b
  · rw [if_pos hb, List.getElem?_set]
    by_cases e : b = k
    · subst e
      rw [if_pos rfl, if_pos rfl, if_pos (by omega)]
    · rw [if_neg (by omega), if_neg e]
      rw [if_pos hb]
  · rw [if_neg hb, if_neg hb, if_neg (by omega)]
theorem nodeAt_snoc {l : List Nd} {x : Nd} (b : Int) : nodeAt (l ++ [x]) b = if b = l.length + 1 then some x else nodeAt l b := by
  unfold nodeAt
  by_cases hb : 1 ≤ b
  · rw [if_pos hb, if_pos hb, List.getElem?_append]
    by_cases e : b = l.length + 1
    · subst e
      rw [if_pos rfl, if_neg (by omega)]
      simp
    · rw [if_neg e]
      by_cases h : (b - 1).toNat < l.length
      · rw [if_pos h]
      · rw [if_neg h, List.getElem?_eq_none (l := l) (by omega), List.getElem?_eq_none (by simp; omega)]
  · rw [if_neg hb, if_neg hb, if_neg (by omega)]
theorem nodeAt_setPar {l : List Nd} (k v b : Int) : nodeAt (setPar l k v) b = (nodeAt l b).map fun x => if b = k then { x with parent := v } else x := by
  unfold setPar
  cases h : nodeAt l k with
  | none =>
    simp only
    cases hb : nodeAt l b with
    | none => rfl
    | some x =>
      have : b ≠ k := fun e => by subst e; rw [h] at hb; cases hb
      simp [this]
  | some x =>
    simp only
    rw [nodeAt_setN h]
    by_cases e : b = k
    · subst e; rw [if_pos rfl, h]; simp
    · rw [if_neg e]
      cases nodeAt l b <;> simp [e]
theorem nodeAt_parAll (v b : Int) : ∀ (ks : List Int) (l : List Nd), nodeAt (parAll l ks v) b = (nodeAt l b).map fun x => if b ∈ ks then { x with parent := v } else x
  | [], l => by simp [parAll]
  | k :: ks, l => by
    rw [parAll, List.foldl_cons, ← parAll, nodeAt_parAll v b ks, nodeAt_setPar]
    cases nodeAt l b with
    | none => rfl
    | some x =>
      simp only [Option.map_some, List.mem_cons]
      by_cases e : b = k <;> by_cases h : b ∈ ks <;> simp [e, h]
theorem nodeAt_setKids {l : List Nd} (p : Int) (ks : List Int) (b : Int) : nodeAt (setKids l p ks) b = (nodeAt l b).map fun x => if b = p then { x with kids := ks } else x := by
  unfold setKids
  cases h : nodeAt l p with
  | none =>
    simp only
    cases hb : nodeAt l b with
    | none => rfl
    | some x =>
      have : b ≠ p := fun e => by subst e; rw [h] at hb; cases hb
      simp [this]
  | some x =>
    simp only
    rw [nodeAt_setN h]
    by_cases e : b = p
    · subst e; rw [if_pos rfl, h]; simp
    · rw [if_neg e]
      cases nodeAt l b <;> simp [e]
theorem len_setKids (l : List Nd) (p : Int) (ks : List Int) : (setKids l p ks).length = l.length := by
  unfold setKids
  split
  · exact len_setN _ _ _
  · rfl
/-- A list of nodes is what its numbers tell. -/
theorem nodes_ext {l l' : List Nd} (h : ∀ b, nodeAt l b = nodeAt l' b) : l = l' := by
  apply List.ext_getElem?
  intro i
  have := h ((i : Int) + 1)
  unfold nodeAt at this
  rw [if_pos (by omega), if_pos (by omega)] at this
  simpa using this
/-- What Put leaves. -/
def putN (p : Int) (ks : List Int) (b : Int) (x : Nd) : Nd := { x with parent := if b ∈ ks then p else if x.parent = p then 0 else x.parent, kids := if b = p then ks else x.kids }

/-- A forest as it is. -/
structure WF (l : List Nd) : Prop where
  len : l.length ≤ 128
  ups : Ups l
  par : ∀ {b x}, nodeAt l b = some x → x.parent = 0 ∨ ∃ y, nodeAt l x.parent = some y ∧ b ∈ y.kids
  kid : ∀ {p x c}, nodeAt l p = some x → c ∈ x.kids → ∃ y, nodeAt l c = some y ∧ y.parent = p
  nod : ∀ {p x}, nodeAt l p = some x → x.kids.Nodup
  host : ∀ {b x}, nodeAt l b = some x → x.host = 0 ∨ x.kind = 3 ∧ ∃ y, nodeAt l x.host = some y ∧ y.shadow = b
  shad : ∀ {b x}, nodeAt l b = some x → x.shadow = 0 ∨ x.kind = 2 ∧ ∃ y, nodeAt l x.shadow = some y ∧ y.host = b
  root : ∀ {b x}, nodeAt l b = some x → rootedB x = true → x.parent = 0
  size : ∀ {b x}, nodeAt l b = some x → x.name.size ≤ 9223372036854775807 ∧ x.want.size ≤ 9223372036854775807
theorem wf_nil : WF [] := by
  have h : ∀ b, nodeAt [] b = none := fun b => by unfold nodeAt; split <;> simp
  refine ⟨by simp, ⟨fun h' => ?_, ⟨fun _ => 0, fun b x h' => ?_⟩⟩, fun h' => ?_, fun h' => ?_, fun h' => ?_, fun h' => ?_, fun h' => ?_, fun h' => ?_, fun h' => ?_⟩ <;> (rw [h] at h'; cases h')
theorem wf_make {l : List Nd} (h : WF l) {n : Nd} (h1 : n.name.size ≤ 9223372036854775807) (h2 : n.want.size ≤ 9223372036854775807) : WF (makeM l n).1 := by
  unfold makeM
  split
  · exact h
  · split
    · exact h
    · rename_i hl
      have hz : ∀ b x, nodeAt (l ++ [fresh n]) b = some x → (b = l.length + 1 ∧ x = fresh n) ∨ (b ≠ l.length + 1 ∧ nodeAt l b = some x) := fun b x hb => by
        rw [nodeAt_snoc] at hb
        split at hb
        · rename_i e; cases hb; exact .inl ⟨e, rfl⟩
        · rename_i e; exact .inr ⟨e, hb⟩
      have hold : ∀ {b x}, nodeAt l b = some x → nodeAt (l ++ [fresh n]) b = some x := fun {b x} hb => by
        have := nodeAt_some hb
        rw [nodeAt_snoc, if_neg (by omega), hb]
      have hup : upX (fresh n) = 0 := rfl
      obtain ⟨rk, hrk⟩ := h.ups.rank
      refine ⟨by simp; omega, ⟨fun {b x} hb => ?_, ⟨rk, fun b x hb hne => ?_⟩⟩, fun {b x} hb => ?_, fun {p x c} hb hc => ?_, fun {p x} hb => ?_, fun {b x} hb => ?_, fun {b x} hb => ?_, fun {b x} hb hr => ?_, fun {b x} hb => ?_⟩
      · rcases hz b x hb with ⟨_, rfl⟩ | ⟨_, hb⟩
        · exact .inl hup
        · exact (h.ups.there hb).imp_right fun ⟨y, hy⟩ => ⟨y, hold hy⟩
      · rcases hz b x hb with ⟨_, rfl⟩ | ⟨_, hb⟩
        · exact absurd hup hne
        · exact hrk b x hb hne
      · rcases hz b x hb with ⟨_, rfl⟩ | ⟨_, hb⟩
        · exact .inl rfl
        · exact (h.par hb).imp_right fun ⟨y, hy, hm⟩ => ⟨y, hold hy, hm⟩
      · rcases hz p x hb with ⟨_, rfl⟩ | ⟨_, hb⟩
        · cases hc
        · obtain ⟨y, hy, hm⟩ := h.kid hb hc
          exact ⟨y, hold hy, hm⟩
      · rcases hz p x hb with ⟨_, rfl⟩ | ⟨_, hb⟩
        · exact List.nodup_nil
        · exact h.nod hb
      · rcases hz b x hb with ⟨_, rfl⟩ | ⟨_, hb⟩
        · exact .inl rfl
        · exact (h.host hb).imp_right fun ⟨e, y, hy, hm⟩ => ⟨e, y, hold hy, hm⟩
      · rcases hz b x hb with ⟨_, rfl⟩ | ⟨_, hb⟩
        · exact .inl rfl
        · exact (h.shad hb).imp_right fun ⟨e, y, hy, hm⟩ => ⟨e, y, hold hy, hm⟩
      · rcases hz b x hb with ⟨_, rfl⟩ | ⟨_, hb⟩
        · rfl
        · exact h.root hb hr
      · rcases hz b x hb with ⟨_, rfl⟩ | ⟨_, hb⟩
        · exact ⟨h1, h2⟩
        · exact h.size hb
/-- A forest whose nodes differ in nothing that counts. -/
theorem wf_like {l l' : List Nd} (h : WF l) (g : Int → Nd → Nd) (hl : l'.length = l.length) (hg : ∀ b, nodeAt l' b = (nodeAt l b).map (g b)) (hp : ∀ b x, (g b x).parent = x.parent ∧ (g b x).host = x.host ∧ (g b x).shadow = x.shadow ∧ (g b x).kids = x.kids ∧ (g b x).kind = x.kind) (hs : ∀ b x, nodeAt l b = some x → (g b x).name.size ≤ 9223372036854775807 ∧ (g b x).want.size ≤ 9223372036854775807) : WF l' := by
  have hz : ∀ {b x}, nodeAt l' b = some x → ∃ y, nodeAt l b = some y ∧ x = g b y := fun {b x} hb => by
    rw [hg] at hb
    cases hb' : nodeAt l b with
    | none => rw [hb'] at hb; cases hb
    | some y => rw [hb'] at hb; cases hb; exact ⟨y, rfl, rfl⟩
  have hold : ∀ {b x}, nodeAt l b = some x → nodeAt l' b = some (g b x) := fun {b x} hb => by rw [hg, hb]; rfl
  have hu : ∀ b x, upX (g b x) = upX x := fun b x => by unfold upX; rw [(hp b x).1, (hp b x).2.1]
  obtain ⟨rk, hrk⟩ := h.ups.rank
  refine ⟨by rw [hl]; exact h.len, ⟨fun {b x} hb => ?_, ⟨rk, fun b x hb hne => ?_⟩⟩, fun {b x} hb => ?_, fun {p x c} hb hc => ?_, fun {p x} hb => ?_, fun {b x} hb => ?_, fun {b x} hb => ?_, fun {b x} hb hr => ?_, fun {b x} hb => ?_⟩
  all_goals obtain ⟨y, hy, rfl⟩ := hz hb
  · rw [hu]; exact (h.ups.there hy).imp_right fun ⟨z, hz⟩ => ⟨_, hold hz⟩
  · rw [hu] at hne ⊢; exact hrk b y hy hne
  · rw [(hp b y).1]; exact (h.par hy).imp_right fun ⟨z, hz, hm⟩ => ⟨_, hold hz, by rw [(hp _ z).2.2.2.1]; exact hm⟩
  · rw [(hp p y).2.2.2.1] at hc
    obtain ⟨z, hz, hm⟩ := h.kid hy hc
    exact ⟨_, hold hz, by rw [(hp c z).1]; exact hm⟩
  · rw [(hp p y).2.2.2.1]; exact h.nod hy
  · rw [(hp b y).2.1, (hp b y).2.2.2.2]; exact (h.host hy).imp_right fun ⟨e, z, hz, hm⟩ => ⟨e, _, hold hz, by rw [(hp _ z).2.2.1]; exact hm⟩
  · rw [(hp b y).2.2.1, (hp b y).2.2.2.2]; exact (h.shad hy).imp_right fun ⟨e, z, hz, hm⟩ => ⟨e, _, hold hz, by rw [(hp _ z).2.1]; exact hm⟩
  · rw [(hp b y).1]
    refine h.root hy ?_
    unfold rootedB at hr ⊢
    rwa [(hp b y).2.2.2.2] at hr
  · exact hs b y hy
theorem wf_name {l : List Nd} (h : WF l) (id : Int) {s : ByteArray} (hs : s.size ≤ 9223372036854775807) : WF (nameM l id s).1 := by
  unfold nameM
  cases hx : nodeAt l id with
  | none => exact h
  | some x =>
    simp only
    split
    · exact h
    · split
      · exact h
      · refine wf_like h (fun b y => if b = id then { y with name := s } else y) (len_setN _ _ _) (fun b => ?_) (fun b y => by split <;> simp) fun b y hy => ?_
        · rw [nodeAt_setN hx]
          by_cases e : b = id
          · subst e; rw [if_pos rfl, hx]; simp
          · rw [if_neg e]; cases nodeAt l b <;> simp [e]
        · have := h.size hy
          split
          · exact ⟨hs, this.2⟩
          · exact this
theorem wf_want {l : List Nd} (h : WF l) (id : Int) {s : ByteArray} (hs : s.size ≤ 9223372036854775807) : WF (wantM l id s).1 := by
  unfold wantM
  cases hx : nodeAt l id with
  | none => exact h
  | some x =>
    simp only
    split
    · exact h
    · split
      · exact h
      · refine wf_like h (fun b y => if b = id then { y with want := s } else y) (len_setN _ _ _) (fun b => ?_) (fun b y => by split <;> simp) fun b y hy => ?_
        · rw [nodeAt_setN hx]
          by_cases e : b = id
          · subst e; rw [if_pos rfl, hx]; simp
          · rw [if_neg e]; cases nodeAt l b <;> simp [e]
        · have := h.size hy
          split
          · exact ⟨this.1, hs⟩
          · exact this
end Go.Proofs.Ytjkidecaciomgaa
/- The forest: Tie and Put leave it as it should be. -/
namespace Go.Proofs.Ytjkidecaciomgaa
set_option linter.unusedVariables false
set_option linter.unusedSimpArgs false
set_option maxRecDepth 100000
open Go.RowKit

theorem nodeAt_zero' {l : List Nd} {x : Nd} (h : nodeAt l 0 = some x) : False := by rw [nodeAt_zero] at h; cases h
theorem abv_self {l : List Nd} {b : Int} {x : Nd} (h : nodeAt l b = some x) : Abv l b b := .here h rfl
theorem wf_tie {l : List Nd} (h : WF l) (host root : Int) : WF (tieM l host root).1 := by
  unfold tieM
  split
  · rename_i hx r eh er
    split
    · exact h
    · split
      · exact h
      · split
        · exact h
        · rename_i k1 k2 k3
          simp only [not_or, Decidable.not_not] at k1 k2
          have k3' : ¬ Abv l root host := fun h => k3 (aboveB_true.2 h)
          have hne : host ≠ root := fun e => by subst e; rw [eh] at er; cases er; omega
          have hh1 := nodeAt_some eh
          have hr1 := nodeAt_some er
          let G : Int → Nd → Nd := fun b x => { x with shadow := if b = host then root else x.shadow, host := if b = root then host else x.host }
          have er' : nodeAt (setN l host { hx with shadow := root }) root = some r := by rw [nodeAt_setN eh, if_neg (Ne.symm hne)]; exact er
          have hg : ∀ b, nodeAt (setN (setN l host { hx with shadow := root }) root { r with host := host }) b = (nodeAt l b).map (G b) := fun b => by
            rw [nodeAt_setN er', nodeAt_setN eh]
            by_cases e1 : b = root
            · subst e1
              rw [if_pos rfl, er]
              simp [G, Ne.symm hne]
            · rw [if_neg e1]
              by_cases e2 : b = host
              · subst e2
                rw [if_pos rfl, eh]
                simp [G, hne]
              · rw [if_neg e2]
                cases nodeAt l b <;> simp [G, e1, e2]
          generalize hl' : setN (setN l host { hx with shadow := root }) root { r with host := host } = l' at hg ⊢
          have hlen : l'.length = l.length := by rw [← hl', len_setN, len_setN]
          clear hl' er'
          have hz : ∀ {b x}, nodeAt l' b = some x → ∃ y, nodeAt l b = some y ∧ x = G b y := fun {b x} hb => by
            rw [hg] at hb
            cases hb' : nodeAt l b with
            | none => rw [hb'] at hb; cases hb
            | some y => rw [hb'] at hb; cases hb; exact ⟨y, rfl, rfl⟩
          have hold : ∀ {b x}, nodeAt l b = some x → nodeAt l' b = some (G b x) := fun {b x} hb => by rw [hg, hb]; rfl
          have hroot0 : r.parent = 0 := h.root er (by simp [rootedB, k1.2])
          have hup : ∀ b y, nodeAt l b = some y → b ≠ root → upX (G b y) = upX y := fun b y hy e => by simp [upX, G, e]
          have hupr : upX (G root r) = host := by simp [upX, G, hroot0]
          obtain ⟨rk, hrk⟩ := h.ups.rank
          refine ⟨by rw [hlen]; exact h.len, ⟨fun {b x} hb => ?_, ⟨fun b => rk b + (open Classical in if Abv l root b then rk host + 1 else 0), fun b x hb hn => ?_⟩⟩, fun {b x} hb => ?_, fun {p x c} hb hc => ?_, fun {p x} hb => ?_, fun {b x} hb => ?_, fun {b x} hb => ?_, fun {b x} hb hr => ?_, fun {b x} hb => ?_⟩
          all_goals obtain ⟨y, hy, rfl⟩ := hz hb
          · by_cases e : b = root
            · subst e
              rw [er] at hy
              cases hy
              rw [hupr]
              exact .inr ⟨_, hold eh⟩
            · rw [hup b y hy e]
              exact (h.ups.there hy).imp_right fun ⟨z, hz⟩ => ⟨_, hold hz⟩
          · by_cases e : b = root
            · subst e
              rw [er] at hy
              cases hy
              rw [hupr]
              simp only
              rw [if_neg k3', if_pos (abv_self er)]
              omega
            · rw [hup b y hy e] at hn ⊢
              have h1 := hrk b y hy hn
              simp only
              by_cases ha : Abv l root (upX y)
              · rw [if_pos ha, if_pos (Abv.up hy ha)]
                omega
              · rw [if_neg ha]
                omega
          · exact (h.par hy).imp_right fun ⟨z, hz, hm⟩ => ⟨_, hold hz, hm⟩
          · obtain ⟨z, hz, hm⟩ := h.kid hy hc
            exact ⟨_, hold hz, hm⟩
          · have h0 := h.nod hy
            exact h0
          · by_cases e : b = root
            · subst e
              rw [er] at hy
              cases hy
              refine .inr ⟨k1.2, G host hx, ?_, ?_⟩
              · have e3 : (G b r).host = host := by simp [G]
                rw [e3]
                exact hold eh
              · simp [G]
            · rcases h.host hy with h0 | ⟨h1, z, hz, hm⟩
              · exact .inl (by simp [G, e, h0])
              · refine .inr ⟨h1, G y.host z, ?_, ?_⟩
                · have e3 : (G b y).host = y.host := by simp [G, e]
                  rw [e3]
                  exact hold hz
                · have : y.host ≠ host := fun e' => by
                    rw [e', eh] at hz
                    cases hz
                    have := nodeAt_some hy
                    omega
                  simp [G, this, hm]
          · by_cases e : b = host
            · subst e
              rw [eh] at hy
              cases hy
              refine .inr ⟨k1.1, G root r, ?_, ?_⟩
              · have e3 : (G b hx).shadow = root := by simp [G]
                rw [e3]
                exact hold er
              · simp [G]
            · rcases h.shad hy with h0 | ⟨h1, z, hz, hm⟩
              · exact .inl (by simp [G, e, h0])
              · refine .inr ⟨h1, G y.shadow z, ?_, ?_⟩
                · have e3 : (G b y).shadow = y.shadow := by simp [G, e]
                  rw [e3]
                  exact hold hz
                · have : y.shadow ≠ root := fun e' => by
                    rw [e', er] at hz
                    cases hz
                    have := nodeAt_some hy
                    omega
                  simp [G, this, hm]
          · have h0 := h.root hy hr
            exact h0
          · have h0 := h.size hy
            exact h0
  · exact h
theorem nodup_of_take {ks : List Int} (h : ∀ i, i < ks.length → ks.getD i 0 ∉ ks.take i) : ks.Nodup := by
  rw [List.Nodup, List.pairwise_iff_getElem]
  intro i j hi hj hij e
  have h1 := h j hj
  rw [List.getD_eq_getElem?_getD, List.getElem?_eq_getElem hj] at h1
  refine h1 ?_
  rw [Option.getD_some, List.mem_iff_getElem?]
  exact ⟨i, by rw [List.getElem?_take, if_pos hij, List.getElem?_eq_getElem (by omega), e]⟩
theorem putOk_spec {l : List Nd} {p k : Int} (h : putOk l p k = true) : ∃ x, nodeAt l k = some x ∧ rootedB x = false ∧ ¬ Abv l k p ∧ (x.parent = 0 ∨ x.parent = p) := by
  unfold putOk at h
  cases hx : nodeAt l k with
  | none => rw [hx] at h; cases h
  | some x =>
    rw [hx] at h
    simp only [Bool.and_eq_true, Bool.not_eq_true', Bool.or_eq_true, beq_iff_eq] at h
    exact ⟨x, rfl, h.1, fun ha => by rw [aboveB_true.2 ha] at h; exact absurd h.2.1 (by simp), h.2.2⟩
theorem put_nodes {l : List Nd} (h : WF l) {p : Int} {px : Nd} (hp : nodeAt l p = some px) (ks : List Int) (b : Int) : nodeAt (setKids (parAll (parAll l px.kids 0) ks p) p ks) b = (nodeAt l b).map (putN p ks b) := by
  rw [nodeAt_setKids, nodeAt_parAll, nodeAt_parAll]
  cases hb : nodeAt l b with
  | none => rfl
  | some x =>
    have hk : b ∈ px.kids ↔ x.parent = p := by
      constructor
      · intro hm
        obtain ⟨y, hy, e⟩ := h.kid hp hm
        rw [hb] at hy
        cases hy
        exact e
      · intro e
        have hp1 := nodeAt_some hp
        rcases h.par hb with h0 | ⟨y, hy, hm⟩
        · omega
        · rw [e, hp] at hy
          cases hy
          exact hm
    have hk2 : (if b ∈ px.kids then { x with parent := 0 } else x) = { x with parent := if x.parent = p then 0 else x.parent } := by
      by_cases e : x.parent = p
      · rw [if_pos (hk.2 e), if_pos e]
      · rw [if_neg fun h => e (hk.1 h), if_neg e]
    simp only [Option.map_some, putN, hk2]
    by_cases e1 : b ∈ ks
    · simp only [if_pos e1]
      by_cases e3 : b = p
      · simp only [if_pos e3]
      · simp only [if_neg e3]
    · simp only [if_neg e1]
      by_cases e3 : b = p
      · simp only [if_pos e3]
      · simp only [if_neg e3]
theorem wf_put {l : List Nd} (h : WF l) (p : Int) (ks : List Int) : WF (putM l p ks).1 := by
  unfold putM
  cases hp : nodeAt l p with
  | none => exact h
  | some px =>
    simp only
    split
    · exact h
    · split
      · exact h
      · rename_i k1 k2
        simp only [Bool.not_eq_false, List.all_eq_true, List.mem_range] at k1 k2
        have hnd : ks.Nodup := nodup_of_take fun i hi => by
          have := k1 i hi
          simp only [argOk, Bool.and_eq_true, Bool.not_eq_true', decide_eq_false_iff_not] at this
          exact this.2
        have hks : ∀ k, k ∈ ks → ∃ x, nodeAt l k = some x ∧ rootedB x = false ∧ ¬ Abv l k p ∧ (x.parent = 0 ∨ x.parent = p) := fun k hk => putOk_spec (k2 k hk)
        have hp1 := nodeAt_some hp
        have hg := put_nodes h hp ks
        generalize hl' : setKids (parAll (parAll l px.kids 0) ks p) p ks = l' at hg ⊢
        have hlen : l'.length = l.length := by rw [← hl', len_setKids, len_parAll, len_parAll]
        clear hl' k1 k2
        have hz : ∀ {b x}, nodeAt l' b = some x → ∃ y, nodeAt l b = some y ∧ x = putN p ks b y := fun {b x} hb => by
          rw [hg] at hb
          cases hb' : nodeAt l b with
          | none => rw [hb'] at hb; cases hb
          | some y => rw [hb'] at hb; cases hb; exact ⟨y, rfl, rfl⟩
        have hold : ∀ {b x}, nodeAt l b = some x → nodeAt l' b = some (putN p ks b x) := fun {b x} hb => by rw [hg, hb]; rfl
        have hupk : ∀ b y, b ∈ ks → upX (putN p ks b y) = p := fun b y e => by simp [upX, putN, e]; omega
        have hupp : ∀ b y, nodeAt l b = some y → b ∉ ks → y.parent = p → upX (putN p ks b y) = 0 := fun b y hy e e2 => by
          have : y.host = 0 := (h.host hy).resolve_right fun ⟨h3, _⟩ => by
            have := h.root hy (by simp [rootedB, h3])
            omega
          simp [upX, putN, e, e2, this]
        have hupo : ∀ b y, b ∉ ks → y.parent ≠ p → upX (putN p ks b y) = upX y := fun b y e e2 => by simp [upX, putN, e, e2]
        obtain ⟨rk, hrk⟩ := h.ups.rank
        refine ⟨by rw [hlen]; exact h.len, ⟨fun {b x} hb => ?_, ⟨fun b => rk b + (open Classical in if ∃ k, k ∈ ks ∧ Abv l k b then rk p + 1 else 0), fun b x hb hn => ?_⟩⟩, fun {b x} hb => ?_, fun {q x c} hb hc => ?_, fun {q x} hb => ?_, fun {b x} hb => ?_, fun {b x} hb => ?_, fun {b x} hb hr => ?_, fun {b x} hb => ?_⟩
        all_goals obtain ⟨y, hy, rfl⟩ := hz hb
        · by_cases e : b ∈ ks
          · rw [hupk b y e]
            exact .inr ⟨_, hold hp⟩
          · by_cases e2 : y.parent = p
            · exact .inl (hupp b y hy e e2)
            · rw [hupo b y e e2]
              exact (h.ups.there hy).imp_right fun ⟨z, hz⟩ => ⟨_, hold hz⟩
        · by_cases e : b ∈ ks
          · rw [hupk b y e]
            simp only
            rw [if_neg, if_pos ⟨b, e, abv_self hy⟩]
            · omega
            · rintro ⟨k, hk, ha⟩
              obtain ⟨_, _, _, h3, _⟩ := hks k hk
              exact h3 ha
          · by_cases e2 : y.parent = p
            · exact absurd (hupp b y hy e e2) hn
            · rw [hupo b y e e2] at hn ⊢
              have h1 := hrk b y hy hn
              simp only
              by_cases ha : ∃ k, k ∈ ks ∧ Abv l k (upX y)
              · obtain ⟨k, hk, ha⟩ := ha
                rw [if_pos ⟨k, hk, ha⟩, if_pos ⟨k, hk, Abv.up hy ha⟩]
                omega
              · rw [if_neg ha]
                omega
        · by_cases e : b ∈ ks
          · refine .inr ⟨putN p ks p px, ?_, ?_⟩
            · have e3 : (putN p ks b y).parent = p := by simp [putN, e]
              rw [e3]
              exact hold hp
            · simp [putN, e]
          · by_cases e2 : y.parent = p
            · exact .inl (by simp [putN, e, e2])
            · rcases h.par hy with h0 | ⟨z, hz, hm⟩
              · exact .inl (by simp [putN, e, e2, h0])
              · refine .inr ⟨putN p ks y.parent z, ?_, ?_⟩
                · have e3 : (putN p ks b y).parent = y.parent := by simp [putN, e, e2]
                  rw [e3]
                  exact hold hz
                · simp [putN, e2, hm]
        · by_cases e : q = p
          · have hc' : c ∈ ks := by simpa [putN, e] using hc
            obtain ⟨z, hz, _⟩ := hks c hc'
            exact ⟨_, hold hz, by simp [putN, hc', e]⟩
          · have hc' : c ∈ y.kids := by simpa [putN, e] using hc
            obtain ⟨z, hz, hm⟩ := h.kid hy hc'
            have hq := nodeAt_some hy
            have hnk : c ∉ ks := fun hk => by
              obtain ⟨z', hz', _, _, h4⟩ := hks c hk
              rw [hz] at hz'
              cases hz'
              rcases h4 with h4 | h4 <;> omega
            exact ⟨_, hold hz, by simp [putN, hnk, hm, e]⟩
        · by_cases e : q = p
          · simp only [putN, if_pos e]; exact hnd
          · simp only [putN, if_neg e]; exact h.nod hy
        · exact (h.host hy).imp_right fun ⟨e, z, hz, hm⟩ => ⟨e, _, hold hz, hm⟩
        · exact (h.shad hy).imp_right fun ⟨e, z, hz, hm⟩ => ⟨e, _, hold hz, hm⟩
        · have hr' : rootedB y = true := hr
          have h0 := h.root hy hr'
          have hnk : b ∉ ks := fun hk => by
            obtain ⟨z', hz', h2, _, _⟩ := hks b hk
            rw [hy] at hz'
            cases hz'
            rw [hr'] at h2
            cases h2
          simp only [putN, if_neg hnk, h0]
          split <;> rfl
        · have h0 := h.size hy
          exact h0
end Go.Proofs.Ytjkidecaciomgaa
/- Forests that calls make: law 05's. -/
namespace Go.Proofs.Ytjkidecaciomgaa
set_option linter.unusedVariables false
set_option linter.unusedSimpArgs false
set_option maxRecDepth 100000
open Go.RowKit

structure Ac where
  kind : Int
  a : Int
  b : Int
  s : ByteArray
  n : Nd
  l : List Int
def acE : Enc Ac where
  sz := 14
  f := fun x => [.v (.int .i64 x.kind), .v (.int .i64 x.a), .v (.int .i64 x.b), .v (.string x.s), .v (.int .i64 x.n.kind), .v (.int .i64 x.n.parent), .v (.int .i64 x.n.host), .v (.int .i64 x.n.shadow), .v (.int .i64 x.n.mode), .v (.bool x.n.slot), .v (.string x.n.name), .v (.string x.n.want), .sem (listS intE x.n.kids), .sem (listS intE x.l)]
  len := fun _ => rfl
  leaf := fun _ => rfl
/-- What a call makes of the nodes. -/
noncomputable def actM (l : List Nd) (x : Ac) : List Nd :=
  if x.kind = 0 then (makeM l x.n).1
  else if x.kind = 1 then (putM l x.a x.l).1
  else if x.kind = 2 then (tieM l x.a x.b).1
  else if x.kind = 3 then (nameM l x.a x.s).1
  else if x.kind = 4 then (wantM l x.a x.s).1
  else l
noncomputable def nodesM (xs : List Ac) : List Nd := xs.foldl actM []
/-- Calls that are looked at. -/
structure AcOk (x : Ac) : Prop where
  s : x.s.size ≤ 9223372036854775807
  name : x.n.name.size ≤ 9223372036854775807
  want : x.n.want.size ≤ 9223372036854775807
  l : x.l.length ≤ 1000000
theorem wf_act {l : List Nd} (h : WF l) {x : Ac} (hx : AcOk x) : WF (actM l x) := by
  unfold actM
  repeat' split
  · exact wf_make h hx.name hx.want
  · exact wf_put h _ _
  · exact wf_tie h _ _
  · exact wf_name h _ hx.s
  · exact wf_want h _ hx.s
  · exact h
theorem wf_nodes {xs : List Ac} (hx : ∀ x ∈ xs, AcOk x) : WF (nodesM xs) := by
  have : ∀ (xs : List Ac) (l : List Nd), WF l → (∀ x ∈ xs, AcOk x) → WF (xs.foldl actM l) := by
    intro xs
    induction xs with
    | nil => intro l h _; exact h
    | cons x xs ih => intro l h hx; exact ih _ (wf_act h (hx x (by simp))) fun y hy => hx y (by simp [hy])
  exact this xs [] wf_nil hx
theorem nodup_len : ∀ (n : Nat) (ks : List Int), ks.Nodup → (∀ c ∈ ks, 1 ≤ c ∧ c ≤ (n : Int)) → ks.length ≤ n
  | 0, ks, _, h => by
    cases ks with
    | nil => simp
    | cons c ks => have := h c (by simp); omega
  | n + 1, ks, hn, h => by
    by_cases hm : ((n : Int) + 1) ∈ ks
    · have h1 := nodup_len n (ks.erase ((n : Int) + 1)) (hn.erase _) fun c hc => by
        have hc' := (hn.mem_erase_iff).1 hc
        have := h c hc'.2
        have := hc'.1
        omega
      rw [List.length_erase_of_mem hm] at h1
      omega
    · have := nodup_len n ks hn fun c hc => by
        have h2 := h c hc
        have : c ≠ (n : Int) + 1 := fun e => hm (e ▸ hc)
        omega
      omega
theorem kids_ok {l : List Nd} (h : WF l) (p : Int) : ∀ x, nodeAt l p = some x → x.kids.length ≤ 1000000 ∧ ∀ c ∈ x.kids, (nodeAt l c).isSome = true := fun x hx => by
  have hc : ∀ c ∈ x.kids, (nodeAt l c).isSome = true := fun c hc => by
    obtain ⟨y, hy, _⟩ := h.kid hx hc
    rw [hy]; rfl
  refine ⟨?_, hc⟩
  have h1 := nodup_len l.length x.kids (h.nod hx) fun c hm => nodeAt_isSome.1 (hc c hm)
  have := h.len
  omega
theorem new_f : Fun Try.prog 34 [] [] (.ptr 0 0) (forR 1 []) := by
  refine fun_intro 3 Try.func34 rfl rfl rfl (fun ι F S w => ?_)
  (repeat (first | (apply v_assign; exact rfl; exact rfl) | refine run_seq ?_ | refine run_region ?_ | refine runL_nil ?_ | (apply v_boxD; exact rfl; exact rfl; exact rfl; exact rfl; exact rfl; exact rfl; exact rfl) | (apply v_b; exact plA rfl; exact tyA rfl; exact rfl; exact rfl; exact rfl)))
  refine run_ownB 2 0 50 33 nodeE rfl rfl rfl rfl rfl rfl rfl ?_
  exact run_ret (mp [(0, 2), (1, 50)]) _ Try.func34 ⟨_, _, rfl, rfl, rfl⟩ rfl trivial ⟨rfl, rfl, trivial⟩ rfl
theorem nodes_take {xs : List Ac} {i : Nat} (h : i < xs.length) : nodesM (xs.take (i + 1)) = actM (nodesM (xs.take i)) xs[i] := by
  rw [List.take_add_one, List.getElem?_eq_getElem h, nodesM, nodesM, List.foldl_append]
  rfl
set_option maxHeartbeats 4000000 in
theorem made5 {xs : List Ac} (hl : xs.length ≤ 300) (hx : ∀ x ∈ xs, AcOk x) : Fun Try.prog 52 [.sem (listS acE xs)] [] (forA (nodesM xs)) [] := by
  refine fun_intro 62 Try.func52 rfl rfl rfl (fun ι F S w => ?_)
  (repeat (first | (apply v_assign; exact rfl; exact rfl) | refine run_seq ?_ | refine run_region ?_ | refine runL_nil ?_))
  refine v_cR (mp [(0, 100), (1, 101)]) new_f rfl (cbA rfl) trivial rfl rfl rfl rfl rfl rfl rfl rfl rfl ?_
  (repeat (first | (apply v_assign; exact rfl; exact rfl) | refine run_seq ?_ | refine run_region ?_ | refine runL_nil ?_ | refine run_block ?_))
  refine v_loop (fun i : Nat => ⟨[(0, .sem (listS acE xs)), (3, .ptr 100 0), (4, .v (.int .i64 i))], [(100, .box 53 [.res 101]), (101, .obj (ownS 33 nodeE (nodesM (xs.take i))))]⟩) (fun i => i ≤ xs.length) (fun i => xs.length - i) 0 idN trivial (by repeat (first | exact trivial | refine ⟨rfl, ?_⟩)) (by repeat (first | exact trivial | refine ⟨rfl, ?_⟩)) rfl (by omega) fun i hi ih => ?_
  have hw : WF (nodesM (xs.take i)) := wf_nodes fun x h => hx x (List.mem_of_mem_take h)
  by_cases hlt : i < xs.length
  · have hx2 : xs[((i : Int)).toNat]? = some xs[i] := by simp [hlt]
    have hok := hx _ (List.getElem_mem hlt)
    have hlen := hw.len
    (repeat (first | (apply v_move; exact rfl; exact rfl) | refine run_seq ?_ | refine run_region ?_ | (apply v_lss; exact rfl; exact rfl; exact rfl) | (apply v_lenL; exact slA rfl; exact rfl; exact rfl)))
    refine v_is 11 true rfl (by simpa using hlt) ?_
    (repeat (first | (apply v_move; exact rfl; exact rfl) | refine runL_nil ?_ | (apply v_on; exact rfl) | (apply v_pick_t; exact rfl; exact rfl; exact rfl) | (apply v_lss; exact rfl; exact rfl; exact rfl)))
    refine run_condY rfl (by simp; omega) ?_
    (repeat (first | (apply v_idxL; exact slA rfl; exact tyA rfl; exact rfl; exact rfl; exact rfl; exact rfl; exact (by omega); (first | exact hx2); exact rfl) | (apply v_move; exact rfl; exact rfl) | (apply v_assign; exact rfl; exact rfl) | refine run_seq ?_ | refine run_region ?_ | refine runL_nil ?_ | refine run_skip ?_ | refine run_block ?_ | (apply v_fldP; exact flA rfl; exact rfl; exact rfl; exact rfl) | (apply v_loadB; exact tyA rfl; exact rfl; exact rfl; exact rfl; exact rfl; exact rfl; exact rfl) | (apply v_loadA; exact tyA rfl; exact rfl; exact rfl; exact rfl; exact rfl; exact rfl; exact rfl) | (apply v_eql; exact rfl; exact rfl; exact rfl) | (apply v_allocD; exact tyA rfl; exact rfl; exact rfl; exact rfl; exact rfl) | (apply v_storeW; exact tyA rfl; exact rfl; exact rfl; exact rfl; exact rfl; exact rfl; exact rfl; exact rfl)))
    refine run_cond rfl (fun h => ?_) (fun h => ?_)
    · have hk : xs[i].kind = 0 := by simpa using h
      have hstep : nodesM (xs.take (i + 1)) = (makeM (nodesM (xs.take i)) xs[i].n).1 := by rw [nodes_take hlt, actM]; rw [if_pos hk]
      (repeat (first | (apply v_move; exact rfl; exact rfl) | refine run_region ?_ | (apply v_fldP; exact flA rfl; exact rfl; exact rfl; exact rfl) | (apply v_loadB; exact tyA rfl; exact rfl; exact rfl; exact rfl; exact rfl; exact rfl; exact rfl)))
      refine v_cR (mp [(0, 100), (1, 101), (2, 102)]) (make_f hok.name hok.want hlen) rfl (cbA rfl) ⟨rfl, rfl, trivial⟩ (by kernel_rfl) (by kernel_rfl) (by kernel_rfl) (by kernel_rfl) (by kernel_rfl) (by kernel_rfl) (by kernel_rfl) (by kernel_rfl) rfl ?_
      (repeat (first | (apply v_move; exact rfl; exact rfl) | (apply v_assign; exact rfl; exact rfl) | refine run_region ?_ | refine runL_nil ?_ | refine run_inBlock ?_ | (apply v_add; exact rfl; exact rfl; exact rfl; exact (by omega))))
      exact v_again ih (i + 1) (mp [(101, 102)]) trivial (by repeat (first | exact trivial | refine ⟨rfl, ?_⟩)) ⟨rfl, by rw [hstep]; rfl, trivial⟩ rfl (by omega) (by omega)
    have hk0 : ¬ xs[i].kind = 0 := by simpa using h
    clear h
    (repeat (first | (apply v_assign; exact rfl; exact rfl) | refine run_seq ?_ | refine run_region ?_ | refine runL_nil ?_ | (apply v_eql; exact rfl; exact rfl; exact rfl)))
    refine run_cond rfl (fun h => ?_) (fun h => ?_)
    · have hk : xs[i].kind = 1 := by simpa using h
      have hstep : nodesM (xs.take (i + 1)) = (putM (nodesM (xs.take i)) xs[i].a xs[i].l).1 := by rw [nodes_take hlt, actM]; rw [if_neg (show ¬ xs[i].kind = 0 by omega)]; rw [if_pos hk]
      (repeat (first | (apply v_move; exact rfl; exact rfl) | refine run_region ?_ | (apply v_fldP; exact flA rfl; exact rfl; exact rfl; exact rfl) | (apply v_loadB; exact tyA rfl; exact rfl; exact rfl; exact rfl; exact rfl; exact rfl; exact rfl)))
      refine v_cR (mp [(0, 100), (1, 101), (2, 102)]) (put_f hw.ups xs[i].a xs[i].l (by omega) hok.l (kids_ok hw _)) rfl (cbA rfl) ⟨rfl, rfl, trivial⟩ (by kernel_rfl) (by kernel_rfl) (by kernel_rfl) (by kernel_rfl) (by kernel_rfl) (by kernel_rfl) (by kernel_rfl) (by kernel_rfl) rfl ?_
      (repeat (first | (apply v_move; exact rfl; exact rfl) | (apply v_assign; exact rfl; exact rfl) | refine run_region ?_ | refine runL_nil ?_ | refine run_inBlock ?_ | (apply v_add; exact rfl; exact rfl; exact rfl; exact (by omega))))
      exact v_again ih (i + 1) (mp [(101, 102)]) trivial (by repeat (first | exact trivial | refine ⟨rfl, ?_⟩)) ⟨rfl, by rw [hstep]; rfl, trivial⟩ rfl (by omega) (by omega)
    have hk1 : ¬ xs[i].kind = 1 := by simpa using h
    clear h
    (repeat (first | (apply v_assign; exact rfl; exact rfl) | refine run_seq ?_ | refine run_region ?_ | refine runL_nil ?_ | (apply v_eql; exact rfl; exact rfl; exact rfl)))
    refine run_cond rfl (fun h => ?_) (fun h => ?_)
    · have hk : xs[i].kind = 2 := by simpa using h
      have hstep : nodesM (xs.take (i + 1)) = (tieM (nodesM (xs.take i)) xs[i].a xs[i].b).1 := by rw [nodes_take hlt, actM]; rw [if_neg (show ¬ xs[i].kind = 0 by omega)]; rw [if_neg (show ¬ xs[i].kind = 1 by omega)]; rw [if_pos hk]
      (repeat (first | (apply v_move; exact rfl; exact rfl) | refine run_region ?_ | (apply v_fldP; exact flA rfl; exact rfl; exact rfl; exact rfl) | (apply v_loadB; exact tyA rfl; exact rfl; exact rfl; exact rfl; exact rfl; exact rfl; exact rfl)))
      refine v_cR (mp [(0, 100), (1, 101), (2, 102)]) (tie_f hw.ups xs[i].a xs[i].b (by omega)) rfl (cbA rfl) ⟨rfl, rfl, trivial⟩ (by kernel_rfl) (by kernel_rfl) (by kernel_rfl) (by kernel_rfl) (by kernel_rfl) (by kernel_rfl) (by kernel_rfl) (by kernel_rfl) rfl ?_
      (repeat (first | (apply v_move; exact rfl; exact rfl) | (apply v_assign; exact rfl; exact rfl) | refine run_region ?_ | refine runL_nil ?_ | refine run_inBlock ?_ | (apply v_add; exact rfl; exact rfl; exact rfl; exact (by omega))))
      exact v_again ih (i + 1) (mp [(101, 102)]) trivial (by repeat (first | exact trivial | refine ⟨rfl, ?_⟩)) ⟨rfl, by rw [hstep]; rfl, trivial⟩ rfl (by omega) (by omega)
    have hk2 : ¬ xs[i].kind = 2 := by simpa using h
    clear h
    (repeat (first | (apply v_assign; exact rfl; exact rfl) | refine run_seq ?_ | refine run_region ?_ | refine runL_nil ?_ | (apply v_eql; exact rfl; exact rfl; exact rfl)))
    refine run_cond rfl (fun h => ?_) (fun h => ?_)
    · have hk : xs[i].kind = 3 := by simpa using h
      have hstep : nodesM (xs.take (i + 1)) = (nameM (nodesM (xs.take i)) xs[i].a xs[i].s).1 := by rw [nodes_take hlt, actM]; rw [if_neg (show ¬ xs[i].kind = 0 by omega)]; rw [if_neg (show ¬ xs[i].kind = 1 by omega)]; rw [if_neg (show ¬ xs[i].kind = 2 by omega)]; rw [if_pos hk]
      (repeat (first | (apply v_move; exact rfl; exact rfl) | refine run_region ?_ | (apply v_fldP; exact flA rfl; exact rfl; exact rfl; exact rfl) | (apply v_loadB; exact tyA rfl; exact rfl; exact rfl; exact rfl; exact rfl; exact rfl; exact rfl)))
      refine v_cR (mp [(0, 100), (1, 101), (2, 102)]) (name_f xs[i].a hok.s (by omega)) rfl (cbA rfl) ⟨rfl, rfl, trivial⟩ (by kernel_rfl) (by kernel_rfl) (by kernel_rfl) (by kernel_rfl) (by kernel_rfl) (by kernel_rfl) (by kernel_rfl) (by kernel_rfl) rfl ?_
      (repeat (first | (apply v_move; exact rfl; exact rfl) | (apply v_assign; exact rfl; exact rfl) | refine run_region ?_ | refine runL_nil ?_ | refine run_inBlock ?_ | (apply v_add; exact rfl; exact rfl; exact rfl; exact (by omega))))
      exact v_again ih (i + 1) (mp [(101, 102)]) trivial (by repeat (first | exact trivial | refine ⟨rfl, ?_⟩)) ⟨rfl, by rw [hstep]; rfl, trivial⟩ rfl (by omega) (by omega)
    have hk3 : ¬ xs[i].kind = 3 := by simpa using h
    clear h
    (repeat (first | (apply v_assign; exact rfl; exact rfl) | refine run_seq ?_ | refine run_region ?_ | refine runL_nil ?_ | (apply v_eql; exact rfl; exact rfl; exact rfl)))
    refine run_cond rfl (fun h => ?_) (fun h => ?_)
    · have hk : xs[i].kind = 4 := by simpa using h
      have hstep : nodesM (xs.take (i + 1)) = (wantM (nodesM (xs.take i)) xs[i].a xs[i].s).1 := by rw [nodes_take hlt, actM]; rw [if_neg (show ¬ xs[i].kind = 0 by omega)]; rw [if_neg (show ¬ xs[i].kind = 1 by omega)]; rw [if_neg (show ¬ xs[i].kind = 2 by omega)]; rw [if_neg (show ¬ xs[i].kind = 3 by omega)]; rw [if_pos hk]
      (repeat (first | (apply v_move; exact rfl; exact rfl) | refine run_region ?_ | (apply v_fldP; exact flA rfl; exact rfl; exact rfl; exact rfl) | (apply v_loadB; exact tyA rfl; exact rfl; exact rfl; exact rfl; exact rfl; exact rfl; exact rfl)))
      refine v_cR (mp [(0, 100), (1, 101), (2, 102)]) (want_f xs[i].a hok.s (by omega)) rfl (cbA rfl) ⟨rfl, rfl, trivial⟩ (by kernel_rfl) (by kernel_rfl) (by kernel_rfl) (by kernel_rfl) (by kernel_rfl) (by kernel_rfl) (by kernel_rfl) (by kernel_rfl) rfl ?_
      (repeat (first | (apply v_move; exact rfl; exact rfl) | (apply v_assign; exact rfl; exact rfl) | refine run_region ?_ | refine runL_nil ?_ | refine run_inBlock ?_ | (apply v_add; exact rfl; exact rfl; exact rfl; exact (by omega))))
      exact v_again ih (i + 1) (mp [(101, 102)]) trivial (by repeat (first | exact trivial | refine ⟨rfl, ?_⟩)) ⟨rfl, by rw [hstep]; rfl, trivial⟩ rfl (by omega) (by omega)
    have hk4 : ¬ xs[i].kind = 4 := by simpa using h
    clear h
    (repeat (first | (apply v_move; exact rfl; exact rfl) | (apply v_assign; exact rfl; exact rfl) | refine run_region ?_ | refine runL_nil ?_ | refine run_skip ?_ | refine run_inBlock ?_ | (apply v_add; exact rfl; exact rfl; exact rfl; exact (by omega))))
    have hstep : nodesM (xs.take (i + 1)) = nodesM (xs.take i) := by rw [nodes_take hlt, actM, if_neg hk0, if_neg hk1, if_neg hk2, if_neg hk3, if_neg hk4]
    exact v_again ih (i + 1) idN trivial (by repeat (first | exact trivial | refine ⟨rfl, ?_⟩)) ⟨rfl, by rw [hstep]; rfl, trivial⟩ rfl (by omega) (by omega)
  · have hge : i = xs.length := by omega
    (repeat (first | (apply v_move; exact rfl; exact rfl) | refine run_seq ?_ | refine run_region ?_ | (apply v_lss; exact rfl; exact rfl; exact rfl) | (apply v_lenL; exact slA rfl; exact rfl; exact rfl)))
    refine v_is 11 false rfl (by simpa using hlt) ?_
    (repeat (first | (apply v_move; exact rfl; exact rfl) | (apply v_assign; exact rfl; exact rfl) | refine run_seq ?_ | refine run_region ?_ | refine runL_nil ?_ | (apply run_exit; exact rfl) | (apply v_off; exact rfl; exact rfl) | (apply v_pick_f; exact rfl; exact rfl; exact rfl) | (apply run_cond; exact rfl; (focus (intro hb; cases hb; done)); intro hb; clear hb)))
    refine run_freezeIn 100 101 rfl rfl rfl ?_
    refine run_pub 2 100 rfl rfl rfl ?_
    exact run_ret idN _ Try.func52 ⟨_, _, rfl, rfl, rfl⟩ (by rw [hge, List.take_length]; rfl) trivial trivial rfl
end Go.Proofs.Ytjkidecaciomgaa
/- Chains: a node, the one above, and so on. -/
namespace Go.Proofs.Ytjkidecaciomgaa
set_option linter.unusedVariables false
set_option linter.unusedSimpArgs false
set_option maxRecDepth 100000
open Go.RowKit

def chN (l : List Nd) (s : Nd → Int) : Nat → Int → List Int
  | 0, _ => []
  | n + 1, id => match nodeAt l id with
    | none => []
    | some x => id :: chN l s n (s x)
/-- The whole chain. -/
def ch (l : List Nd) (s : Nd → Int) (id : Int) : List Int := chN l s 129 id
/-- It goes down. -/
def Desc (l : List Nd) (s : Nd → Int) : Prop := ∃ rk : Int → Nat, ∀ b x, nodeAt l b = some x → s x ≠ 0 → rk (s x) < rk b
theorem desc_up {l : List Nd} (h : WF l) : Desc l upX := h.ups.rank
theorem desc_par {l : List Nd} (h : WF l) : Desc l Nd.parent := by
  obtain ⟨rk, hrk⟩ := h.ups.rank
  refine ⟨rk, fun b x hb hn => ?_⟩
  have : upX x = x.parent := by simp [upX, hn]
  have h1 := hrk b x hb (by rw [this]; exact hn)
  rwa [this] at h1
section
variable {l : List Nd} {s : Nd → Int}
theorem chN_none {n : Nat} {id : Int} (h : nodeAt l id = none) : chN l s n id = [] := by cases n <;> simp [chN, h]
theorem chN_in : ∀ {n : Nat} {id c : Int}, c ∈ chN l s n id → 1 ≤ c ∧ c ≤ l.length
  | 0, id, c, h => by simp [chN] at h
  | n + 1, id, c, h => by
    rw [chN] at h
    cases hx : nodeAt l id with
    | none => rw [hx] at h; cases h
    | some x =>
      rw [hx] at h
      rcases List.mem_cons.1 h with rfl | h
      · have := nodeAt_some hx
        omega
      · exact chN_in h
theorem chN_rank {rk : Int → Nat} (hrk : ∀ b x, nodeAt l b = some x → s x ≠ 0 → rk (s x) < rk b) : ∀ {n : Nat} {id c : Int}, c ∈ chN l s n id → rk c ≤ rk id
  | 0, id, c, h => by simp [chN] at h
  | n + 1, id, c, h => by
    rw [chN] at h
    cases hx : nodeAt l id with
    | none => rw [hx] at h; cases h
    | some x =>
      rw [hx] at h
      rcases List.mem_cons.1 h with rfl | h
      · exact Nat.le_refl _
      · by_cases h0 : s x = 0
        · rw [h0, chN_none nodeAt_zero] at h
          cases h
        · have := chN_rank hrk h
          have := hrk id x hx h0
          omega
theorem chN_nodup (hd : Desc l s) : ∀ (n : Nat) (id : Int), (chN l s n id).Nodup := by
  obtain ⟨rk, hrk⟩ := hd
  intro n
  induction n with
  | zero => intro id; simp [chN]
  | succ n ih =>
    intro id
    rw [chN]
    cases hx : nodeAt l id with
    | none => simp
    | some x =>
      simp only
      rw [List.nodup_cons]
      refine ⟨fun hm => ?_, ih _⟩
      by_cases h0 : s x = 0
      · rw [h0, chN_none nodeAt_zero] at hm
        cases hm
      · have := chN_rank hrk hm
        have := hrk id x hx h0
        omega
theorem chN_len (hd : Desc l s) (n : Nat) (id : Int) : (chN l s n id).length ≤ l.length := nodup_len _ _ (chN_nodup hd n id) fun c hc => chN_in hc
theorem chN_more : ∀ (n : Nat) (id : Int), (chN l s n id).length < n → chN l s (n + 1) id = chN l s n id
  | 0, id, h => by simp at h
  | n + 1, id, h => by
    rw [chN, chN]
    rw [chN] at h
    cases hx : nodeAt l id with
    | none => rfl
    | some x =>
      rw [hx] at h
      simp only [List.length_cons] at h ⊢
      rw [chN_more n _ (by omega)]
theorem ch_step (hd : Desc l s) (hl : l.length ≤ 128) {id : Int} {x : Nd} (hx : nodeAt l id = some x) : ch l s id = id :: ch l s (s x) := by
  have h1 := chN_more (l := l) (s := s) 129 id (by have := chN_len hd 129 id; omega)
  unfold ch
  rw [← h1, chN, hx]
theorem ch_none {id : Int} (hx : nodeAt l id = none) : ch l s id = [] := chN_none hx
theorem ch_len (hd : Desc l s) (id : Int) : (ch l s id).length ≤ l.length := chN_len hd _ _
theorem ch_in {id c : Int} (h : c ∈ ch l s id) : 1 ≤ c ∧ c ≤ l.length := chN_in h
theorem ch_nodup (hd : Desc l s) (id : Int) : (ch l s id).Nodup := chN_nodup hd _ _
end
/-- Who is above, is in the chain. -/
theorem mem_over {l : List Nd} (h : WF l) (a b : Int) : a ∈ ch l upX b ↔ Abv l a b := by
  constructor
  · obtain ⟨rk, hrk⟩ := h.ups.rank
    have key : ∀ n b, rk b = n → a ∈ ch l upX b → Abv l a b := by
      intro n
      induction n using Nat.strongRecOn with
      | _ n ih =>
        intro b hb hm
        cases hx : nodeAt l b with
        | none => rw [ch_none hx] at hm; cases hm
        | some x =>
          rw [ch_step (desc_up h) h.len hx] at hm
          rcases List.mem_cons.1 hm with e | hm
          · exact .here hx e.symm
          · by_cases h0 : upX x = 0
            · rw [h0, ch_none nodeAt_zero] at hm
              cases hm
            · exact .up hx (ih _ (hb ▸ hrk b x hx h0) _ rfl hm)
    exact key _ b rfl
  · intro ha
    induction ha with
    | here hx e => rw [ch_step (desc_up h) h.len hx, e]; exact List.mem_cons_self
    | up hx _ ih => rw [ch_step (desc_up h) h.len hx]; exact List.mem_cons_of_mem _ ih
end Go.Proofs.Ytjkidecaciomgaa
