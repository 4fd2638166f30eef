/- The forest: nodes, read. -/
import Derived.Test.YtjkidecaciomgaaBB
namespace Go.Proofs.Ytjkidecaciomgaa
set_option linter.unusedVariables false
set_option linter.unusedSimpArgs false
set_option maxRecDepth 100000
open Go.RowKit

def intE : Enc Int where
  sz := 1
  f := fun n => [.v (.int .i64 n)]
  len := fun _ => rfl
  leaf := fun _ => rfl
structure Nd where
  kind : Int
  parent : Int
  host : Int
  shadow : Int
  mode : Int
  slot : Bool
  name : ByteArray
  want : ByteArray
  kids : List Int
deriving DecidableEq
def nodeL (x : Nd) : List AV := [.v (.int .i64 x.kind), .v (.int .i64 x.parent), .v (.int .i64 x.host), .v (.int .i64 x.shadow), .v (.int .i64 x.mode), .v (.bool x.slot), .v (.string x.name), .v (.string x.want), .sem (listS intE x.kids)]
def nodeE : Enc Nd where
  sz := 9
  f := nodeL
  len := fun _ => rfl
  leaf := fun _ => rfl
/-- A forest that is read: its pointer. -/
abbrev forA (l : List Nd) : AV := .sem (adrS [.sem (listS nodeE l)])
def nd0 : Nd := ⟨0, 0, 0, 0, 0, false, ⟨#[]⟩, ⟨#[]⟩, []⟩
/-- A node by its number. -/
def nodeAt (l : List Nd) (id : Int) : Option Nd := if 1 ≤ id then l[(id - 1).toNat]? else none
theorem nodeAt_some {l : List Nd} {id : Int} {x : Nd} (h : nodeAt l id = some x) : 1 ≤ id ∧ id ≤ l.length ∧ l[(id - 1).toNat]? = some x := by
  unfold nodeAt at h
  split at h
  · have := (List.getElem?_eq_some_iff.1 h).1
    exact ⟨by assumption, by omega, h⟩
  · cases h
theorem nodeAt_none {l : List Nd} {id : Int} (h : nodeAt l id = none) : id < 1 ∨ (l.length : Int) < id := by
  unfold nodeAt at h
  split at h
  · rw [List.getElem?_eq_none_iff] at h
    omega
  · omega

theorem at_some {l : List Nd} {id : Int} {x : Nd} (h : nodeAt l id = some x) (hm : l.length ≤ 1000000) : Fun Try.prog 138 [forA l, .v (.int .i64 id)] [] (.sem (adrS (nodeL x))) [] := by
  obtain ⟨h0, h1, hx⟩ := nodeAt_some h
  refine fun_intro 27 Try.func138 rfl rfl rfl (fun ι F S w => ?_)
  (repeat (first | (apply v_move; exact rfl; exact rfl) | (apply v_assign; exact rfl; exact rfl) | refine run_seq ?_ | refine run_region ?_ | refine runL_nil ?_ | (apply v_on; exact rfl) | (apply v_pick_f; exact rfl; exact rfl; exact rfl) | (apply v_lss; exact rfl; exact rfl; exact rfl) | (apply v_eqlNil; exact ptA rfl; exact rfl; exact NN.adr; exact rfl)))
  refine v_is 11 false rfl (by simp; omega) ?_
  (repeat (first | (apply v_move; exact rfl; exact rfl) | refine runL_nil ?_ | (apply v_fldA; exact flA rfl; exact rfl; exact rfl; exact rfl) | (apply v_loadA; exact tyA rfl; exact rfl; exact rfl; exact rfl; exact rfl; exact rfl; exact rfl) | (apply v_on; exact rfl) | (apply v_pick_f; exact rfl; exact rfl; exact rfl) | (apply v_gtr; exact rfl; exact rfl; exact rfl) | (apply v_lenL; exact slA rfl; exact rfl; exact rfl) | (apply v_nilCheck; exact rfl; exact NN.adr; exact rfl)))
  refine run_condN rfl (by simp; omega) ?_
  (repeat (first | (apply v_move; exact rfl; exact rfl) | refine run_seq ?_ | refine run_region ?_ | refine run_skip ?_ | (apply v_fldA; exact flA rfl; exact rfl; exact rfl; exact rfl) | (apply v_loadA; exact tyA rfl; exact rfl; exact rfl; exact rfl; exact rfl; exact rfl; exact rfl) | (apply v_nilCheck; exact rfl; exact NN.adr; exact rfl) | (apply v_sub; exact rfl; exact rfl; exact rfl; exact (by omega))))
  refine v_idxL sl27 ty33 rfl rfl rfl rfl (by omega) hx rfl ?_
  (repeat (first | (apply v_assign; exact rfl; exact rfl) | refine runL_nil ?_))
  exact run_ret idN _ Try.func138 ⟨_, _, rfl, rfl, rfl⟩ rfl trivial trivial rfl
theorem at_none {l : List Nd} {id : Int} (h : nodeAt l id = none) (hm : l.length ≤ 1000000) : Fun Try.prog 138 [forA l, .v (.int .i64 id)] [] (.v (.pointer none)) [] := by
  have h := nodeAt_none h
  refine fun_intro 27 Try.func138 rfl rfl rfl (fun ι F S w => ?_)
  (repeat (first | (apply v_move; exact rfl; exact rfl) | (apply v_assign; exact rfl; exact rfl) | refine run_seq ?_ | refine run_region ?_ | refine runL_nil ?_ | (apply v_on; exact rfl) | (apply v_pick_f; exact rfl; exact rfl; exact rfl) | (apply v_lss; exact rfl; exact rfl; exact rfl) | (apply v_eqlNil; exact ptA rfl; exact rfl; exact NN.adr; exact rfl)))
  by_cases h1 : id < 1
  · refine v_is 11 true rfl (by simp; omega) ?_
    (repeat (first | (apply v_assign; exact rfl; exact rfl) | refine run_seq ?_ | refine run_region ?_ | refine runL_nil ?_ | (apply v_off; exact rfl; exact rfl) | (apply v_pick_t; exact rfl; exact rfl; exact rfl) | (apply run_cond; exact rfl; rotate_left; (focus (intro hb; cases hb; done)); intro hb; clear hb)))
    exact run_ret idN _ Try.func138 ⟨_, _, rfl, rfl, rfl⟩ rfl trivial trivial rfl
  · refine v_is 11 false rfl (by simp; omega) ?_
    (repeat (first | (apply v_move; exact rfl; exact rfl) | refine runL_nil ?_ | (apply v_fldA; exact flA rfl; exact rfl; exact rfl; exact rfl) | (apply v_loadA; exact tyA rfl; exact rfl; exact rfl; exact rfl; exact rfl; exact rfl; exact rfl) | (apply v_on; exact rfl) | (apply v_pick_f; exact rfl; exact rfl; exact rfl) | (apply v_gtr; exact rfl; exact rfl; exact rfl) | (apply v_lenL; exact slA rfl; exact rfl; exact rfl) | (apply v_nilCheck; exact rfl; exact NN.adr; exact rfl)))
    refine run_condY rfl (by simp; omega) ?_
    (repeat (first | (apply v_assign; exact rfl; exact rfl) | refine run_seq ?_ | refine run_region ?_ | refine runL_nil ?_))
    exact run_ret idN _ Try.func138 ⟨_, _, rfl, rfl, rfl⟩ rfl trivial trivial rfl
theorem at_nil (id : Int) : Fun Try.prog 138 [.v (.pointer none), .v (.int .i64 id)] [] (.v (.pointer none)) [] := by
  refine fun_intro 27 Try.func138 rfl rfl rfl (fun ι F S w => ?_)
  (repeat (first | (apply v_move; exact rfl; exact rfl) | (apply v_assign; exact rfl; exact rfl) | refine run_seq ?_ | refine run_region ?_ | refine runL_nil ?_ | (apply v_off; exact rfl; exact rfl) | (apply v_pick_t; exact rfl; exact rfl; exact rfl) | (apply run_cond; exact rfl; rotate_left; (focus (intro hb; cases hb; done)); intro hb; clear hb) | (apply v_nilEql; exact ptA rfl; exact rfl; exact rfl)))
  exact run_ret idN _ Try.func138 ⟨_, _, rfl, rfl, rfl⟩ rfl trivial trivial rfl
theorem len_f {l : List Nd} : Fun Try.prog 37 [forA l] [] (.v (.int .i64 l.length)) [] := by
  refine fun_intro 10 Try.func37 rfl rfl rfl (fun ι F S w => ?_)
  (repeat (first | (apply v_move; exact rfl; exact rfl) | (apply v_assign; exact rfl; exact rfl) | refine run_seq ?_ | refine run_region ?_ | refine runL_nil ?_ | refine run_skip ?_ | (apply v_fldA; exact flA rfl; exact rfl; exact rfl; exact rfl) | (apply v_loadA; exact tyA rfl; exact rfl; exact rfl; exact rfl; exact rfl; exact rfl; exact rfl) | (apply run_cond; exact rfl; (focus (intro hb; cases hb; done)); intro hb; clear hb) | (apply v_lenL; exact slA rfl; exact rfl; exact rfl) | (apply v_eqlNil; exact ptA rfl; exact rfl; exact NN.adr; exact rfl) | (apply v_nilCheck; exact rfl; exact NN.adr; exact rfl)))
  exact run_ret idN _ Try.func37 ⟨_, _, rfl, rfl, rfl⟩ rfl trivial trivial rfl
theorem len_nil : Fun Try.prog 37 [.v (.pointer none)] [] (.v (.int .i64 0)) [] := by
  refine fun_intro 10 Try.func37 rfl rfl rfl (fun ι F S w => ?_)
  (repeat (first | (apply v_move; exact rfl; exact rfl) | (apply v_assign; exact rfl; exact rfl) | refine run_seq ?_ | refine run_region ?_ | refine runL_nil ?_ | (apply run_cond; exact rfl; rotate_left; (focus (intro hb; cases hb; done)); intro hb; clear hb) | (apply v_nilEql; exact ptA rfl; exact rfl; exact rfl)))
  exact run_ret idN _ Try.func37 ⟨_, _, rfl, rfl, rfl⟩ rfl trivial trivial rfl
theorem clone_i {xs : List Int} (hm : xs.length ≤ 1000000) : Fun Try.prog 139 [.sem (listS intE xs)] [] (.sem (listS intE xs)) [] := by
  refine fun_intro 8 Try.func139 rfl rfl rfl (fun ι F S w => ?_)
  (repeat (first | (apply v_move; exact rfl; exact rfl) | (apply v_assign; exact rfl; exact rfl) | refine run_seq ?_ | refine run_region ?_ | refine runL_nil ?_))
  refine v_sliceNil sl31 rfl rfl (by decide) fun b hb => ?_
  refine runL_nil ?_
  refine run_cond rfl (fun h => ?_) (fun h => ?_)
  · obtain rfl := hb h
    (repeat (first | (apply v_assign; exact rfl; exact rfl) | refine run_seq ?_ | refine run_region ?_ | refine runL_nil ?_))
    refine run_know 2 rfl (nil_list intE) ?_
    exact run_ret idN _ Try.func139 ⟨_, _, rfl, rfl, rfl⟩ rfl trivial trivial rfl
  · (repeat (first | refine run_seq ?_ | refine run_region ?_ | refine run_skip ?_))
    refine v_litO intE [] [] [] sl31 ty3 rfl rfl trivial rfl rfl rfl rfl rfl rfl rfl rfl rfl rfl rfl rfl ?_
    (repeat (first | (apply v_move; exact rfl; exact rfl)))
    refine v_appendD sl31 ty3 rfl rfl rfl rfl rfl rfl rfl (by simpa using hm) rfl rfl rfl rfl ?_
    (repeat (first | (apply v_assign; exact rfl; exact rfl) | refine runL_nil ?_))
    refine run_freeze 2 7 rfl rfl ?_
    exact run_ret idN _ Try.func139 ⟨_, _, rfl, rfl, rfl⟩ rfl trivial trivial rfl
end Go.Proofs.Ytjkidecaciomgaa
