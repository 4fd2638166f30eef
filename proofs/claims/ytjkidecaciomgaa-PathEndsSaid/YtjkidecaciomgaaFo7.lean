/- The forest: Put. -/
import Derived.Test.YtjkidecaciomgaaFo6
namespace Go.Proofs.Ytjkidecaciomgaa
set_option linter.unusedVariables false
set_option linter.unusedSimpArgs false
set_option maxRecDepth 100000
open Go.RowKit

def idxI (xs : List Int) (v : Int) : Int := if v ∈ xs then (xs.idxOf v : Nat) else -1
theorem idxI_at {xs : List Int} {v : Int} {i : Nat} (h : xs[i]? = some v) (hj : ∀ j, j < i → xs[j]? ≠ some v) : idxI xs v = i := by
  obtain ⟨hi, e⟩ := List.getElem?_eq_some_iff.1 h
  have : xs.idxOf v = i := by
    rw [List.idxOf, List.findIdx_eq hi]
    refine ⟨by simp [e], fun j hj' => ?_⟩
    have := hj j hj'
    rw [List.getElem?_eq_getElem (by omega)] at this
    simpa using this
  rw [idxI, if_pos (List.mem_of_getElem? h), this]
theorem idxI_none {xs : List Int} {v : Int} (hj : ∀ j, j < xs.length → xs[j]? ≠ some v) : idxI xs v = -1 := by
  rw [idxI, if_neg]
  intro h
  obtain ⟨i, hi, e⟩ := List.getElem_of_mem h
  exact hj i hi (by rw [List.getElem?_eq_getElem hi, e])
theorem index_i {xs : List Int} (v : Int) (hm : xs.length ≤ 1000000) : Fun Try.prog 164 [.sem (listS intE xs), .v (.int .i64 v)] [] (.v (.int .i64 (idxI xs v))) [] := by
  refine fun_intro 19 Try.func164 rfl rfl rfl (fun ι F S w => ?_)
  (repeat (first | (apply v_move; exact rfl; exact rfl) | (apply v_assign; exact rfl; exact rfl) | refine run_seq ?_ | refine run_region ?_ | refine runL_nil ?_ | refine run_block ?_ | (apply v_lenL; exact slA rfl; exact rfl; exact rfl)))
  refine v_loop (fun i : Nat => ⟨[(0, .sem (listS intE xs)), (1, .v (.int .i64 v)), (7, .v (.int .i64 xs.length)), (8, .v (.int .i64 i))], []⟩) (fun i => i ≤ xs.length ∧ ∀ j, j < i → xs[j]? ≠ some v) (fun i => xs.length - i) 0 idN trivial (by repeat (first | exact trivial | refine ⟨rfl, ?_⟩)) (by repeat (first | exact trivial | refine ⟨rfl, ?_⟩)) rfl ⟨by omega, fun j hj => by omega⟩ fun i ⟨hi, hp⟩ ih => ?_
  (repeat (first | refine run_seq ?_ | refine run_region ?_ | refine runL_nil ?_ | (apply v_lss; exact rfl; exact rfl; exact rfl)))
  refine run_cond rfl (fun h => ?_) (fun h => ?_)
  · have hlt : i < xs.length := by simpa using h
    have hx : xs[((i : Int)).toNat]? = some xs[i] := by simp [hlt]
    (repeat (first | (apply v_move; exact rfl; exact rfl) | (apply v_assign; exact rfl; exact rfl) | refine run_seq ?_ | refine run_region ?_ | refine runL_nil ?_ | refine run_skip ?_ | refine run_block ?_))
    refine v_idxL (slA rfl) (tyA rfl) rfl rfl rfl rfl (by omega) hx rfl ?_
    (repeat (first | refine runL_nil ?_ | (apply v_loadA; exact tyA rfl; exact rfl; exact rfl; exact rfl; exact rfl; exact rfl; exact rfl) | (apply v_eql; exact rfl; exact rfl; exact rfl)))
    refine run_cond rfl (fun h => ?_) (fun h => ?_)
    · have he : v = xs[i] := by simpa using h
      (repeat (first | (apply v_move; exact rfl; exact rfl) | (apply v_assign; exact rfl; exact rfl) | refine run_seq ?_ | refine run_region ?_ | refine runL_nil ?_))
      exact run_ret idN _ Try.func164 ⟨_, _, rfl, rfl, rfl⟩ (by rw [idxI_at (i := i) (by simp [hlt, he]) hp]; rfl) trivial trivial rfl
    · have he : v ≠ xs[i] := by simpa using h
      (repeat (first | (apply v_move; exact rfl; exact rfl) | refine run_region ?_ | refine runL_nil ?_ | refine run_skip ?_ | refine run_inBlock ?_ | (apply v_add; exact rfl; exact rfl; exact rfl; exact (by omega))))
      exact v_again ih (i + 1) idN trivial (by repeat (first | exact trivial | refine ⟨rfl, ?_⟩)) (by repeat (first | exact trivial | refine ⟨rfl, ?_⟩)) rfl ⟨by omega, fun j hj => by
        by_cases e : j = i
        · subst e; simpa [hlt] using Ne.symm he
        · exact hp j (by omega)⟩ (by omega)
  · have hge : i = xs.length := by have : ¬ i < xs.length := (by simpa using h); omega
    (repeat (first | (apply v_assign; exact rfl; exact rfl) | refine run_seq ?_ | refine run_region ?_ | refine runL_nil ?_ | (apply run_exit; exact rfl)))
    exact run_ret idN _ Try.func164 ⟨_, _, rfl, rfl, rfl⟩ (by rw [idxI_none fun j hj => hp j (by omega)]; rfl) trivial trivial rfl
theorem contains_i {xs : List Int} (v : Int) (hm : xs.length ≤ 1000000) : Fun Try.prog 141 [.sem (listS intE xs), .v (.int .i64 v)] [] (.v (.bool (decide (v ∈ xs)))) [] := by
  have he : decide (idxI xs v ≥ 0) = decide (v ∈ xs) := by
    unfold idxI
    split <;> rename_i h <;> simp [h]
  refine fun_intro 9 Try.func141 rfl rfl rfl (fun ι F S w => ?_)
  (repeat (first | (apply v_cx; exact rfl; exact cbA rfl; (first | exact index_i v hm); exact rfl; exact rfl) | (apply v_move; exact rfl; exact rfl) | (apply v_assign; exact rfl; exact rfl) | refine run_seq ?_ | refine run_region ?_ | refine runL_nil ?_ | (apply v_geq; exact rfl; exact rfl; exact rfl)))
  exact run_ret idN _ Try.func141 ⟨_, _, rfl, rfl, rfl⟩ (by rw [← he]; rfl) trivial trivial rfl
def rootedB (x : Nd) : Bool := x.kind == 1 || x.kind == 3
theorem rooted_f {l : List Nd} {j : Nat} {x : Nd} (hj : l[j]? = some x) : Fun Try.prog 142 [.ptr 1 (j * 9)] [(1, .obj (ownS 33 nodeE l))] (.v (.bool (rootedB x))) [(1, .obj (ownS 33 nodeE l))] := by
  refine fun_intro 15 Try.func142 rfl rfl rfl (fun ι F S w => ?_)
  (repeat' (first | (apply v_loadO; exact tyA rfl; exact rfl; exact rfl; exact rfl; exact rfl; (first | exact hj); exact (by decide); exact rfl; exact rfl) | (apply v_move; exact rfl; exact rfl) | (apply v_assign; exact rfl; exact rfl) | refine run_seq ?_ | refine run_region ?_ | refine runL_nil ?_ | (apply v_fldP; exact flA rfl; exact rfl; exact rfl; exact rfl) | (apply v_on; exact rfl) | (apply v_off; exact rfl; exact rfl) | (apply v_pick_t; exact rfl; exact rfl; exact rfl) | (apply v_pick_f; exact rfl; exact rfl; exact rfl) | (apply v_eql; exact rfl; exact rfl; exact rfl) | (apply v_nilCheck; exact rfl; exact NN.ptr; exact rfl) | (apply v_gsplit; exact rfl; exact rfl; exact rfl; all_goals intro hb)))
  all_goals exact run_ret idN _ Try.func142 ⟨_, _, rfl, rfl, rfl⟩ (by simp_all [AV.ren, oneA, rootedB]) ⟨rfl, trivial⟩ ⟨rfl, trivial⟩ rfl

/-! ### Put, as it is done -/
def setPar (l : List Nd) (k v : Int) : List Nd :=
  match nodeAt l k with
  | some x => setN l k { x with parent := v }
  | none => l
def parAll (l : List Nd) (ks : List Int) (v : Int) : List Nd := ks.foldl (fun l k => setPar l k v) l
def setKids (l : List Nd) (p : Int) (ks : List Int) : List Nd :=
  match nodeAt l p with
  | some x => setN l p { x with kids := ks }
  | none => l
def argOk (l : List Nd) (ks : List Int) (i : Nat) : Bool := (nodeAt l (ks.getD i 0)).isSome && !decide (ks.getD i 0 ∈ ks.take i)
noncomputable def putOk (l : List Nd) (p : Int) (k : Int) : Bool :=
  match nodeAt l k with
  | some x => !(rootedB x) && (!(aboveB l k p) && (x.parent == 0 || x.parent == p))
  | none => false
noncomputable def putM (l : List Nd) (p : Int) (ks : List Int) : List Nd × Int :=
  match nodeAt l p with
  | none => (l, 1)
  | some x =>
    if (List.range ks.length).all (argOk l ks) = false then (l, 1)
    else if ks.all (putOk l p) = false then (l, 3)
    else (setKids (parAll (parAll l x.kids 0) ks p) p ks, 0)
end Go.Proofs.Ytjkidecaciomgaa
