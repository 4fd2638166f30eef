/- slices.Index and Delete over rows of the call's own; edit: into, leave. -/
import Derived.Test.YtjkidecaciomgaaVL18
import Derived.Test.YtjkidecaciomgaaSh2
import Derived.Test.YtjkidecaciomgaaBP
namespace Go.Proofs.Ytjkidecaciomgaa
set_option linter.unusedVariables false
set_option linter.unusedSimpArgs false
set_option maxRecDepth 100000
open Go.RowKit

theorem index_o {xs : List Int} (v : Int) (hm : xs.length ≤ 1000000) : Fun Try.prog 164 [.res 0, .v (.int .i64 v)] [(0, .obj (ownS 3 intE xs))] (.v (.int .i64 (idxI xs v))) [(0, .obj (ownS 3 intE xs))] := by
  refine fun_intro 19 Try.func164 rfl rfl rfl (fun ι F S w => ?_)
  (repeat (first | (apply v_move; exact rfl; exact rfl) | (apply v_assign; exact rfl; exact rfl) | refine run_seq ?_ | refine run_region ?_ | refine runL_nil ?_ | refine run_block ?_ | (apply v_lenO; exact slA rfl; exact rfl; exact rfl; exact rfl)))
  refine v_loop (fun i : Nat => ⟨[(0, .res 0), (1, .v (.int .i64 v)), (7, .v (.int .i64 xs.length)), (8, .v (.int .i64 i))], [(0, .obj (ownS 3 intE xs))]⟩) (fun i => i ≤ xs.length ∧ ∀ j, j < i → xs[j]? ≠ some v) (fun i => xs.length - i) 0 idN ⟨rfl, trivial⟩ (by repeat (first | exact trivial | refine ⟨rfl, ?_⟩)) (by repeat (first | exact trivial | refine ⟨rfl, ?_⟩)) rfl ⟨by omega, fun j hj => by omega⟩ fun i ⟨hi, hp⟩ ih => ?_
  (repeat (first | refine run_seq ?_ | refine run_region ?_ | refine runL_nil ?_ | (apply v_lss; exact rfl; exact rfl; exact rfl)))
  refine run_cond rfl (fun h => ?_) (fun h => ?_)
  · have hlt : i < xs.length := by simpa using h
    have hx : xs[((i : Int)).toNat]? = some xs[i] := by simp [hlt]
    (repeat (first | (apply v_idxO; exact slA rfl; exact tyA rfl; exact rfl; exact rfl; exact rfl; exact rfl; exact (by omega); exact (by omega); exact rfl) | (apply v_move; exact rfl; exact rfl) | (apply v_assign; exact rfl; exact rfl) | refine run_seq ?_ | refine run_region ?_ | refine runL_nil ?_ | refine run_skip ?_ | refine run_block ?_))
    refine v_loadO (f := 0) (j := ((i : Int)).toNat) (tyA rfl) rfl rfl rfl rfl hx (by decide) rfl rfl ?_
    (repeat (first | refine runL_nil ?_ | (apply v_eql; exact rfl; exact rfl; exact rfl)))
    refine run_cond rfl (fun h => ?_) (fun h => ?_)
    · have he : v = xs[i] := by simpa using h
      (repeat (first | (apply v_move; exact rfl; exact rfl) | (apply v_assign; exact rfl; exact rfl) | refine run_seq ?_ | refine run_region ?_ | refine runL_nil ?_))
      exact run_ret idN _ Try.func164 ⟨_, _, rfl, rfl, rfl⟩ (by rw [idxI_at (i := i) (by simp [hlt, he]) hp]; rfl) ⟨rfl, trivial⟩ ⟨rfl, trivial⟩ rfl
    · have he : v ≠ xs[i] := by simpa using h
      (repeat (first | (apply v_move; exact rfl; exact rfl) | refine run_region ?_ | refine runL_nil ?_ | refine run_skip ?_ | refine run_inBlock ?_ | (apply v_add; exact rfl; exact rfl; exact rfl; exact (by omega))))
      exact v_again ih (i + 1) idN ⟨rfl, trivial⟩ (by repeat (first | exact trivial | refine ⟨rfl, ?_⟩)) (by repeat (first | exact trivial | refine ⟨rfl, ?_⟩)) rfl ⟨by omega, fun j hj => by
        by_cases e : j = i
        · subst e; simpa [hlt] using Ne.symm he
        · exact hp j (by omega)⟩ (by omega)
  · have hge : i = xs.length := by have : ¬ i < xs.length := (by simpa using h); omega
    (repeat (first | (apply v_assign; exact rfl; exact rfl) | refine run_seq ?_ | refine run_region ?_ | refine runL_nil ?_ | (apply run_exit; exact rfl)))
    exact run_ret idN _ Try.func164 ⟨_, _, rfl, rfl, rfl⟩ (by rw [idxI_none fun j hj => hp j (by omega)]; rfl) ⟨rfl, trivial⟩ ⟨rfl, trivial⟩ rfl
theorem delete_f {xs : List Int} {k : Nat} (hk : k < xs.length) (hm : xs.length ≤ 1000000) : Fun Try.prog 185 [.res 0, .v (.int .i64 (k : Int)), .v (.int .i64 ((k : Int) + 1))] [(0, .obj (ownS 3 intE xs))] (.sem (listS intE (xs.eraseIdx k))) [] := by
  have hne : xs ≠ [] := fun e => by rw [e] at hk; simp at hk
  refine fun_intro 33 Try.func185 rfl rfl rfl (fun ι F S w => ?_)
  refine run_seq ?_
  refine run_region ?_
  refine runL_row 0 0 rfl rfl hne fun b cap hcap => ?_
  (repeat (first | (apply v_lenV; exact slA rfl; exact rfl; exact rfl) | (apply v_move; exact rfl; exact rfl) | (apply v_assign; exact rfl; exact rfl) | refine run_seq ?_ | refine run_region ?_ | refine runL_nil ?_))
  refine v_slice3 (slA rfl) (tyA rfl) rfl rfl rfl rfl rfl (by omega) (by omega) (by omega) (by omega) (by omega) rfl ?_
  (repeat (first | (apply v_move; exact rfl; exact rfl) | refine run_seq ?_ | refine run_region ?_ | refine runL_nil ?_ | (apply v_eql; exact rfl; exact rfl; exact rfl)))
  refine run_condN rfl (beq_false_of_ne (by omega)) ?_
  (repeat (first | (apply v_lenV; exact slA rfl; exact rfl; exact rfl) | (apply v_move; exact rfl; exact rfl) | (apply v_assign; exact rfl; exact rfl) | refine run_seq ?_ | refine run_region ?_ | refine runL_nil ?_ | refine run_skip ?_))
  refine run_draws (by kernel_rfl) (by kernel_rfl) ?_
  (repeat (first | (apply p_move; exact rfl; exact rfl; exact rfl)))
  refine p_toV (slA rfl) (tyA rfl) rfl rfl (by omega) (by omega) rfl rfl ?_
  (repeat (first | (apply p_move; exact rfl; exact rfl; exact rfl)))
  refine p_fromU (slA rfl) (tyA rfl) rfl rfl rfl (by omega) (by omega) hcap rfl rfl ?_
  skip
  refine p_appendU 0 (slA rfl) (tyA rfl) rfl rfl rfl rfl (by omega) (by omega) hne rfl rfl ?_
  (repeat (first | (apply p_assign; exact rfl; exact rfl; exact rfl)))
  refine planL_nil (by kernel_rfl) ?_
  have hlen : ((k : Int)).toNat + (xs.length - ((k : Int) + 1).toNat) = xs.length - 1 := by omega
  have hrow : xs.take ((k : Int)).toNat ++ xs.drop ((k : Int) + 1).toNat = xs.eraseIdx k := by rw [List.eraseIdx_eq_take_drop_succ]; congr 1
  have hel : (xs.eraseIdx k).length = xs.length - 1 := List.length_eraseIdx_of_lt hk
  rw [hlen, hrow]
  generalize hys : xs.eraseIdx k ++ xs.drop (xs.length - 1) = ys
  have hyl : ys.length = xs.length := by rw [← hys, List.length_append, hel, List.length_drop]; omega
  have hyt : ys.take (xs.length - 1) = xs.eraseIdx k := by rw [← hys, ← hel, List.take_left]
  have hyne : ys ≠ [] := fun e => by rw [e] at hyl; simp at hyl; omega
  rw [← hyl]
  (repeat (first | (apply v_lenV; exact slA rfl; exact rfl; exact rfl) | (apply v_move; exact rfl; exact rfl) | refine run_seq ?_ | refine run_region ?_))
  refine v_fromto (slA rfl) (tyA rfl) rfl rfl rfl rfl (by omega) (by omega) (by omega) (by omega) rfl ?_
  refine v_clearU (g := 0) (cap := cap) (xs := ys) (slA rfl) (by kernel_rfl) rfl rfl (tyA rfl) (by omega) (by omega) ?_
  (repeat (first | (apply v_move; exact rfl; exact rfl) | (apply v_assign; exact rfl; exact rfl) | refine run_seq ?_ | refine run_region ?_ | refine runL_nil ?_))
  have hz : (ys.take (((ys.length - 1 : Nat) : Int)).toNat ++ List.replicate (((ys.length : Nat) : Int).toNat - (((ys.length - 1 : Nat) : Int)).toNat) 0).length = ys.length := by
    rw [List.length_append, List.length_take, List.length_replicate]
    omega
  refine run_unrow (xs := ys.take (((ys.length - 1 : Nat) : Int)).toNat ++ List.replicate (((ys.length : Nat) : Int).toNat - (((ys.length - 1 : Nat) : Int)).toNat) 0) 6 0 50 (ys.length - 1) rfl (by rw [hz]; rfl) (by intro e; rw [e] at hz; simp at hz; omega) (by rw [hz]; omega) rfl rfl rfl ?_
  have hfin : (ys.take (((ys.length - 1 : Nat) : Int)).toNat ++ List.replicate (((ys.length : Nat) : Int).toNat - (((ys.length - 1 : Nat) : Int)).toNat) 0).take (ys.length - 1) = xs.eraseIdx k := by
    rw [show (((ys.length - 1 : Nat) : Int)).toNat = ys.length - 1 by omega, List.take_append_of_le_length (by simp), List.take_take, Nat.min_self, hyl]
    exact hyt
  rw [hfin]
  refine run_freeze 6 50 rfl rfl ?_
  exact run_ret idN _ Try.func185 ⟨_, _, rfl, rfl, rfl⟩ rfl ⟨rfl, trivial⟩ trivial rfl
theorem into_f {xs ys : List Int} {k : Nat} (hk : k ≤ xs.length) (hm : xs.length ≤ 1000) (hm2 : ys.length ≤ 1000) : Fun Try.prog 165 [.sem (listS intE xs), .v (.int .i64 (k : Int)), .sem (listS intE ys)] [] (.sem (listS intE (xs.take k ++ ys ++ xs.drop k))) [] := by
  have hcl := clone_o (xs := xs.take ((k : Int)).toNat) (by simp; omega)
  refine fun_intro 20 Try.func165 rfl rfl rfl (fun ι F S w => ?_)
  (repeat (first | (apply v_cOx; exact rfl; exact cbA rfl; (first | exact hcl); exact rfl; exact rfl; exact rfl; exact rfl; exact rfl) | (apply v_move; exact rfl; exact rfl) | (apply v_assign; exact rfl; exact rfl) | refine run_seq ?_ | refine run_region ?_ | refine runL_nil ?_ | (apply v_sliceH; exact slA rfl; exact tyA rfl; exact rfl; exact rfl; exact rfl; exact (by omega); exact (by omega); exact rfl)))
  refine v_appendD (slA rfl) (tyA rfl) rfl rfl rfl rfl rfl rfl rfl (by simp; omega) rfl rfl rfl rfl ?_
  (repeat (first | (apply v_move; exact rfl; exact rfl) | (apply v_assign; exact rfl; exact rfl) | refine run_seq ?_ | refine run_region ?_ | refine runL_nil ?_ | (apply v_sliceL; exact slA rfl; exact tyA rfl; exact rfl; exact rfl; exact rfl; exact (by omega); exact (by omega); exact rfl)))
  refine v_appendD (slA rfl) (tyA rfl) rfl rfl rfl rfl rfl rfl rfl (by simp; omega) rfl rfl rfl rfl ?_
  (repeat (first | (apply v_assign; exact rfl; exact rfl) | refine runL_nil ?_))
  refine run_freeze 6 19 rfl rfl ?_
  exact run_ret idN _ Try.func165 ⟨_, _, rfl, rfl, rfl⟩ (by rw [show ((k : Int)).toNat = k by omega]; rfl) trivial trivial rfl
/-- A node whose children are a row of the caller's own. -/
def nodeLr (x : Nd) (g : Nat) : List AV := [.v (.int .i64 x.kind), .v (.int .i64 x.parent), .v (.int .i64 x.host), .v (.int .i64 x.shadow), .v (.int .i64 x.mode), .v (.bool x.slot), .v (.string x.name), .v (.string x.want), .res g]
theorem nodeo_s {l : List Nd} (h : WF l) {id : Int} {x : Nd} (hx : nodeAt l id = some x) : Fun Try.prog 38 [.ptr 0 0, .v (.int .i64 id)] (forR 1 l) (.tup [.agg (nodeLr x 2), .v (.bool true)]) (forR 1 l ++ [(2, .obj (ownS 3 intE x.kids))]) := by
  have hm : l.length ≤ 1000000 := by have := h.len; omega
  have hkx := (kids_ok h id x hx).1
  have hj := (nodeAt_some hx).2.2
  refine fun_intro 24 Try.func38 rfl rfl rfl (fun ι F S w => ?_)
  (repeat (first | (apply v_cSx; exact rfl; exact cbA rfl; (first | exact at_m hx hm); (repeat (first | exact trivial | refine ⟨rfl, ?_⟩)); exact rfl; exact rfl; exact rfl; exact rfl; exact rfl) | (apply v_move; exact rfl; exact rfl) | (apply v_assign; exact rfl; exact rfl) | refine run_seq ?_ | refine run_region ?_ | refine runL_nil ?_ | refine run_skip ?_ | (apply run_cond; exact rfl; (focus (intro hb; cases hb; done)); intro hb; clear hb) | (apply v_eqlNil; exact ptA rfl; exact rfl; exact NN.ptr; exact rfl) | (apply v_nilCheck; exact rfl; exact NN.ptr; exact rfl) | (apply v_allocD; exact tyA rfl; exact rfl; exact rfl; exact rfl; exact rfl)))
  refine v_loadO (f := 0) (tyA rfl) rfl rfl rfl rfl hj (by decide) rfl rfl ?_
  (repeat (first | (apply v_loadO; exact tyA rfl; exact rfl; exact rfl; exact rfl; exact rfl; (first | exact hj); exact (by decide); exact rfl; exact rfl) | (apply v_cOx; exact rfl; exact cbA rfl; (first | exact clone_o hkx); exact rfl; exact rfl; exact rfl; exact rfl; exact rfl) | (apply v_move; exact rfl; exact rfl) | (apply v_assign; exact rfl; exact rfl) | refine run_seq ?_ | refine run_region ?_ | refine runL_nil ?_ | (apply v_fldP; exact flA rfl; exact rfl; exact rfl; exact rfl) | (apply v_loadB; exact tyA rfl; exact rfl; exact rfl; exact rfl; exact rfl; exact rfl; exact rfl) | (apply v_nilCheck; exact rfl; exact NN.ptr; exact rfl) | (apply v_allocD; exact tyA rfl; exact rfl; exact rfl; exact rfl; exact rfl) | (apply v_storeW; exact tyA rfl; exact rfl; exact rfl; exact rfl; exact rfl; exact rfl; exact rfl; exact rfl) | (apply v_storeB; exact tyA rfl; exact rfl; exact rfl; exact rfl; exact rfl; exact rfl; exact rfl; exact rfl)))
  exact run_ret (mp [(2, 21)]) _ Try.func38 ⟨_, _, _, _, _, _, rfl, rfl, rfl, ty33, rfl, (fun h => by cases h), rfl, ⟨_, _, rfl, rfl, rfl⟩⟩ rfl ⟨rfl, rfl, trivial⟩ ⟨rfl, rfl, rfl, trivial⟩ rfl
theorem nodel_w {l : List Nd} (h : WF l) (id : Int) : Fun Try.prog 38 [.ptr 0 0, .v (.int .i64 id)] (forR 1 l) (.tup [.agg (nodeL (nodeR l id)), .v (.bool (nodeAt l id).isSome)]) (forR 1 l) := by
  cases hx : nodeAt l id with
  | none =>
    rw [nodeR_none hx]
    exact nodel_n h hx
  | some x =>
    rw [nodeR_some hx]
    exact nodel_s h hx
/-- A node leaves its parent. -/
noncomputable def leaveM (l : List Nd) (a : Int) : List Nd :=
  match nodeAt l (nodeR l a).parent with
  | none => l
  | some p => (putM l (nodeR l a).parent (p.kids.erase a)).1
theorem leave_f {l : List Nd} (h : WF l) (a : Int) : Fun Try.prog 163 [.ptr 0 0, .v (.int .i64 a)] (forR 1 l) (.tup []) (forR 2 (leaveM l a)) := by
  have hn := nodel_w h a
  cases hp : nodeAt l (nodeR l a).parent with
  | none =>
    have e1 : leaveM l a = l := by rw [leaveM, hp]
    have hq := nodel_n h hp
    rw [e1]
    generalize nodeR l a = n at *
    generalize (nodeAt l a).isSome = ok at *
    refine fun_intro 37 Try.func163 rfl rfl rfl (fun ι F S w => ?_)
    (repeat (first | (apply v_cSx; exact rfl; exact cbA rfl; (first | exact hn | exact hq); (repeat (first | exact trivial | refine ⟨rfl, ?_⟩)); exact rfl; exact rfl; exact rfl; exact rfl; exact rfl) | (apply v_move; exact rfl; exact rfl) | (apply v_assign; exact rfl; exact rfl) | refine run_seq ?_ | refine run_region ?_ | refine runL_nil ?_ | refine run_skip ?_ | (apply v_extract; exact rfl; exact rfl; exact rfl) | (apply v_fldP; exact flA rfl; exact rfl; exact rfl; exact rfl) | (apply v_loadB; exact tyA rfl; exact rfl; exact rfl; exact rfl; exact rfl; exact rfl; exact rfl) | (apply run_cond; exact rfl; (focus (intro hb; cases hb; done)); intro hb; clear hb) | (apply v_allocD; exact tyA rfl; exact rfl; exact rfl; exact rfl; exact rfl) | (apply v_storeW; exact tyA rfl; exact rfl; exact rfl; exact rfl; exact rfl; exact rfl; exact rfl; exact rfl)))
    exact run_end (mp [(2, 1)]) _ Try.func163 rfl rfl ⟨rfl, rfl, trivial⟩ ⟨rfl, rfl, trivial⟩ rfl
  | some p =>
    have e1 : leaveM l a = (putM l (nodeR l a).parent (p.kids.erase a)).1 := by rw [leaveM, hp]
    have hq := nodeo_s h hp
    have hpar : (nodeR l a).parent ≠ 0 := fun e => by rw [e, nodeAt_zero] at hp; cases hp
    obtain ⟨n, hna⟩ : ∃ n, nodeAt l a = some n := by
      cases hx : nodeAt l a with
      | some n => exact ⟨n, rfl⟩
      | none => rw [nodeR_none hx] at hpar; exact absurd rfl hpar
    rw [nodeR_some hna] at *
    have hin : a ∈ p.kids := by
      obtain ⟨y, hy, hk⟩ := (h.par hna).resolve_left hpar
      rw [hp] at hy
      cases hy
      exact hk
    have hkl := (kids_ok h _ p hp).1
    have hix := index_o a hkl
    have hii : idxI p.kids a = ((p.kids.idxOf a : Nat) : Int) := by rw [idxI, if_pos hin]
    have hlt : p.kids.idxOf a < p.kids.length := List.idxOf_lt_length_iff.2 hin
    rw [hii] at hix
    have hdel := delete_f hlt hkl
    have hput := put_f h.ups n.parent (p.kids.eraseIdx (p.kids.idxOf a)) (by have := h.len; omega) (by have := List.length_eraseIdx_le p.kids (p.kids.idxOf a); omega) (kids_ok h _)
    have her : p.kids.eraseIdx (p.kids.idxOf a) = p.kids.erase a := (List.erase_eq_eraseIdx_of_idxOf rfl).symm
    rw [her] at hput hdel
    rw [e1]
    generalize p.kids.idxOf a = k at *
    generalize p.kids.erase a = ks at *
    generalize putM l n.parent ks = T at *
    generalize (nodeAt l a).isSome = ok at *
    refine fun_intro 37 Try.func163 rfl rfl rfl (fun ι F S w => ?_)
    (repeat (first | (apply v_cSx; exact rfl; exact cbA rfl; (first | exact hn); (repeat (first | exact trivial | refine ⟨rfl, ?_⟩)); exact rfl; exact rfl; exact rfl; exact rfl; exact rfl) | (apply v_move; exact rfl; exact rfl) | (apply v_assign; exact rfl; exact rfl) | refine run_seq ?_ | refine run_region ?_ | refine runL_nil ?_ | (apply v_extract; exact rfl; exact rfl; exact rfl) | (apply v_fldP; exact flA rfl; exact rfl; exact rfl; exact rfl) | (apply v_loadB; exact tyA rfl; exact rfl; exact rfl; exact rfl; exact rfl; exact rfl; exact rfl) | (apply v_allocD; exact tyA rfl; exact rfl; exact rfl; exact rfl; exact rfl) | (apply v_storeW; exact tyA rfl; exact rfl; exact rfl; exact rfl; exact rfl; exact rfl; exact rfl; exact rfl)))
    refine v_cR (mp [(1, 1), (2, 19)]) hq rfl (cbA rfl) ⟨rfl, rfl, trivial⟩ (by kernel_rfl) (by kernel_rfl) (by kernel_rfl) (by kernel_rfl) (by kernel_rfl) (by kernel_rfl) (by kernel_rfl) (by kernel_rfl) rfl ?_
    (repeat (first | (apply v_move; exact rfl; exact rfl) | (apply v_assign; exact rfl; exact rfl) | refine run_seq ?_ | refine run_region ?_ | refine runL_nil ?_ | (apply v_extract; exact rfl; exact rfl; exact rfl) | (apply v_fldP; exact flA rfl; exact rfl; exact rfl; exact rfl) | (apply v_loadB; exact tyA rfl; exact rfl; exact rfl; exact rfl; exact rfl; exact rfl; exact rfl) | (apply run_cond; exact rfl; rotate_left; (focus (intro hb; cases hb; done)); intro hb; clear hb) | (apply v_allocD; exact tyA rfl; exact rfl; exact rfl; exact rfl; exact rfl) | (apply v_storeW; exact tyA rfl; exact rfl; exact rfl; exact rfl; exact rfl; exact rfl; exact rfl; exact rfl)))
    refine v_cR (mp [(0, 19)]) hix rfl (cbA rfl) ⟨rfl, trivial⟩ (by kernel_rfl) (by kernel_rfl) (by kernel_rfl) (by kernel_rfl) (by kernel_rfl) (by kernel_rfl) (by kernel_rfl) (by kernel_rfl) rfl ?_
    (repeat (first | (apply v_assign; exact rfl; exact rfl) | refine runL_nil ?_))
    refine run_draws (by kernel_rfl) (by kernel_rfl) ?_
    (repeat (first | (apply p_move; exact rfl; exact rfl; exact rfl) | (apply p_fldP; exact flA rfl; exact rfl; exact rfl; exact rfl; exact rfl) | (apply p_loadB; exact tyA rfl; exact rfl; exact rfl; exact rfl; exact rfl; exact rfl; exact rfl; exact rfl) | (apply p_add; exact rfl; exact rfl; exact rfl; exact (by omega); exact rfl)))
    refine p_cR (mp [(0, 19)]) hdel rfl (cbA rfl) ⟨rfl, trivial⟩ (by kernel_rfl) (by kernel_rfl) (by kernel_rfl) (by kernel_rfl) (by kernel_rfl) (by kernel_rfl) (by kernel_rfl) rfl rfl ?_
    refine p_cR (mp [(2, 36)]) hput rfl (cbA rfl) ⟨rfl, rfl, trivial⟩ (by kernel_rfl) (by kernel_rfl) (by kernel_rfl) (by kernel_rfl) (by kernel_rfl) (by kernel_rfl) (by kernel_rfl) rfl rfl ?_
    skip
    refine planL_nil (by kernel_rfl) ?_
    skip
    exact run_end (mp [(2, 36)]) _ Try.func163 rfl rfl ⟨rfl, rfl, trivial⟩ ⟨rfl, rfl, trivial⟩ rfl
end Go.Proofs.Ytjkidecaciomgaa
