/- The forest: Put's walk. -/
import Derived.Test.YtjkidecaciomgaaFo7
namespace Go.Proofs.Ytjkidecaciomgaa
set_option linter.unusedVariables false
set_option linter.unusedSimpArgs false
set_option maxRecDepth 100000
open Go.RowKit

theorem len_setN (l : List Nd) (k : Int) (x : Nd) : (setN l k x).length = l.length := by simp [setN]
theorem len_setPar (l : List Nd) (k v : Int) : (setPar l k v).length = l.length := by
  unfold setPar
  split
  · exact len_setN _ _ _
  · rfl
theorem len_parAll (ks : List Int) (v : Int) : ∀ l : List Nd, (parAll l ks v).length = l.length := by
  induction ks with
  | nil => intro l; rfl
  | cons k ks ih => intro l; rw [parAll, List.foldl_cons, ← parAll, ih, len_setPar]
theorem nodeAt_isSome {l : List Nd} {k : Int} : (nodeAt l k).isSome = true ↔ 1 ≤ k ∧ k ≤ l.length := by
  unfold nodeAt
  split
  · rename_i h
    rw [Option.isSome_iff_exists]
    constructor
    · rintro ⟨x, hx⟩
      have := (List.getElem?_eq_some_iff.1 hx).1
      omega
    · intro h'
      exact ⟨_, List.getElem?_eq_getElem (by omega)⟩
  · simp; omega
theorem nodeAt_len {l l' : List Nd} (h : l'.length = l.length) (k : Int) : (nodeAt l' k).isSome = (nodeAt l k).isSome := by
  rw [Bool.eq_iff_iff, nodeAt_isSome, nodeAt_isSome, h]
theorem parAll_take {l : List Nd} {ks : List Int} {v : Int} {i : Nat} {k : Int} (h : ks[i]? = some k) : parAll l (ks.take (i + 1)) v = setPar (parAll l (ks.take i) v) k v := by
  rw [List.take_add_one, h, parAll, List.foldl_append]
  rfl
/-- Nodes, one of whose lists of children is known by its name alone. -/
def nodeX : Enc (Nd × Option { u : Value // u.oneCell' = true }) where
  sz := 9
  f := fun p => match p.2 with
    | none => nodeL p.1
    | some u => [.v (.int .i64 p.1.kind), .v (.int .i64 p.1.parent), .v (.int .i64 p.1.host), .v (.int .i64 p.1.shadow), .v (.int .i64 p.1.mode), .v (.bool p.1.slot), .v (.string p.1.name), .v (.string p.1.want), .v u.1]
  len := fun p => by rcases p with ⟨x, _ | u⟩ <;> rfl
  leaf := fun p => by
    rcases p with ⟨x, _ | u⟩
    · rfl
    · have := u.2
      simp only [AV.leaves, AV.leaf, this]
      rfl
theorem nodeX_all (l : List Nd) : nodeX.all (l.map fun x => (x, none)) = nodeE.all l := by
  simp only [Enc.all, List.flatMap_map]
  rfl
theorem nodeX_sink {u : { u : Value // u.oneCell' = true }} {x : Nd} {ks : List Int} : ∀ (l : List Nd) (j : Nat), LeUs u.1 (listS intE ks) (nodeX.all ((l.map fun x => (x, none)).set j (x, some u))) (nodeE.all (l.set j { x with kids := ks }))
  | [], j => by simp [Enc.all, LeUs]
  | y :: l, 0 => by
    simp only [List.map_cons, List.set_cons_zero, Enc.all, List.flatMap_cons]
    refine LeUs.append ?_ ?_
    · exact ⟨LeU.refl, LeU.refl, LeU.refl, LeU.refl, LeU.refl, LeU.refl, LeU.refl, LeU.refl, LeU.here, trivial⟩
    · have := nodeX_all l
      simp only [Enc.all] at this
      rw [this]
      exact LeUs.refl
  | y :: l, j + 1 => by
    simp only [List.map_cons, List.set_cons_succ, Enc.all, List.flatMap_cons]
    exact LeUs.append LeUs.refl (nodeX_sink l j)
theorem okC_one {u : Value} (h : u.oneCell' = true) : okC (.v u) = true := by cases u <;> simp_all [okC, Value.oneCell']

theorem all_false {α : Type} {xs : List α} {f : α → Bool} {i : Nat} (hi : i < xs.length) (h : f xs[i] = false) : xs.all f = false := by
  rw [← Bool.not_eq_true, List.all_eq_true]
  intro hall
  rw [hall _ (List.getElem_mem hi)] at h
  cases h
theorem put_f {l : List Nd} (hu : Ups l) (p : Int) (ks : List Int) (hm : l.length ≤ 1000000) (hk : ks.length ≤ 1000000) (hkid : ∀ x, nodeAt l p = some x → x.kids.length ≤ 1000000 ∧ ∀ c ∈ x.kids, (nodeAt l c).isSome = true) : Fun Try.prog 46 [.ptr 0 0, .v (.int .i64 p), .sem (listS intE ks)] (forR 1 l) (.v (.int .i64 (putM l p ks).2)) (forR 2 (putM l p ks).1) := by
  cases hp : nodeAt l p with
  | none =>
    have hr : putM l p ks = (l, 1) := by simp [putM, hp]
    rw [hr]
    refine fun_intro 113 Try.func46 rfl rfl rfl (fun ι F S w => ?_)
    (repeat (first | (apply v_cSx; exact rfl; exact cbA rfl; (first | exact at_mn hp hm); (repeat (first | exact trivial | refine ⟨rfl, ?_⟩)); exact rfl; exact rfl; exact rfl; exact rfl; exact rfl) | (apply v_move; exact rfl; exact rfl) | (apply v_assign; exact rfl; exact rfl) | refine run_seq ?_ | refine run_region ?_ | refine runL_nil ?_ | (apply run_cond; exact rfl; rotate_left; (focus (intro hb; cases hb; done)); intro hb; clear hb) | (apply v_nilEql; exact ptA rfl; exact rfl; exact rfl)))
    exact run_ret (mp [(2, 1)]) _ Try.func46 ⟨_, _, rfl, rfl, rfl⟩ rfl ⟨rfl, rfl, trivial⟩ ⟨rfl, rfl, trivial⟩ rfl
  | some x =>
    have hj := (nodeAt_some hp).2.2
    have hr : putM l p ks = if (List.range ks.length).all (argOk l ks) = false then (l, 1) else if ks.all (putOk l p) = false then (l, 3) else (setKids (parAll (parAll l x.kids 0) ks p) p ks, 0) := by simp [putM, hp]
    generalize putM l p ks = T at hr
    obtain ⟨hxk, hxc⟩ := hkid x hp
    refine fun_intro 113 Try.func46 rfl rfl rfl (fun ι F S w => ?_)
    (repeat (first | (apply v_cSx; exact rfl; exact cbA rfl; (first | exact at_m hp hm); (repeat (first | exact trivial | refine ⟨rfl, ?_⟩)); exact rfl; exact rfl; exact rfl; exact rfl; exact rfl) | (apply v_move; exact rfl; exact rfl) | (apply v_assign; exact rfl; exact rfl) | refine run_seq ?_ | refine run_region ?_ | refine runL_nil ?_ | refine run_skip ?_ | refine run_block ?_ | (apply run_cond; exact rfl; (focus (intro hb; cases hb; done)); intro hb; clear hb) | (apply v_lenL; exact slA rfl; exact rfl; exact rfl) | (apply v_eqlNil; exact ptA rfl; exact rfl; exact NN.ptr; exact rfl)))
    refine v_loop (fun i : Nat => ⟨[(0, .ptr 0 0), (1, .v (.int .i64 p)), (2, .sem (listS intE ks)), (7, .ptr 1 ((p - 1).toNat * 9)), (22, .sem (listS intE ks)), (23, .v (.int .i64 ks.length)), (24, .v (.int .i64 i))], forR 1 l⟩) (fun i => i ≤ ks.length ∧ ∀ j, j < i → argOk l ks j = true) (fun i => ks.length - i) 0 idN ⟨rfl, rfl, trivial⟩ (by repeat (first | exact trivial | refine ⟨rfl, ?_⟩)) (by repeat (first | exact trivial | refine ⟨rfl, ?_⟩)) rfl ⟨by omega, fun j hj => by omega⟩ fun i ⟨hi, hok⟩ ih => ?_
    (repeat (first | refine run_seq ?_ | refine run_region ?_ | refine runL_nil ?_ | (apply v_lss; exact rfl; exact rfl; exact rfl)))
    refine run_cond rfl (fun h => ?_) (fun h => ?_)
    · have hlt : i < ks.length := by simpa using h
      have hx : ks[((i : Int)).toNat]? = some ks[i] := by simp [hlt]
      have hgd : ks.getD i 0 = ks[i] := by simp [hlt]
      (repeat (first | (apply v_move; exact rfl; exact rfl) | refine run_seq ?_ | refine run_region ?_ | refine run_skip ?_ | refine run_block ?_))
      refine v_idxL (slA rfl) (tyA rfl) rfl rfl rfl rfl (by omega) hx rfl ?_
      cases hq : nodeAt l ks[i] with
      | none =>
        (repeat (first | (apply v_cSx; exact rfl; exact cbA rfl; (first | exact at_mn hq hm); (repeat (first | exact trivial | refine ⟨rfl, ?_⟩)); exact rfl; exact rfl; exact rfl; exact rfl; exact rfl) | (apply v_move; exact rfl; exact rfl) | (apply v_assign; exact rfl; exact rfl) | refine run_seq ?_ | refine run_region ?_ | refine runL_nil ?_ | (apply v_loadA; exact tyA rfl; exact rfl; exact rfl; exact rfl; exact rfl; exact rfl; exact rfl) | (apply v_off; exact rfl; exact rfl) | (apply v_pick_t; exact rfl; exact rfl; exact rfl) | (apply run_cond; exact rfl; rotate_left; (focus (intro hb; cases hb; done)); intro hb; clear hb) | (apply v_nilEql; exact ptA rfl; exact rfl; exact rfl)))
        have hT2 : T = (l, 1) := by
          rw [hr, if_pos]
          rw [← Bool.not_eq_true, List.all_eq_true]
          intro hall
          have := hall i (List.mem_range.2 hlt)
          rw [argOk, hgd, hq] at this
          simp at this
        clear hr
        subst hT2
        exact run_ret (mp [(2, 1)]) _ Try.func46 ⟨_, _, rfl, rfl, rfl⟩ rfl ⟨rfl, rfl, trivial⟩ ⟨rfl, rfl, trivial⟩ rfl
      | some y =>
        (repeat (first | (apply v_cSx; exact rfl; exact cbA rfl; (first | exact at_m hq hm); (repeat (first | exact trivial | refine ⟨rfl, ?_⟩)); exact rfl; exact rfl; exact rfl; exact rfl; exact rfl) | (apply v_cx; exact rfl; exact cbA rfl; (first | exact contains_i _ (by simp; omega)); exact rfl; exact rfl) | (apply v_move; exact rfl; exact rfl) | (apply v_assign; exact rfl; exact rfl) | refine run_seq ?_ | refine run_region ?_ | refine runL_nil ?_ | (apply v_loadA; exact tyA rfl; exact rfl; exact rfl; exact rfl; exact rfl; exact rfl; exact rfl) | (apply v_on; exact rfl) | (apply v_pick_f; exact rfl; exact rfl; exact rfl) | (apply v_eqlNil; exact ptA rfl; exact rfl; exact NN.ptr; exact rfl) | (apply v_sliceH; exact slA rfl; exact tyA rfl; exact rfl; exact rfl; exact rfl; exact (by omega); exact (by omega); exact rfl)))
        have htk : ((i : Int)).toNat = i := by omega
        refine run_cond rfl (fun h => ?_) (fun h => ?_)
        · have hin : ks[i] ∈ ks.take i := by simpa using h
          have hT2 : T = (l, 1) := by
            rw [hr, if_pos]
            rw [← Bool.not_eq_true, List.all_eq_true]
            intro hall
            have := hall i (List.mem_range.2 hlt)
            rw [argOk, hgd] at this
            simp [hin] at this
          clear hr
          subst hT2
          (repeat (first | (apply v_assign; exact rfl; exact rfl) | refine run_seq ?_ | refine run_region ?_ | refine runL_nil ?_))
          exact run_ret (mp [(2, 1)]) _ Try.func46 ⟨_, _, rfl, rfl, rfl⟩ rfl ⟨rfl, rfl, trivial⟩ ⟨rfl, rfl, trivial⟩ rfl
        · have hin : ¬ ks[i] ∈ ks.take i := by simpa using h
          (repeat (first | (apply v_move; exact rfl; exact rfl) | refine run_region ?_ | refine runL_nil ?_ | refine run_skip ?_ | refine run_inBlock ?_ | (apply v_add; exact rfl; exact rfl; exact rfl; exact (by omega))))
          exact v_again ih (i + 1) idN ⟨rfl, rfl, trivial⟩ (by repeat (first | exact trivial | refine ⟨rfl, ?_⟩)) (by repeat (first | exact trivial | refine ⟨rfl, ?_⟩)) rfl ⟨by omega, fun j hj => by
            by_cases e : j = i
            · subst e
              rw [argOk, hgd, hq]
              simp [hin]
            · exact hok j (by omega)⟩ (by omega)
    · have hge : i = ks.length := by have : ¬ i < ks.length := (by simpa using h); omega
      have hall : ∀ j, j < ks.length → argOk l ks j = true := fun j hj => hok j (by omega)
      have hall2 : (List.range ks.length).all (argOk l ks) = true := List.all_eq_true.2 fun j hj => hall j (List.mem_range.1 hj)
      rw [hall2, if_neg (by simp)] at hr
      clear hok ih
      have hsome : ∀ j (hj : j < ks.length), ∃ y, nodeAt l ks[j] = some y := fun j hj => by
        have := hall j hj
        rw [argOk, show ks.getD j 0 = ks[j] by simp [hj], Bool.and_eq_true] at this
        exact Option.isSome_iff_exists.1 this.1
      (repeat (first | (apply v_move; exact rfl; exact rfl) | refine run_seq ?_ | refine run_region ?_ | refine runL_nil ?_ | refine run_block ?_ | (apply run_exit; exact rfl) | (apply v_lenL; exact slA rfl; exact rfl; exact rfl)))
      refine v_loop (fun i : Nat => ⟨[(0, .ptr 0 0), (1, .v (.int .i64 p)), (2, .sem (listS intE ks)), (7, .ptr 1 ((p - 1).toNat * 9)), (41, .sem (listS intE ks)), (42, .v (.int .i64 ks.length)), (43, .v (.int .i64 i))], forR 1 l⟩) (fun i => i ≤ ks.length ∧ ∀ j (hj : j < ks.length), j < i → putOk l p ks[j] = true) (fun i => ks.length - i) 0 idN ⟨rfl, rfl, trivial⟩ (by repeat (first | exact trivial | refine ⟨rfl, ?_⟩)) (by repeat (first | exact trivial | refine ⟨rfl, ?_⟩)) rfl ⟨by omega, fun j _ hj => by omega⟩ fun i ⟨hi, hok⟩ ih => ?_
      (repeat (first | refine run_seq ?_ | refine run_region ?_ | refine runL_nil ?_ | (apply v_lss; exact rfl; exact rfl; exact rfl)))
      refine run_cond rfl (fun h => ?_) (fun h => ?_)
      · have hlt : i < ks.length := by simpa using h
        have hx : ks[((i : Int)).toNat]? = some ks[i] := by simp [hlt]
        obtain ⟨y, hq⟩ := hsome i hlt
        have hjq := (nodeAt_some hq).2.2
        have hA := lend 1 rfl rfl (above_f hu ks[i] p hm (.inr ⟨x, hp⟩))
        have hpo : putOk l p ks[i] = (!(rootedB y) && (!(aboveB l ks[i] p) && (y.parent == 0 || y.parent == p))) := by simp [putOk, hq]
        (repeat' (first | (apply v_idxL; exact slA rfl; exact tyA rfl; exact rfl; exact rfl; exact rfl; exact rfl; exact (by omega); (first | exact hx); exact rfl) | (apply v_cSx; exact rfl; exact cbA rfl; (first | exact at_m hq hm | exact rooted_f hjq | exact hA); (repeat (first | exact trivial | refine ⟨rfl, ?_⟩)); exact rfl; exact rfl; exact rfl; exact rfl; exact rfl) | (apply v_loadO; exact tyA rfl; exact rfl; exact rfl; exact rfl; exact rfl; (first | exact hjq); exact (by decide); exact rfl; exact rfl) | (apply v_move; exact rfl; exact rfl) | (apply v_assign; exact rfl; exact rfl) | refine run_seq ?_ | refine run_region ?_ | refine runL_nil ?_ | refine run_skip ?_ | refine run_block ?_ | refine run_inBlock ?_ | (apply v_fldP; exact flA rfl; exact rfl; exact rfl; exact rfl) | (apply v_loadA; exact tyA rfl; exact rfl; exact rfl; exact rfl; exact rfl; exact rfl; exact rfl) | (apply v_on; exact rfl) | (apply v_off; exact rfl; exact rfl) | (apply v_pick_t; exact rfl; exact rfl; exact rfl) | (apply v_pick_f; exact rfl; exact rfl; exact rfl) | (apply run_cond; exact rfl; rotate_left; (focus (intro hb; cases hb; done)); intro hb; clear hb) | (apply run_cond; exact rfl; (focus (intro hb; cases hb; done)); intro hb; clear hb) | (apply v_neq; exact rfl; exact rfl; exact rfl) | (apply v_nilCheck; exact rfl; exact NN.ptr; exact rfl) | (apply v_add; exact rfl; exact rfl; exact rfl; exact (by omega)) | (apply v_gsplit; exact rfl; exact rfl; exact rfl; all_goals intro hb) | (apply run_cond; exact rfl; all_goals intro hb)))
        all_goals first
          | (refine via (p := putOk l p ks[i] = false) ?_ ?_; (focus (rw [hpo]; simp_all; done)); intro hbad; have hT2 : T = (l, 3) := (hr.trans (if_pos (all_false hlt hbad))); clear hr; subst hT2; exact run_ret (mp [(2, 1)]) _ Try.func46 ⟨_, _, rfl, rfl, rfl⟩ rfl ⟨rfl, rfl, trivial⟩ ⟨rfl, rfl, trivial⟩ rfl)
          | (refine via (p := putOk l p ks[i] = true) ?_ ?_; (focus (rw [hpo]; simp_all; done)); intro hgood; exact v_again ih (i + 1) idN ⟨rfl, rfl, trivial⟩ (by repeat (first | exact trivial | refine ⟨rfl, ?_⟩)) (by repeat (first | exact trivial | refine ⟨rfl, ?_⟩)) rfl ⟨by omega, fun j hj' hj => if e : j = i then (by subst e; exact hgood) else hok j hj' (by omega)⟩ (by omega))
      · have hge : i = ks.length := by have : ¬ i < ks.length := (by simpa using h); omega
        have hall3 : ks.all (putOk l p) = true := List.all_eq_true.2 fun k hk => by
          obtain ⟨j, hj, rfl⟩ := List.getElem_of_mem hk
          exact hok j hj (by omega)
        rw [hall3, if_neg (by simp)] at hr
        subst hr
        clear hok ih hall2 hall3
        (repeat (first | (apply v_loadO; exact tyA rfl; exact rfl; exact rfl; exact rfl; exact rfl; (first | exact hj); exact (by decide); exact rfl; exact rfl) | (apply v_move; exact rfl; exact rfl) | refine run_seq ?_ | refine run_region ?_ | refine runL_nil ?_ | refine run_block ?_ | (apply run_exit; exact rfl) | (apply v_fldP; exact flA rfl; exact rfl; exact rfl; exact rfl) | (apply v_lenL; exact slA rfl; exact rfl; exact rfl) | (apply v_nilCheck; exact rfl; exact NN.ptr; exact rfl)))
        refine v_loop (fun i : Nat => ⟨[(0, .ptr 0 0), (1, .v (.int .i64 p)), (2, .sem (listS intE ks)), (7, .ptr 1 ((p - 1).toNat * 9)), (76, .sem (listS intE x.kids)), (77, .v (.int .i64 x.kids.length)), (78, .v (.int .i64 i))], forR 1 (parAll l (x.kids.take i) 0)⟩) (fun i => i ≤ x.kids.length) (fun i => x.kids.length - i) 0 idN ⟨rfl, rfl, trivial⟩ (by repeat (first | exact trivial | refine ⟨rfl, ?_⟩)) (by repeat (first | exact trivial | refine ⟨rfl, ?_⟩)) rfl (by omega) fun i hi ih => ?_
        (repeat (first | refine run_seq ?_ | refine run_region ?_ | refine runL_nil ?_ | (apply v_lss; exact rfl; exact rfl; exact rfl)))
        refine run_cond rfl (fun h => ?_) (fun h => ?_)
        · have hlt : i < x.kids.length := by simpa using h
          have hx : x.kids[((i : Int)).toNat]? = some x.kids[i] := by simp [hlt]
          have hLl := len_parAll (x.kids.take i) 0 l
          obtain ⟨y, hq⟩ := Option.isSome_iff_exists.1 ((nodeAt_len hLl x.kids[i]).trans (hxc _ (List.getElem_mem hlt)))
          have hstep : parAll l (x.kids.take (i + 1)) 0 = (parAll l (x.kids.take i) 0).set (x.kids[i] - 1).toNat { y with parent := 0 } := by
            rw [parAll_take (k := x.kids[i]) (by simp [hlt]), setPar, hq]
            rfl
          (repeat (first | (apply v_idxL; exact slA rfl; exact tyA rfl; exact rfl; exact rfl; exact rfl; exact rfl; exact (by omega); (first | exact hx); exact rfl) | (apply v_cSx; exact rfl; exact cbA rfl; (first | exact at_m hq (by omega)); (repeat (first | exact trivial | refine ⟨rfl, ?_⟩)); exact rfl; exact rfl; exact rfl; exact rfl; exact rfl) | (apply v_move; exact rfl; exact rfl) | (apply v_assign; exact rfl; exact rfl) | refine run_seq ?_ | refine run_region ?_ | refine runL_nil ?_ | refine run_skip ?_ | refine run_block ?_ | (apply v_fldP; exact flA rfl; exact rfl; exact rfl; exact rfl) | (apply v_loadA; exact tyA rfl; exact rfl; exact rfl; exact rfl; exact rfl; exact rfl; exact rfl) | (apply v_nilCheck; exact rfl; exact NN.ptr; exact rfl)))
          refine v_storeO { y with parent := 0 } (tyA rfl) rfl rfl rfl rfl (nodeAt_some hq).2.2 rfl rfl (by decide) rfl rfl ?_
          (repeat (first | (apply v_move; exact rfl; exact rfl) | refine run_region ?_ | refine runL_nil ?_ | refine run_inBlock ?_ | (apply v_add; exact rfl; exact rfl; exact rfl; exact (by omega))))
          exact v_again ih (i + 1) idN ⟨rfl, rfl, trivial⟩ (by repeat (first | exact trivial | refine ⟨rfl, ?_⟩)) ⟨rfl, by rw [hstep]; rfl, trivial⟩ rfl (by omega) (by omega)
        · have hge : i = x.kids.length := by have : ¬ i < x.kids.length := (by simpa using h); omega
          rw [hge, List.take_length]
          clear ih
          obtain ⟨l1, hl1e⟩ : ∃ l1, l1 = parAll l x.kids 0 := ⟨_, rfl⟩
          have hl1 : l1.length = l.length := by rw [hl1e, len_parAll]
          rw [← hl1e]
          (repeat (first | (apply v_move; exact rfl; exact rfl) | refine run_seq ?_ | refine run_region ?_ | refine runL_nil ?_ | refine run_block ?_ | (apply run_exit; exact rfl) | (apply v_lenL; exact slA rfl; exact rfl; exact rfl)))
          refine v_loop (fun i : Nat => ⟨[(0, .ptr 0 0), (1, .v (.int .i64 p)), (2, .sem (listS intE ks)), (7, .ptr 1 ((p - 1).toNat * 9)), (88, .sem (listS intE ks)), (89, .v (.int .i64 ks.length)), (90, .v (.int .i64 i))], forR 1 (parAll l1 (ks.take i) p)⟩) (fun i => i ≤ ks.length) (fun i => ks.length - i) 0 idN ⟨rfl, rfl, trivial⟩ (by repeat (first | exact trivial | refine ⟨rfl, ?_⟩)) (by repeat (first | exact trivial | refine ⟨rfl, ?_⟩)) rfl (by omega) fun i hi ih => ?_
          (repeat (first | refine run_seq ?_ | refine run_region ?_ | refine runL_nil ?_ | (apply v_lss; exact rfl; exact rfl; exact rfl)))
          refine run_cond rfl (fun h => ?_) (fun h => ?_)
          · have hlt : i < ks.length := by simpa using h
            have hx : ks[((i : Int)).toNat]? = some ks[i] := by simp [hlt]
            have hLl := len_parAll (ks.take i) p l1
            obtain ⟨y, hq⟩ := Option.isSome_iff_exists.1 ((nodeAt_len hLl ks[i]).trans (by obtain ⟨y, hy⟩ := hsome i hlt; rw [nodeAt_len hl1, hy]; rfl))
            have hstep : parAll l1 (ks.take (i + 1)) p = (parAll l1 (ks.take i) p).set (ks[i] - 1).toNat { y with parent := p } := by
              rw [parAll_take (k := ks[i]) (by simp [hlt]), setPar, hq]
              rfl
            (repeat (first | (apply v_idxL; exact slA rfl; exact tyA rfl; exact rfl; exact rfl; exact rfl; exact rfl; exact (by omega); (first | exact hx); exact rfl) | (apply v_cSx; exact rfl; exact cbA rfl; (first | exact at_m hq (by omega)); (repeat (first | exact trivial | refine ⟨rfl, ?_⟩)); exact rfl; exact rfl; exact rfl; exact rfl; exact rfl) | (apply v_move; exact rfl; exact rfl) | (apply v_assign; exact rfl; exact rfl) | refine run_seq ?_ | refine run_region ?_ | refine runL_nil ?_ | refine run_skip ?_ | refine run_block ?_ | (apply v_fldP; exact flA rfl; exact rfl; exact rfl; exact rfl) | (apply v_loadA; exact tyA rfl; exact rfl; exact rfl; exact rfl; exact rfl; exact rfl; exact rfl) | (apply v_nilCheck; exact rfl; exact NN.ptr; exact rfl)))
            refine v_storeO { y with parent := p } (tyA rfl) rfl rfl rfl rfl (nodeAt_some hq).2.2 rfl rfl (by decide) rfl rfl ?_
            (repeat (first | (apply v_move; exact rfl; exact rfl) | refine run_region ?_ | refine runL_nil ?_ | refine run_inBlock ?_ | (apply v_add; exact rfl; exact rfl; exact rfl; exact (by omega))))
            exact v_again ih (i + 1) idN ⟨rfl, rfl, trivial⟩ (by repeat (first | exact trivial | refine ⟨rfl, ?_⟩)) ⟨rfl, by rw [hstep]; rfl, trivial⟩ rfl (by omega) (by omega)
          · have hge : i = ks.length := by have : ¬ i < ks.length := (by simpa using h); omega
            rw [hge, List.take_length]
            clear ih
            obtain ⟨l2, hl2e⟩ : ∃ l2, l2 = parAll l1 ks p := ⟨_, rfl⟩
            have hl2 : l2.length = l.length := by rw [hl2e, len_parAll, hl1]
            rw [← hl2e]
            obtain ⟨p2, hp2⟩ := Option.isSome_iff_exists.1 ((nodeAt_len hl2 p).trans (by rw [hp]; rfl))
            have hj2 := (nodeAt_some hp2).2.2
            have hres : setKids l2 p ks = l2.set (p - 1).toNat { p2 with kids := ks } := by rw [setKids, hp2]; rfl
            rw [hres]
            have hjx : (l2.map fun x => ((x, none) : Nd × Option { u : Value // u.oneCell' = true }))[(p - 1).toNat]? = some (p2, none) := by rw [List.getElem?_map, hj2]; rfl
            refine run_recode 1 (E' := nodeX) (ys := l2.map fun x => (x, none)) rfl rfl (by simp) (by rw [nodeX_all]; exact LeL.refl) ?_
            (repeat (first | (apply v_move; exact rfl; exact rfl) | refine run_seq ?_ | refine run_region ?_ | (apply run_exit; exact rfl) | (apply v_lenL; exact slA rfl; exact rfl; exact rfl)))
            refine v_make intE 0 (slA rfl) (tyA rfl) rfl rfl rfl rfl ⟨Le.refl, trivial⟩ rfl hk rfl rfl rfl rfl ?_
            refine runL_name 104 104 rfl rfl fun u hu1 => ?_
            (repeat (first | (apply v_fldP; exact flA rfl; exact rfl; exact rfl; exact rfl) | (apply v_nilCheck; exact rfl; exact NN.ptr; exact rfl)))
            refine v_storeO (p2, some ⟨u, hu1⟩) (tyA rfl) rfl rfl rfl rfl hjx (okC_one hu1) rfl (by decide) (by simp [cellsA, AV.leaves, AV.leaf, hu1]) rfl ?_
            have hjy : ((l2.map fun x => ((x, none) : Nd × Option { u : Value // u.oneCell' = true })).set (p - 1).toNat (p2, some ⟨u, hu1⟩))[(p - 1).toNat]? = some (p2, some ⟨u, hu1⟩) := by
              rw [List.getElem?_set_self]
              simpa using (List.getElem?_eq_some_iff.1 hj2).1
            (repeat (first | (apply v_loadO; exact tyA rfl; exact rfl; exact rfl; exact rfl; exact rfl; (first | exact hjy); exact (by decide); exact rfl; exact rfl) | (apply v_move; exact rfl; exact rfl) | refine run_seq ?_ | refine run_region ?_ | refine runL_nil ?_ | (apply v_fldP; exact flA rfl; exact rfl; exact rfl; exact rfl) | (apply v_nilCheck; exact rfl; exact NN.ptr; exact rfl)))
            refine v_copyU 104 (slA rfl) (tyA rfl) rfl rfl rfl rfl rfl (by simp) rfl ?_
            refine runL_nil ?_
            refine run_sink 1 104 (E' := nodeE) (ys := l2.set (p - 1).toNat { p2 with kids := ks }) rfl rfl rfl rfl (by simp) (nodeX_sink (u := ⟨u, hu1⟩) l2 _) ?_
            (repeat (first | (apply v_assign; exact rfl; exact rfl) | refine run_seq ?_ | refine run_region ?_ | refine runL_nil ?_))
            exact run_ret (mp [(2, 1)]) _ Try.func46 ⟨_, _, rfl, rfl, rfl⟩ rfl ⟨rfl, rfl, trivial⟩ ⟨rfl, rfl, trivial⟩ rfl
end Go.Proofs.Ytjkidecaciomgaa
