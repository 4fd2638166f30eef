/- kin: Next, Count, Order. -/
import Derived.Test.YtjkidecaciomgaaKi1
namespace Go.Proofs.Ytjkidecaciomgaa
set_option linter.unusedVariables false
set_option linter.unusedSimpArgs false
set_option maxRecDepth 100000
open Go.RowKit

def nextM (l : List Nd) (id : Int) : Int := if 0 ≤ indexM l id then (sibs l id).getD ((indexM l id).toNat + 1) 0 else 0
theorem idxI_lt {xs : List Int} {v : Int} : idxI xs v < xs.length ∨ xs.length = 0 := by
  unfold idxI
  split
  · rename_i h
    have := List.idxOf_lt_length_iff.2 h
    omega
  · omega
theorem indexM_le {l : List Nd} (h : WF l) (id : Int) : indexM l id ≤ 1000000 := by
  have := sibs_ok h id
  unfold indexM
  split
  · omega
  · rcases idxI_lt (xs := sibs l id) (v := id) with h1 | h1
    · omega
    · have : sibs l id = [] := List.eq_nil_of_length_eq_zero h1
      rw [this]
      simp [idxI]
theorem next_k {l : List Nd} (h : WF l) (id : Int) : Fun Try.prog 58 [forA l, .v (.int .i64 id)] [] (.v (.int .i64 (nextM l id))) [] := by
  have hsl := sibs_ok h id
  have hil := indexM_le h id
  have hk := kids_k h id
  have hn : nextM l id = if 0 ≤ indexM l id then (sibs l id).getD ((indexM l id).toNat + 1) 0 else 0 := rfl
  generalize nextM l id = u at *
  generalize indexM l id = i at *
  generalize sibs l id = s at *
  by_cases h0 : 0 ≤ i
  · rw [if_pos h0] at hn
    by_cases h1 : i + 1 < s.length
    · have hx : s[(i + 1).toNat]? = some u := by
        rw [hn, List.getD_eq_getElem?_getD, show (i + 1).toNat = i.toNat + 1 by omega, List.getElem?_eq_getElem (by omega)]; rfl
      refine fun_intro 27 Try.func58 rfl rfl rfl (fun ι F S w => ?_)
      (repeat (first | (apply v_cx; exact rfl; exact cbA rfl; (first | exact hk); exact rfl; exact rfl) | (apply v_move; exact rfl; exact rfl) | (apply v_assign; exact rfl; exact rfl) | refine run_seq ?_ | refine run_region ?_ | refine runL_nil ?_ | (apply v_extract; exact rfl; exact rfl; exact rfl) | (apply v_geq; exact rfl; exact rfl; exact rfl)))
      refine v_is 15 true rfl (by simpa using h0) ?_
      (repeat (first | (apply v_move; exact rfl; exact rfl) | refine runL_nil ?_ | (apply v_on; exact rfl) | (apply v_pick_t; exact rfl; exact rfl; exact rfl) | (apply v_lss; exact rfl; exact rfl; exact rfl) | (apply v_lenL; exact slA rfl; exact rfl; exact rfl) | (apply v_add; exact rfl; exact rfl; exact rfl; exact (by omega))))
      refine run_condY rfl (by simpa using h1) ?_
      (repeat (first | (apply v_idxL; exact slA rfl; exact tyA rfl; exact rfl; exact rfl; exact rfl; exact rfl; exact (by omega); (first | exact hx); exact rfl) | (apply v_move; exact rfl; exact rfl) | (apply v_assign; exact rfl; exact rfl) | refine run_seq ?_ | refine run_region ?_ | refine runL_nil ?_ | (apply v_loadA; exact tyA rfl; exact rfl; exact rfl; exact rfl; exact rfl; exact rfl; exact rfl) | (apply v_add; exact rfl; exact rfl; exact rfl; exact (by omega))))
      exact run_ret idN _ Try.func58 ⟨_, _, rfl, rfl, rfl⟩ rfl trivial trivial rfl
    · have hu : u = 0 := by
        rw [hn, List.getD_eq_getElem?_getD, List.getElem?_eq_none (by omega)]; rfl
      subst hu
      refine fun_intro 27 Try.func58 rfl rfl rfl (fun ι F S w => ?_)
      (repeat (first | (apply v_cx; exact rfl; exact cbA rfl; (first | exact hk); exact rfl; exact rfl) | (apply v_move; exact rfl; exact rfl) | (apply v_assign; exact rfl; exact rfl) | refine run_seq ?_ | refine run_region ?_ | refine runL_nil ?_ | (apply v_extract; exact rfl; exact rfl; exact rfl) | (apply v_geq; exact rfl; exact rfl; exact rfl)))
      refine v_is 15 true rfl (by simpa using h0) ?_
      (repeat (first | (apply v_move; exact rfl; exact rfl) | refine runL_nil ?_ | (apply v_on; exact rfl) | (apply v_pick_t; exact rfl; exact rfl; exact rfl) | (apply v_lss; exact rfl; exact rfl; exact rfl) | (apply v_lenL; exact slA rfl; exact rfl; exact rfl) | (apply v_add; exact rfl; exact rfl; exact rfl; exact (by omega))))
      refine run_condN rfl (by simp; omega) ?_
      (repeat (first | (apply v_assign; exact rfl; exact rfl) | refine run_seq ?_ | refine run_region ?_ | refine runL_nil ?_ | refine run_skip ?_))
      exact run_ret idN _ Try.func58 ⟨_, _, rfl, rfl, rfl⟩ rfl trivial trivial rfl
  · rw [if_neg h0] at hn
    subst hn
    refine fun_intro 27 Try.func58 rfl rfl rfl (fun ι F S w => ?_)
    (repeat (first | (apply v_cx; exact rfl; exact cbA rfl; (first | exact hk); exact rfl; exact rfl) | (apply v_move; exact rfl; exact rfl) | (apply v_assign; exact rfl; exact rfl) | refine run_seq ?_ | refine run_region ?_ | refine runL_nil ?_ | (apply v_extract; exact rfl; exact rfl; exact rfl) | (apply v_geq; exact rfl; exact rfl; exact rfl)))
    refine v_is 15 false rfl (by simp; omega) ?_
    (repeat (first | (apply v_assign; exact rfl; exact rfl) | refine run_seq ?_ | refine run_region ?_ | refine runL_nil ?_ | refine run_skip ?_ | (apply v_off; exact rfl; exact rfl) | (apply v_pick_f; exact rfl; exact rfl; exact rfl) | (apply run_cond; exact rfl; (focus (intro hb; cases hb; done)); intro hb; clear hb)))
    exact run_ret idN _ Try.func58 ⟨_, _, rfl, rfl, rfl⟩ rfl trivial trivial rfl
def ordN (l : List Nd) : Nat → Int → List Int
  | 0, _ => []
  | n + 1, id => match nodeAt l id with
    | none => []
    | some x => id :: x.kids.flatMap (ordN l n)
/-- Tree order. -/
def orderM (l : List Nd) (id : Int) : List Int := ordN l 129 id
theorem kid_chain {l : List Nd} (h : WF l) {p c : Int} {x : Nd} (hp : nodeAt l p = some x) (hc : c ∈ x.kids) : (ch l Nd.parent c).length = (ch l Nd.parent p).length + 1 := by
  obtain ⟨y, hy, e⟩ := h.kid hp hc
  rw [ch_step (desc_par h) h.len hy, e, List.length_cons]
/-- What the walk of Order has. -/
def ordR (l : List Nd) (g : Nat) (out : List Int) : List (Nat × RK) := [(0, .box 25 [forA l]), (1, .box 31 [.res g]), (2, .box 107 [.fn 145 [.ptr 0 0, .ptr 1 0, .ptr 2 0]]), (g, .obj (ownS 3 intE out))]
theorem order1 {l : List Nd} (h : WF l) : ∀ (n : Nat) (id : Int) (out : List Int), 129 ≤ (ch l Nd.parent id).length + n → out.length + (ordN l n id).length ≤ 1000000 → Fun Try.prog 145 [.v (.int .i64 id), .ptr 0 0, .ptr 1 0, .ptr 2 0] (ordR l 3 out) (.tup []) (ordR l 4 (out ++ ordN l n id))
  | 0, id, out, hn, hm => by have := ch_len (desc_par h) id; have := h.len; omega
  | n + 1, id, out, hn, hm => by
    cases hx : nodeAt l id with
    | none =>
      have ho : ordN l (n + 1) id = [] := by simp [ordN, hx]
      rw [ho, List.append_nil]
      refine fun_intro 32 Try.func145 rfl rfl rfl (fun ι F S w => ?_)
      (repeat (first | (apply v_cx; exact rfl; exact cbA rfl; (first | exact node_n h hx); exact rfl; exact rfl) | (apply v_move; exact rfl; exact rfl) | (apply v_assign; exact rfl; exact rfl) | refine run_seq ?_ | refine run_region ?_ | refine runL_nil ?_ | (apply v_extract; exact rfl; exact rfl; exact rfl) | (apply v_loadB; exact tyA rfl; exact rfl; exact rfl; exact rfl; exact rfl; exact rfl; exact rfl) | (apply run_cond; exact rfl; rotate_left; (focus (intro hb; cases hb; done)); intro hb; clear hb) | (apply v_not; exact rfl; exact rfl) | (apply v_allocD; exact tyA rfl; exact rfl; exact rfl; exact rfl; exact rfl) | (apply v_storeW; exact tyA rfl; exact rfl; exact rfl; exact rfl; exact rfl; exact rfl; exact rfl; exact rfl)))
      exact run_ret (mp [(4, 3)]) _ Try.func145 rfl rfl ⟨rfl, rfl, rfl, rfl, trivial⟩ ⟨rfl, rfl, rfl, rfl, trivial⟩ rfl
    | some x =>
      have ho : ordN l (n + 1) id = id :: x.kids.flatMap (ordN l n) := by simp [ordN, hx]
      rw [ho] at hm ⊢
      simp only [List.length_cons] at hm
      refine fun_intro 32 Try.func145 rfl rfl rfl (fun ι F S w => ?_)
      (repeat (first | (apply v_cx; exact rfl; exact cbA rfl; (first | exact node_s h hx); exact rfl; exact rfl) | (apply v_move; exact rfl; exact rfl) | (apply v_assign; exact rfl; exact rfl) | refine run_seq ?_ | refine run_region ?_ | refine runL_nil ?_ | refine run_skip ?_ | (apply v_extract; exact rfl; exact rfl; exact rfl) | (apply v_loadB; exact tyA rfl; exact rfl; exact rfl; exact rfl; exact rfl; exact rfl; exact rfl) | (apply run_cond; exact rfl; (focus (intro hb; cases hb; done)); intro hb; clear hb) | (apply v_not; exact rfl; exact rfl) | (apply v_allocD; exact tyA rfl; exact rfl; exact rfl; exact rfl; exact rfl) | (apply v_storeW; exact tyA rfl; exact rfl; exact rfl; exact rfl; exact rfl; exact rfl; exact rfl; exact rfl)))
      refine v_l intE [id] (slA rfl) (tyA rfl) rfl rfl rfl rfl rfl rfl rfl rfl rfl rfl ?_
      refine v_appendD (slA rfl) (tyA rfl) rfl rfl rfl rfl rfl rfl rfl (by simp; omega) rfl rfl rfl rfl ?_
      have hkl := (kids_ok h id x hx).1
      have hst : ∀ i, i < x.kids.length → (x.kids.take (i + 1)).flatMap (ordN l n) = (x.kids.take i).flatMap (ordN l n) ++ ordN l n (x.kids.getD i 0) := fun i hi => by
        rw [List.take_add_one, List.flatMap_append, List.getElem?_eq_getElem hi, List.getD_eq_getElem?_getD, List.getElem?_eq_getElem hi]
        simp
      have hpre : ∀ i, ((x.kids.take i).flatMap (ordN l n)).length ≤ (x.kids.flatMap (ordN l n)).length := fun i => by
        have := congrArg (fun q : List Int => (q.flatMap (ordN l n)).length) (List.take_append_drop i x.kids)
        simp only [List.flatMap_append, List.length_append] at this
        omega
      (repeat (first | (apply v_move; exact rfl; exact rfl) | refine run_seq ?_ | refine run_region ?_ | refine runL_nil ?_ | refine run_block ?_ | (apply v_fldP; exact flA rfl; exact rfl; exact rfl; exact rfl) | (apply v_loadB; exact tyA rfl; exact rfl; exact rfl; exact rfl; exact rfl; exact rfl; exact rfl) | (apply v_lenL; exact slA rfl; exact rfl; exact rfl) | (apply v_storeW; exact tyA rfl; exact rfl; exact rfl; exact rfl; exact rfl; exact rfl; exact rfl; exact rfl)))
      refine v_loop (fun i : Nat => ⟨[(1, .ptr 0 0), (2, .ptr 1 0), (3, .ptr 2 0), (22, .sem (listS intE x.kids)), (23, .v (.int .i64 x.kids.length)), (24, .v (.int .i64 i))], ordR l 20 (out ++ id :: (x.kids.take i).flatMap (ordN l n))⟩) (fun i => i ≤ x.kids.length) (fun i => x.kids.length - i) 0 idN ⟨rfl, rfl, rfl, rfl, trivial⟩ (by repeat (first | exact trivial | refine ⟨rfl, ?_⟩)) (by repeat (first | exact trivial | refine ⟨rfl, ?_⟩)) rfl (by omega) fun i hi ih => ?_
      (repeat (first | refine run_seq ?_ | refine run_region ?_ | refine runL_nil ?_ | (apply v_lss; exact rfl; exact rfl; exact rfl)))
      refine run_cond rfl (fun hc => ?_) (fun hc => ?_)
      · have hlt : i < x.kids.length := by simpa using hc
        have hx2 : x.kids[((i : Int)).toNat]? = some (x.kids.getD i 0) := by simp [hlt]
        have hmem : x.kids.getD i 0 ∈ x.kids := by
          rw [List.getD_eq_getElem?_getD, List.getElem?_eq_getElem hlt]; exact List.getElem_mem hlt
        have hkc := kid_chain h hx hmem
        have hlen : (out ++ id :: (x.kids.take i).flatMap (ordN l n)).length + (ordN l n (x.kids.getD i 0)).length ≤ 1000000 := by
          have h1 := hpre (i + 1)
          rw [hst i hlt, List.length_append] at h1
          simp only [List.length_append, List.length_cons]
          omega
        (repeat (first | (apply v_idxL; exact slA rfl; exact tyA rfl; exact rfl; exact rfl; exact rfl; exact rfl; exact (by omega); (first | exact hx2); exact rfl) | (apply v_move; exact rfl; exact rfl) | (apply v_assign; exact rfl; exact rfl) | refine run_seq ?_ | refine run_region ?_ | refine runL_nil ?_ | refine run_skip ?_ | refine run_block ?_ | (apply v_loadB; exact tyA rfl; exact rfl; exact rfl; exact rfl; exact rfl; exact rfl; exact rfl) | (apply v_loadA; exact tyA rfl; exact rfl; exact rfl; exact rfl; exact rfl; exact rfl; exact rfl)))
        refine v_cC (l := [.v (.int .i64 (x.kids.getD i 0))]) (cap := [.ptr 0 0, .ptr 1 0, .ptr 2 0]) (mp [(3, 20), (4, 100)]) (order1 h n (x.kids.getD i 0) _ (by omega) hlen) rfl rfl (cbA rfl) ⟨rfl, rfl, rfl, rfl, trivial⟩ (by kernel_rfl) (by kernel_rfl) (by kernel_rfl) (by kernel_rfl) (by kernel_rfl) (by kernel_rfl) (by kernel_rfl) (by kernel_rfl) rfl ?_
        (repeat (first | (apply v_move; exact rfl; exact rfl) | refine run_region ?_ | refine runL_nil ?_ | refine run_inBlock ?_ | (apply v_add; exact rfl; exact rfl; exact rfl; exact (by omega))))
        exact v_again ih (i + 1) (mp [(20, 100)]) ⟨rfl, rfl, rfl, rfl, trivial⟩ (by repeat (first | exact trivial | refine ⟨rfl, ?_⟩)) ⟨rfl, rfl, rfl, by rw [hst i hlt, ← List.cons_append, ← List.append_assoc]; rfl, trivial⟩ rfl (by omega) (by omega)
      · have hge : i = x.kids.length := by have : ¬ i < x.kids.length := (by simpa using hc); omega
        (repeat (first | (apply run_exit; exact rfl)))
        exact run_end (mp [(4, 20)]) _ Try.func145 rfl rfl ⟨rfl, rfl, rfl, rfl, trivial⟩ ⟨rfl, rfl, rfl, by rw [hge, List.take_length]; rfl, trivial⟩ rfl
theorem order_k {l : List Nd} (h : WF l) (id : Int) (hm : (orderM l id).length ≤ 1000000) : Fun Try.prog 54 [forA l, .v (.int .i64 id)] [] (.sem (listS intE (orderM l id))) [] := by
  refine Fun.freeze (e := 3) ?_
  refine fun_intro 12 Try.func54 rfl rfl rfl (fun ι F S w => ?_)
  (repeat (first | (apply v_move; exact rfl; exact rfl) | (apply v_assign; exact rfl; exact rfl) | refine run_seq ?_ | refine run_region ?_ | refine runL_nil ?_ | (apply v_loadB; exact tyA rfl; exact rfl; exact rfl; exact rfl; exact rfl; exact rfl; exact rfl) | (apply v_allocD; exact tyA rfl; exact rfl; exact rfl; exact rfl; exact rfl) | (apply v_boxD; exact rfl; exact rfl; exact rfl; exact rfl; exact rfl; exact rfl; exact rfl) | (apply v_storeW; exact tyA rfl; exact rfl; exact rfl; exact rfl; exact rfl; exact rfl; exact rfl; exact rfl) | (apply v_f; exact rfl; exact rfl)))
  refine runL_ownB 5 0 50 3 intE rfl rfl rfl rfl rfl rfl rfl ?_
  skip
  skip
  refine v_cC (l := [.v (.int .i64 id)]) (cap := [.ptr 0 0, .ptr 1 0, .ptr 2 0]) (mp [(0, 2), (1, 5), (2, 6), (3, 50), (4, 100)]) (order1 h 129 id [] (by omega) (by simpa [orderM] using hm)) rfl rfl (cbA rfl) ⟨rfl, rfl, rfl, rfl, trivial⟩ (by kernel_rfl) (by kernel_rfl) (by kernel_rfl) (by kernel_rfl) (by kernel_rfl) (by kernel_rfl) (by kernel_rfl) (by kernel_rfl) rfl ?_
  (repeat (first | (apply v_assign; exact rfl; exact rfl) | refine run_seq ?_ | refine run_region ?_ | refine runL_nil ?_ | (apply v_loadB; exact tyA rfl; exact rfl; exact rfl; exact rfl; exact rfl; exact rfl; exact rfl)))
  exact run_ret (mp [(0, 100)]) _ Try.func54 ⟨_, _, rfl, rfl, rfl⟩ rfl trivial ⟨rfl, trivial⟩ rfl
end Go.Proofs.Ytjkidecaciomgaa
