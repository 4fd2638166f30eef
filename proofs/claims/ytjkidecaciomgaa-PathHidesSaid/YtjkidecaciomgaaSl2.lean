/- slot: pick, Slots, Of. -/
import Derived.Test.YtjkidecaciomgaaSl1
namespace Go.Proofs.Ytjkidecaciomgaa
set_option linter.unusedVariables false
set_option linter.unusedSimpArgs false
set_option maxRecDepth 100000
open Go.RowKit

abbrev funV (f : FuncId) : AV := .v (.func (.func f) #[] #[])
theorem le_fn (f : FuncId) : Le (funV f) (.fn f []) := fun ι S w u h => by
  simp only [AVR] at h ⊢
  exact ⟨[], by rw [h], rfl⟩
theorem clone_o {xs : List Int} (hm : xs.length ≤ 1000000) : Fun Try.prog 139 [.sem (listS intE xs)] [] (.res 0) [(0, .obj (ownS 3 intE xs))] := by
  refine fun_intro 8 Try.func139 rfl rfl rfl (fun ι F S w => ?_)
  (repeat (first | (apply v_move; exact rfl; exact rfl) | (apply v_assign; exact rfl; exact rfl) | refine run_seq ?_ | refine run_region ?_ | refine runL_nil ?_))
  refine v_sliceNil sl31 rfl rfl (by decide) fun b hb => ?_
  refine runL_nil ?_
  refine run_cond rfl (fun h => ?_) (fun h => ?_)
  · obtain rfl := hb h
    (repeat (first | (apply v_assign; exact rfl; exact rfl) | refine run_seq ?_ | refine run_region ?_ | refine runL_nil ?_))
    refine run_own 2 2 3 intE rfl rfl rfl rfl ?_
    exact run_ret (mp [(0, 2)]) _ Try.func139 ⟨_, _, rfl, rfl, rfl⟩ rfl trivial ⟨rfl, trivial⟩ rfl
  · (repeat (first | refine run_seq ?_ | refine run_region ?_ | refine run_skip ?_))
    refine v_lO intE [] (slA rfl) (tyA rfl) rfl rfl rfl rfl rfl rfl rfl rfl rfl rfl rfl rfl rfl rfl ?_
    (repeat (first | (apply v_move; exact rfl; exact rfl)))
    refine v_appendD (slA rfl) (tyA rfl) rfl rfl rfl rfl rfl rfl rfl (by simpa using hm) rfl rfl rfl rfl ?_
    (repeat (first | (apply v_assign; exact rfl; exact rfl) | refine runL_nil ?_))
    exact run_ret (mp [(0, 7)]) _ Try.func139 ⟨_, _, rfl, rfl, rfl⟩ rfl trivial ⟨rfl, trivial⟩ rfl
theorem slots1_f (x : Int) (n : Nd) : Fun Try.prog 158 [.v (.int .i64 x), .agg (nodeL n)] [] (.v (.bool n.slot)) [] := by
  refine fun_intro 7 Try.func158 rfl rfl rfl (fun ι F S w => ?_)
  (repeat (first | (apply v_assign; exact rfl; exact rfl) | refine run_seq ?_ | refine run_region ?_ | refine runL_nil ?_ | (apply v_fldP; exact flA rfl; exact rfl; exact rfl; exact rfl) | (apply v_loadB; exact tyA rfl; exact rfl; exact rfl; exact rfl; exact rfl; exact rfl; exact rfl) | (apply v_boxD; exact rfl; exact rfl; exact rfl; exact rfl; exact rfl; exact rfl; exact rfl)))
  exact run_ret idN _ Try.func158 ⟨_, _, rfl, rfl, rfl⟩ rfl trivial trivial rfl
def delB (l : List Nd) (x : Int) : Bool := !((nodeAt l x).isSome && (nodeR l x).slot)
theorem pick1a_f {l : List Nd} (h : WF l) (x : Int) : Fun Try.prog 184 [.v (.int .i64 x), .ptr 1 0, .ptr 2 0] [(1, .box 25 [forA l]), (2, .box 123 [.fn 158 []])] (.v (.bool (delB l x))) [(1, .box 25 [forA l]), (2, .box 123 [.fn 158 []])] := by
  cases hx : nodeAt l x with
  | none =>
    rw [show delB l x = true by rw [delB, hx]; rfl]
    refine fun_intro 22 Try.func184 rfl rfl rfl (fun ι F S w => ?_)
    (repeat (first | (apply v_cx; exact rfl; exact cbA rfl; (first | exact node_n h hx); exact rfl; exact rfl) | (apply v_move; exact rfl; exact rfl) | (apply v_assign; exact rfl; exact rfl) | refine run_seq ?_ | refine run_region ?_ | refine runL_nil ?_ | (apply v_extract; exact rfl; exact rfl; exact rfl) | (apply v_loadB; exact tyA rfl; exact rfl; exact rfl; exact rfl; exact rfl; exact rfl; exact rfl) | (apply v_off; exact rfl; exact rfl) | (apply v_pick_t; exact rfl; exact rfl; exact rfl) | (apply v_not; exact rfl; exact rfl) | (apply v_allocD; exact tyA rfl; exact rfl; exact rfl; exact rfl; exact rfl) | (apply v_storeW; exact tyA rfl; exact rfl; exact rfl; exact rfl; exact rfl; exact rfl; exact rfl; exact rfl)))
    exact run_ret idN _ Try.func184 ⟨_, _, rfl, rfl, rfl⟩ rfl ⟨rfl, rfl, trivial⟩ ⟨rfl, rfl, trivial⟩ rfl
  | some n =>
    rw [show delB l x = !n.slot by rw [delB, hx, nodeR_some hx]; rfl]
    refine fun_intro 22 Try.func184 rfl rfl rfl (fun ι F S w => ?_)
    (repeat (first | (apply v_cx; exact rfl; exact cbA rfl; (first | exact node_s h hx); exact rfl; exact rfl) | (apply v_move; exact rfl; exact rfl) | (apply v_assign; exact rfl; exact rfl) | refine run_seq ?_ | refine run_region ?_ | refine runL_nil ?_ | (apply v_extract; exact rfl; exact rfl; exact rfl) | (apply v_loadB; exact tyA rfl; exact rfl; exact rfl; exact rfl; exact rfl; exact rfl; exact rfl) | (apply v_on; exact rfl) | (apply v_not; exact rfl; exact rfl) | (apply v_allocD; exact tyA rfl; exact rfl; exact rfl; exact rfl; exact rfl) | (apply v_storeW; exact tyA rfl; exact rfl; exact rfl; exact rfl; exact rfl; exact rfl; exact rfl; exact rfl)))
    refine v_cC (l := [.v (.int .i64 x), .agg (nodeL n)]) (cap := []) idN (slots1_f x n) rfl rfl (cbA rfl) trivial (by kernel_rfl) (by kernel_rfl) (by kernel_rfl) (by kernel_rfl) (by kernel_rfl) (by kernel_rfl) (by kernel_rfl) (by kernel_rfl) rfl ?_
    (repeat (first | (apply v_assign; exact rfl; exact rfl) | refine runL_nil ?_ | (apply v_on; exact rfl) | (apply v_pick_f; exact rfl; exact rfl; exact rfl) | (apply v_not; exact rfl; exact rfl)))
    exact run_ret idN _ Try.func184 ⟨_, _, rfl, rfl, rfl⟩ rfl ⟨rfl, rfl, trivial⟩ ⟨rfl, rfl, trivial⟩ rfl
theorem picka_f {l : List Nd} (h : WF l) {xs : List Int} (hm : xs.length ≤ 1000000) : Fun Try.prog 156 [forA l, .sem (listS intE xs), funV 158] [] (.res 0) [(0, .obj (ownS 3 intE (xs.filter fun x => !(delB l x))))] := by
  have hd := delfunc_a (l := l) (p := delB l) hm fun x _ => pick1a_f h x
  refine fun_intro 11 Try.func156 rfl rfl rfl (fun ι F S w => ?_)
  refine run_le 2 rfl (y := .fn 158 []) (le_fn _) ?_
  (repeat (first | (apply v_cOx; exact rfl; exact cbA rfl; (first | exact clone_o hm); exact rfl; exact rfl; exact rfl; exact rfl; exact rfl) | (apply v_move; exact rfl; exact rfl) | (apply v_assign; exact rfl; exact rfl) | refine run_seq ?_ | refine run_region ?_ | refine runL_nil ?_ | (apply v_boxD; exact rfl; exact rfl; exact rfl; exact rfl; exact rfl; exact rfl; exact rfl) | (apply v_f; exact rfl; exact rfl)))
  refine v_cR (mp [(0, 8), (1, 3), (2, 5), (9, 50)]) hd rfl (cbA rfl) ⟨rfl, rfl, rfl, trivial⟩ (by kernel_rfl) (by kernel_rfl) (by kernel_rfl) (by kernel_rfl) (by kernel_rfl) (by kernel_rfl) (by kernel_rfl) (by kernel_rfl) rfl ?_
  (repeat (first | (apply v_assign; exact rfl; exact rfl) | refine runL_nil ?_))
  exact run_ret (mp [(0, 50)]) _ Try.func156 ⟨_, _, rfl, rfl, rfl⟩ rfl trivial ⟨rfl, trivial⟩ rfl
def slotsM (l : List Nd) (root : Int) : List Int := (orderM l root).filter fun x => !(delB l x)
theorem slots_f {l : List Nd} (h : WF l) (root : Int) : Fun Try.prog 108 [forA l, .v (.int .i64 root)] [] (.res 0) [(0, .obj (ownS 3 intE (slotsM l root)))] := by
  have ho := ord_len h root
  have hlen := h.len
  have hp := picka_f h (xs := orderM l root) (by omega)
  refine fun_intro 10 Try.func108 rfl rfl rfl (fun ι F S w => ?_)
  (repeat (first | (apply v_cx; exact rfl; exact cbA rfl; (first | exact order_p h root); exact rfl; exact rfl) | (apply v_cOx; exact rfl; exact cbA rfl; (first | exact hp); exact rfl; exact rfl; exact rfl; exact rfl; exact rfl) | (apply v_move; exact rfl; exact rfl) | (apply v_assign; exact rfl; exact rfl) | refine run_seq ?_ | refine run_region ?_ | refine runL_nil ?_))
  exact run_ret (mp [(0, 9)]) _ Try.func108 ⟨_, _, rfl, rfl, rfl⟩ rfl trivial ⟨rfl, trivial⟩ rfl
theorem slots_p {l : List Nd} (h : WF l) (root : Int) : Fun Try.prog 108 [forA l, .v (.int .i64 root)] [] (.sem (listS intE (slotsM l root))) [] := (slots_f h root).freeze
def named1 (l : List Nd) (w : ByteArray) (s : Int) : Bool := decide ((nodeR l s).name = w)
def ofM (l : List Nd) (id : Int) : Int :=
  match nodeAt l (nodeR l id).parent with
  | none => 0
  | some p => if (nodeR l id).kind ≠ 2 ∨ p.shadow = 0 then 0 else ((slotsM l p.shadow).find? (named1 l (nodeR l id).want)).getD 0
theorem slots_len {l : List Nd} (h : WF l) (root : Int) : (slotsM l root).length ≤ 128 := by
  have h1 := ord_len h root
  have h2 := h.len
  exact Nat.le_trans (List.length_filter_le _ _) (by omega)
theorem of_f {l : List Nd} (h : WF l) (id : Int) : Fun Try.prog 103 [forA l, .v (.int .i64 id)] [] (.v (.int .i64 (ofM l id))) [] := by
  have hn := node_w h id
  have ho : ofM l id = match nodeAt l (nodeR l id).parent with
    | none => 0
    | some p => if (nodeR l id).kind ≠ 2 ∨ p.shadow = 0 then 0 else ((slotsM l p.shadow).find? (named1 l (nodeR l id).want)).getD 0 := rfl
  generalize nodeR l id = n at *
  generalize (nodeAt l id).isSome = ok at *
  cases hp : nodeAt l n.parent with
  | none =>
    rw [hp] at ho
    rw [ho]
    refine fun_intro 60 Try.func103 rfl rfl rfl (fun ι F S w => ?_)
    (repeat (first | (apply v_cx; exact rfl; exact cbA rfl; (first | exact hn | exact node_n h hp); exact rfl; exact rfl) | (apply v_move; exact rfl; exact rfl) | (apply v_assign; exact rfl; exact rfl) | refine run_seq ?_ | refine run_region ?_ | refine runL_nil ?_ | (apply v_extract; exact rfl; exact rfl; exact rfl) | (apply v_fldP; exact flA rfl; exact rfl; exact rfl; exact rfl) | (apply v_loadB; exact tyA rfl; exact rfl; exact rfl; exact rfl; exact rfl; exact rfl; exact rfl) | (apply v_off; exact rfl; exact rfl) | (apply v_pick_t; exact rfl; exact rfl; exact rfl) | (apply run_cond; exact rfl; rotate_left; (focus (intro hb; cases hb; done)); intro hb; clear hb) | (apply v_not; exact rfl; exact rfl) | (apply v_allocD; exact tyA rfl; exact rfl; exact rfl; exact rfl; exact rfl) | (apply v_storeW; exact tyA rfl; exact rfl; exact rfl; exact rfl; exact rfl; exact rfl; exact rfl; exact rfl)))
    exact run_ret idN _ Try.func103 ⟨_, _, rfl, rfl, rfl⟩ rfl trivial trivial rfl
  | some p =>
    rw [hp] at ho
    dsimp only at ho
    by_cases hk : n.kind = 2
    · by_cases hs : p.shadow = 0
      · rw [if_pos (.inr hs)] at ho
        rw [ho]
        refine fun_intro 60 Try.func103 rfl rfl rfl (fun ι F S w => ?_)
        (repeat (first | (apply v_cx; exact rfl; exact cbA rfl; (first | exact hn | exact node_s h hp); exact rfl; exact rfl) | (apply v_move; exact rfl; exact rfl) | (apply v_assign; exact rfl; exact rfl) | refine run_seq ?_ | refine run_region ?_ | refine runL_nil ?_ | (apply v_extract; exact rfl; exact rfl; exact rfl) | (apply v_fldP; exact flA rfl; exact rfl; exact rfl; exact rfl) | (apply v_loadB; exact tyA rfl; exact rfl; exact rfl; exact rfl; exact rfl; exact rfl; exact rfl) | (apply v_on; exact rfl) | (apply v_pick_f; exact rfl; exact rfl; exact rfl) | (apply v_not; exact rfl; exact rfl) | (apply v_neq; exact rfl; exact rfl; exact rfl) | (apply v_allocD; exact tyA rfl; exact rfl; exact rfl; exact rfl; exact rfl) | (apply v_storeW; exact tyA rfl; exact rfl; exact rfl; exact rfl; exact rfl; exact rfl; exact rfl; exact rfl)))
        refine v_is 33 false rfl (by simpa using hk) ?_
        (repeat (first | refine runL_nil ?_ | (apply v_fldP; exact flA rfl; exact rfl; exact rfl; exact rfl) | (apply v_loadB; exact tyA rfl; exact rfl; exact rfl; exact rfl; exact rfl; exact rfl; exact rfl) | (apply v_on; exact rfl) | (apply v_pick_f; exact rfl; exact rfl; exact rfl) | (apply v_eql; exact rfl; exact rfl; exact rfl)))
        refine run_condY rfl (by simpa using hs) ?_
        (repeat (first | (apply v_assign; exact rfl; exact rfl) | refine run_seq ?_ | refine run_region ?_ | refine runL_nil ?_))
        exact run_ret idN _ Try.func103 ⟨_, _, rfl, rfl, rfl⟩ rfl trivial trivial rfl
      · rw [if_neg (fun e => e.elim (fun e => e hk) hs)] at ho
        have hsl := slots_p h p.shadow
        have hln := slots_len h p.shadow
        generalize slotsM l p.shadow = u at *
        rw [ho]
        clear ho
        refine fun_intro 60 Try.func103 rfl rfl rfl (fun ι F S w => ?_)
        (repeat (first | (apply v_cx; exact rfl; exact cbA rfl; (first | exact hn | exact node_s h hp); exact rfl; exact rfl) | (apply v_move; exact rfl; exact rfl) | (apply v_assign; exact rfl; exact rfl) | refine run_seq ?_ | refine run_region ?_ | refine runL_nil ?_ | (apply v_extract; exact rfl; exact rfl; exact rfl) | (apply v_fldP; exact flA rfl; exact rfl; exact rfl; exact rfl) | (apply v_loadB; exact tyA rfl; exact rfl; exact rfl; exact rfl; exact rfl; exact rfl; exact rfl) | (apply v_on; exact rfl) | (apply v_pick_f; exact rfl; exact rfl; exact rfl) | (apply v_not; exact rfl; exact rfl) | (apply v_neq; exact rfl; exact rfl; exact rfl) | (apply v_allocD; exact tyA rfl; exact rfl; exact rfl; exact rfl; exact rfl) | (apply v_storeW; exact tyA rfl; exact rfl; exact rfl; exact rfl; exact rfl; exact rfl; exact rfl; exact rfl)))
        refine v_is 33 false rfl (by simpa using hk) ?_
        (repeat (first | refine runL_nil ?_ | (apply v_fldP; exact flA rfl; exact rfl; exact rfl; exact rfl) | (apply v_loadB; exact tyA rfl; exact rfl; exact rfl; exact rfl; exact rfl; exact rfl; exact rfl) | (apply v_on; exact rfl) | (apply v_pick_f; exact rfl; exact rfl; exact rfl) | (apply v_eql; exact rfl; exact rfl; exact rfl)))
        refine run_condN rfl (by simpa using hs) ?_
        (repeat (first | (apply v_cx; exact rfl; exact cbA rfl; (first | exact hsl); exact rfl; exact rfl) | (apply v_move; exact rfl; exact rfl) | refine run_seq ?_ | refine run_region ?_ | refine runL_nil ?_ | refine run_skip ?_ | refine run_block ?_ | (apply v_fldP; exact flA rfl; exact rfl; exact rfl; exact rfl) | (apply v_loadB; exact tyA rfl; exact rfl; exact rfl; exact rfl; exact rfl; exact rfl; exact rfl) | (apply v_lenL; exact slA rfl; exact rfl; exact rfl)))
        refine v_loop (fun i : Nat => ⟨[(0, forA l), (5, .ptr 5 0), (41, .sem (listS intE u)), (42, .v (.int .i64 u.length)), (43, .v (.int .i64 i))], [(5, .box 33 (nodeL n))]⟩) (fun i => i ≤ u.length ∧ ∀ s ∈ u.take i, named1 l n.want s = false) (fun i => u.length - i) 0 idN trivial (by repeat (first | exact trivial | refine ⟨rfl, ?_⟩)) ⟨rfl, trivial⟩ rfl ⟨by omega, fun s hs => by simp at hs⟩ fun i ⟨hi, hq⟩ ih => ?_
        (repeat (first | refine run_seq ?_ | refine run_region ?_ | refine runL_nil ?_ | (apply v_lss; exact rfl; exact rfl; exact rfl)))
        refine run_cond rfl (fun hb => ?_) (fun hb => ?_)
        · have hlt : i < u.length := by simpa using hb
          have hx : u[((i : Int)).toNat]? = some u[i] := by simp [hlt]
          have hm := node_w h u[i]
          have hst : u.take (i + 1) = u.take i ++ [u[i]] := by rw [List.take_add_one, List.getElem?_eq_getElem hlt]; rfl
          have hfd : named1 l n.want u[i] = true → u.find? (named1 l n.want) = some u[i] := fun e => by
            rw [List.find?_eq_some_iff_append]
            refine ⟨e, u.take i, u.drop (i + 1), ?_, fun s hs => by rw [hq s hs]; rfl⟩
            rw [← List.drop_eq_getElem_cons hlt, List.take_append_drop]
          have hnm : named1 l n.want u[i] = decide ((nodeR l u[i]).name = n.want) := rfl
          generalize u[i] = s at *
          generalize nodeR l s = m at *
          generalize (nodeAt l s).isSome = ok2 at *
          (repeat (first | (apply v_idxL; exact slA rfl; exact tyA rfl; exact rfl; exact rfl; exact rfl; exact rfl; exact (by omega); (first | exact hx); exact rfl) | (apply v_cx; exact rfl; exact cbA rfl; (first | exact hm); exact rfl; exact rfl) | (apply v_move; exact rfl; exact rfl) | (apply v_assign; exact rfl; exact rfl) | refine run_seq ?_ | refine run_region ?_ | refine runL_nil ?_ | refine run_skip ?_ | refine run_block ?_ | (apply v_extract; exact rfl; exact rfl; exact rfl) | (apply v_fldP; exact flA rfl; exact rfl; exact rfl; exact rfl) | (apply v_loadB; exact tyA rfl; exact rfl; exact rfl; exact rfl; exact rfl; exact rfl; exact rfl) | (apply v_loadA; exact tyA rfl; exact rfl; exact rfl; exact rfl; exact rfl; exact rfl; exact rfl) | (apply v_allocD; exact tyA rfl; exact rfl; exact rfl; exact rfl; exact rfl) | (apply v_storeW; exact tyA rfl; exact rfl; exact rfl; exact rfl; exact rfl; exact rfl; exact rfl; exact rfl) | (apply v_eqlS; exact rfl; exact rfl; exact rfl)))
          refine run_cond rfl (fun hb => ?_) (fun hb => ?_)
          · have e : m.name = n.want := by simpa using hb
            rw [hfd (by rw [hnm]; exact decide_eq_true e)]
            (repeat (first | (apply v_move; exact rfl; exact rfl) | (apply v_assign; exact rfl; exact rfl) | refine run_seq ?_ | refine run_region ?_ | refine runL_nil ?_))
            exact run_ret idN _ Try.func103 ⟨_, _, rfl, rfl, rfl⟩ rfl trivial trivial rfl
          · have e : m.name ≠ n.want := by simpa using hb
            (repeat (first | (apply v_move; exact rfl; exact rfl) | refine run_region ?_ | refine runL_nil ?_ | refine run_skip ?_ | refine run_inBlock ?_ | (apply v_add; exact rfl; exact rfl; exact rfl; exact (by omega))))
            exact v_again ih (i + 1) idN trivial (by repeat (first | exact trivial | refine ⟨rfl, ?_⟩)) ⟨rfl, trivial⟩ rfl ⟨by omega, fun s' hs' => by
              rw [hst] at hs'
              rcases List.mem_append.1 hs' with hs' | hs'
              · exact hq s' hs'
              · rw [List.mem_singleton] at hs'
                rw [hs', hnm]
                exact decide_eq_false e⟩ (by omega)
        · have hge : i = u.length := by have : ¬ i < u.length := (by simpa using hb); omega
          rw [hge, List.take_length] at hq
          rw [List.find?_eq_none.2 fun s hs => by rw [hq s hs]; simp]
          (repeat (first | (apply v_assign; exact rfl; exact rfl) | refine run_seq ?_ | refine run_region ?_ | refine runL_nil ?_ | (apply run_exit; exact rfl)))
          exact run_ret idN _ Try.func103 ⟨_, _, rfl, rfl, rfl⟩ rfl trivial trivial rfl
    · rw [if_pos (.inl hk)] at ho
      rw [ho]
      refine fun_intro 60 Try.func103 rfl rfl rfl (fun ι F S w => ?_)
      (repeat (first | (apply v_cx; exact rfl; exact cbA rfl; (first | exact hn | exact node_s h hp); exact rfl; exact rfl) | (apply v_move; exact rfl; exact rfl) | (apply v_assign; exact rfl; exact rfl) | refine run_seq ?_ | refine run_region ?_ | refine runL_nil ?_ | (apply v_extract; exact rfl; exact rfl; exact rfl) | (apply v_fldP; exact flA rfl; exact rfl; exact rfl; exact rfl) | (apply v_loadB; exact tyA rfl; exact rfl; exact rfl; exact rfl; exact rfl; exact rfl; exact rfl) | (apply v_on; exact rfl) | (apply v_pick_f; exact rfl; exact rfl; exact rfl) | (apply v_not; exact rfl; exact rfl) | (apply v_neq; exact rfl; exact rfl; exact rfl) | (apply v_allocD; exact tyA rfl; exact rfl; exact rfl; exact rfl; exact rfl) | (apply v_storeW; exact tyA rfl; exact rfl; exact rfl; exact rfl; exact rfl; exact rfl; exact rfl; exact rfl)))
      refine v_is 33 true rfl (by simpa using hk) ?_
      (repeat (first | (apply v_assign; exact rfl; exact rfl) | refine run_seq ?_ | refine run_region ?_ | refine runL_nil ?_ | (apply v_off; exact rfl; exact rfl) | (apply v_pick_t; exact rfl; exact rfl; exact rfl) | (apply run_cond; exact rfl; rotate_left; (focus (intro hb; cases hb; done)); intro hb; clear hb)))
      exact run_ret idN _ Try.func103 ⟨_, _, rfl, rfl, rfl⟩ rfl trivial trivial rfl
end Go.Proofs.Ytjkidecaciomgaa
