/- The reference's nodes (towncrierref04): There, Copy, Make, Over, Up. -/
import Derived.Test.YtjkidecaciomgaaRf2
import Derived.Test.YtjkidecaciomgaaBC
import Derived.Test.YtjkidecaciomgaaRf1
import Derived.Test.YtjkidecaciomgaaRf4p
namespace Go.Proofs.Ytjkidecaciomgaa
set_option linter.unusedVariables false
set_option linter.unusedSimpArgs false
set_option maxRecDepth 100000
open Go.RowKit

theorem there_s {l : List Nd} {id : Int} {x : Nd} (h : nodeAt l id = some x) : Fun Try.prog 39 [.sem (listS nodeE l), .v (.int .i64 id)] [] (.v (.bool true)) [] := by
  obtain ⟨h0, h1, _⟩ := nodeAt_some h
  refine fun_intro 13 Try.func39 rfl rfl rfl (fun ι F S w => ?_)
  (repeat (first | (apply v_move; exact rfl; exact rfl) | (apply v_assign; exact rfl; exact rfl) | refine run_seq ?_ | refine run_region ?_ | refine runL_nil ?_ | (apply v_geq; exact rfl; exact rfl; exact rfl)))
  refine v_is 7 true rfl (by simpa using h0) ?_
  (repeat (first | (apply v_move; exact rfl; exact rfl) | (apply v_assign; exact rfl; exact rfl) | refine runL_nil ?_ | (apply v_on; exact rfl) | (apply v_pick_t; exact rfl; exact rfl; exact rfl) | (apply v_leq; exact rfl; exact rfl; exact rfl) | (apply v_lenL; exact slA rfl; exact rfl; exact rfl)))
  exact run_ret idN _ Try.func39 ⟨_, _, rfl, rfl, rfl⟩ (by simp [AV.ren, oneA, h1]) trivial trivial rfl
theorem there_n {l : List Nd} {id : Int} (h : nodeAt l id = none) : Fun Try.prog 39 [.sem (listS nodeE l), .v (.int .i64 id)] [] (.v (.bool false)) [] := by
  have h := nodeAt_none h
  by_cases h0 : 1 ≤ id
  · refine fun_intro 13 Try.func39 rfl rfl rfl (fun ι F S w => ?_)
    (repeat (first | (apply v_move; exact rfl; exact rfl) | (apply v_assign; exact rfl; exact rfl) | refine run_seq ?_ | refine run_region ?_ | refine runL_nil ?_ | (apply v_geq; exact rfl; exact rfl; exact rfl)))
    refine v_is 7 true rfl (by simpa using h0) ?_
    (repeat (first | (apply v_move; exact rfl; exact rfl) | (apply v_assign; exact rfl; exact rfl) | refine runL_nil ?_ | (apply v_on; exact rfl) | (apply v_pick_t; exact rfl; exact rfl; exact rfl) | (apply v_leq; exact rfl; exact rfl; exact rfl) | (apply v_lenL; exact slA rfl; exact rfl; exact rfl)))
    exact run_ret idN _ Try.func39 ⟨_, _, rfl, rfl, rfl⟩ (by simp [AV.ren, oneA]; omega) trivial trivial rfl
  · refine fun_intro 13 Try.func39 rfl rfl rfl (fun ι F S w => ?_)
    (repeat (first | (apply v_move; exact rfl; exact rfl) | (apply v_assign; exact rfl; exact rfl) | refine run_seq ?_ | refine run_region ?_ | refine runL_nil ?_ | (apply v_geq; exact rfl; exact rfl; exact rfl)))
    refine v_is 7 false rfl (by simp; omega) ?_
    (repeat (first | (apply v_assign; exact rfl; exact rfl) | refine runL_nil ?_ | (apply v_off; exact rfl; exact rfl) | (apply v_pick_f; exact rfl; exact rfl; exact rfl)))
    exact run_ret idN _ Try.func39 ⟨_, _, rfl, rfl, rfl⟩ rfl trivial trivial rfl
theorem has_r {xs : List Int} (v : Int) (hm : xs.length ≤ 1000000) : Fun Try.prog 105 [.sem (listS intE xs), .v (.int .i64 v)] [] (.v (.bool (decide (v ∈ xs)))) [] := by
  refine fun_intro 18 Try.func105 rfl rfl rfl (fun ι F S w => ?_)
  (repeat (first | (apply v_assign; exact rfl; exact rfl) | refine run_seq ?_ | refine run_region ?_ | refine runL_nil ?_ | refine run_block ?_))
  refine v_loop (fun i : Nat => ⟨[(0, .sem (listS intE xs)), (1, .v (.int .i64 v)), (5, .v (.int .i64 i))], []⟩) (fun i => i ≤ xs.length ∧ ∀ j, j < i → xs[j]? ≠ some v) (fun i => xs.length - i) 0 idN trivial (by repeat (first | exact trivial | refine ⟨rfl, ?_⟩)) (by repeat (first | exact trivial | refine ⟨rfl, ?_⟩)) rfl ⟨by omega, fun j hj => by omega⟩ fun i ⟨hi, hp⟩ ih => ?_
  (repeat (first | (apply v_move; exact rfl; exact rfl) | refine run_seq ?_ | refine run_region ?_ | refine runL_nil ?_ | (apply v_lss; exact rfl; exact rfl; exact rfl) | (apply v_lenL; exact slA rfl; exact rfl; exact rfl)))
  refine run_cond rfl (fun h => ?_) (fun h => ?_)
  · have hlt : i < xs.length := by simpa using h
    have hx : xs[((i : Int)).toNat]? = some xs[i] := by simp [hlt]
    (repeat (first | (apply v_idxL; exact slA rfl; exact tyA rfl; exact rfl; exact rfl; exact rfl; exact rfl; exact (by omega); (first | exact hx); exact rfl) | (apply v_move; exact rfl; exact rfl) | refine run_seq ?_ | refine run_region ?_ | refine runL_nil ?_ | refine run_skip ?_ | refine run_block ?_ | (apply v_loadA; exact tyA rfl; exact rfl; exact rfl; exact rfl; exact rfl; exact rfl; exact rfl) | (apply v_eql; exact rfl; exact rfl; exact rfl)))
    refine run_cond rfl (fun h => ?_) (fun h => ?_)
    · have he : xs[i] = v := by simpa using h
      have hf : decide (v ∈ xs) = true := by rw [decide_eq_true_iff, ← he]; exact List.getElem_mem hlt
      rw [hf]
      (repeat (first | (apply v_assign; exact rfl; exact rfl) | refine run_seq ?_ | refine run_region ?_ | refine runL_nil ?_))
      exact run_ret idN _ Try.func105 ⟨_, _, rfl, rfl, rfl⟩ rfl trivial trivial rfl
    · have he : xs[i] ≠ v := by simpa using h
      (repeat (first | (apply v_move; exact rfl; exact rfl) | (apply v_assign; exact rfl; exact rfl) | refine run_region ?_ | refine runL_nil ?_ | refine run_skip ?_ | refine run_inBlock ?_ | (apply v_add; exact rfl; exact rfl; exact rfl; exact (by omega))))
      exact v_again ih (i + 1) idN trivial (by repeat (first | exact trivial | refine ⟨rfl, ?_⟩)) (by repeat (first | exact trivial | refine ⟨rfl, ?_⟩)) rfl ⟨by omega, fun j hj => by
        by_cases e : j = i
        · subst e
          rw [List.getElem?_eq_getElem hlt]
          simpa using he
        · exact hp j (by omega)⟩ (by omega)
  · have hge : i = xs.length := by have : ¬ i < xs.length := (by simpa using h); omega
    have hf : decide (v ∈ xs) = false := by
      rw [decide_eq_false_iff_not]
      intro hm
      obtain ⟨j, hj, rfl⟩ := List.getElem_of_mem hm
      exact hp j (by omega) (List.getElem?_eq_getElem hj)
    rw [hf]
    (repeat (first | (apply v_assign; exact rfl; exact rfl) | refine run_seq ?_ | refine run_region ?_ | refine runL_nil ?_ | (apply run_exit; exact rfl)))
    exact run_ret idN _ Try.func105 ⟨_, _, rfl, rfl, rfl⟩ rfl trivial trivial rfl
theorem copy_r {l : List Nd} (hm : l.length ≤ 1000000) (hk : ∀ x ∈ l, x.kids.length ≤ 1000000) : Fun Try.prog 166 [.sem (listS nodeE l)] [] (.res 0) [(0, .obj (ownS 33 nodeE l))] := by
  refine fun_intro 26 Try.func166 rfl rfl rfl (fun ι F S w => ?_)
  (repeat (first | (apply v_assign; exact rfl; exact rfl) | refine run_seq ?_ | refine run_region ?_ | refine runL_nil ?_))
  refine v_lO nodeE [] (slA rfl) (tyA rfl) rfl rfl rfl rfl rfl rfl rfl rfl rfl rfl rfl rfl rfl rfl ?_
  (repeat (first | (apply v_move; exact rfl; exact rfl)))
  refine v_appendD (slA rfl) (tyA rfl) rfl rfl rfl rfl rfl rfl rfl (by simp; omega) rfl rfl rfl rfl ?_
  (repeat (first | (apply v_assign; exact rfl; exact rfl) | refine run_seq ?_ | refine run_region ?_ | refine runL_nil ?_ | refine run_block ?_))
  refine v_loop (fun i : Nat => ⟨[(0, .sem (listS nodeE l)), (3, .res 7), (4, .v (.int .i64 i))], [(7, .obj (ownS 33 nodeE l))]⟩) (fun i => i ≤ l.length) (fun i => l.length - i) 0 idN trivial (by repeat (first | exact trivial | refine ⟨rfl, ?_⟩)) (by repeat (first | exact trivial | refine ⟨rfl, ?_⟩)) rfl (by omega) fun i hi ih => ?_
  (repeat (first | (apply v_move; exact rfl; exact rfl) | refine run_seq ?_ | refine run_region ?_ | refine runL_nil ?_ | (apply v_lss; exact rfl; exact rfl; exact rfl) | (apply v_lenO; exact slA rfl; exact rfl; exact rfl; exact rfl)))
  refine run_cond rfl (fun h => ?_) (fun h => ?_)
  · have hlt : i < l.length := by simpa using h
    have hx : l[((i : Int)).toNat]? = some l[i] := by simp [hlt]
    have hkx := hk l[i] (List.getElem_mem hlt)
    (repeat (first | (apply v_move; exact rfl; exact rfl) | refine run_seq ?_ | refine run_region ?_ | refine run_skip ?_ | refine run_block ?_))
    refine v_lO intE [] (slA rfl) (tyA rfl) rfl rfl rfl rfl rfl rfl rfl rfl rfl rfl rfl rfl rfl rfl ?_
    (repeat (first | (apply v_idxL; exact slA rfl; exact tyA rfl; exact rfl; exact rfl; exact rfl; exact rfl; exact (by omega); (first | exact hx); exact rfl) | (apply v_move; exact rfl; exact rfl) | (apply v_fldA; exact flA rfl; exact rfl; exact rfl; exact rfl) | (apply v_loadA; exact tyA rfl; exact rfl; exact rfl; exact rfl; exact rfl; exact rfl; exact rfl)))
    refine v_appendD (slA rfl) (tyA rfl) rfl rfl rfl rfl rfl rfl rfl (by simp; omega) rfl rfl rfl rfl ?_
    refine runL_freeze 22 22 rfl rfl ?_
    (repeat (first | (apply v_idxO; exact slA rfl; exact tyA rfl; exact rfl; exact rfl; exact rfl; exact rfl; exact (by omega); exact (by omega); exact rfl) | (apply v_fldP; exact flA rfl; exact rfl; exact rfl; exact rfl)))
    refine v_storeO (xs := l) l[i] (tyA rfl) rfl rfl rfl rfl hx rfl rfl (by decide) rfl rfl ?_
    (repeat (first | (apply v_move; exact rfl; exact rfl) | (apply v_assign; exact rfl; exact rfl) | refine run_region ?_ | refine runL_nil ?_ | refine run_inBlock ?_ | (apply v_add; exact rfl; exact rfl; exact rfl; exact (by omega))))
    exact v_again ih (i + 1) idN trivial (by repeat (first | exact trivial | refine ⟨rfl, ?_⟩)) ⟨by rw [show ((i : Int)).toNat = i by omega, List.set_getElem_self]; rfl, trivial⟩ rfl (by omega) (by omega)
  · (repeat (first | (apply v_move; exact rfl; exact rfl) | (apply v_assign; exact rfl; exact rfl) | refine run_seq ?_ | refine run_region ?_ | refine runL_nil ?_ | (apply run_exit; exact rfl)))
    exact run_ret (mp [(0, 7)]) _ Try.func166 ⟨_, _, rfl, rfl, rfl⟩ rfl trivial ⟨rfl, trivial⟩ rfl
theorem namedr_f {s : ByteArray} (hs : s.size ≤ 9223372036854775807) : Fun Try.prog 179 [.v (.string s)] [] (.v (.bool (namedB s))) [] := by
  have hr : Fun Try.prog 187 [.v (.string s)] [] (.v (.bool (wordB s))) [] := fun_of_calls (l := [.string s]) fun w => (ref_word s w hs).mono fun e w' ⟨h1, h2⟩ => ⟨h1, h2 ▸ Below.refl _ _⟩
  refine fun_intro 9 Try.func179 rfl rfl rfl (fun ι F S w => ?_)
  (repeat' (first | (apply v_cx; exact rfl; exact cbA rfl; (first | exact hr); exact rfl; exact rfl) | (apply v_move; exact rfl; exact rfl) | (apply v_assign; exact rfl; exact rfl) | refine run_seq ?_ | refine run_region ?_ | refine runL_nil ?_ | (apply v_on; exact rfl) | (apply v_off; exact rfl; exact rfl) | (apply v_pick_t; exact rfl; exact rfl; exact rfl) | (apply v_pick_f; exact rfl; exact rfl; exact rfl) | (apply v_eqlS; exact rfl; exact rfl; exact rfl) | (apply v_gsplit; exact rfl; exact rfl; exact rfl; all_goals intro hb)))
  all_goals exact run_ret idN _ Try.func179 ⟨_, _, rfl, rfl, rfl⟩ (by simp_all [AV.ren, oneA, namedB]) trivial trivial rfl
theorem make_r {l : List Nd} {x : Nd} (h1 : x.name.size ≤ 9223372036854775807) (h2 : x.want.size ≤ 9223372036854775807) (hl : l.length ≤ 128) (hk : ∀ x ∈ l, x.kids.length ≤ 1000000) : Fun Try.prog 134 [.sem (listS nodeE l), .agg (nodeL x)] [] (.tup [.sem (listS nodeE (makeM l x).1), .v (.int .i64 (makeM l x).2.1), .v (.int .i64 (makeM l x).2.2)]) [] := by
  have hT' : makeM l x = if rightM x ≠ 0 then (l, 0, rightM x) else if 128 ≤ l.length then (l, 0, 9) else (l ++ [fresh x], (l.length : Int) + 1, 0) := rfl
  generalize makeM l x = T at *
  have hcp := copy_r (l := l) (by omega) hk
  by_cases c1 : x.kind < 1 ∨ x.kind > 4
  · have e : T = (l, 0, 2) := by rw [hT', rightM, if_pos c1]; rfl
    subst e
    clear hT'
    refine fun_intro 97 Try.func134 rfl rfl rfl (fun ι F S w => ?_)
    (repeat (first | (apply v_move; exact rfl; exact rfl) | (apply v_assign; exact rfl; exact rfl) | refine run_seq ?_ | refine run_region ?_ | refine runL_nil ?_ | (apply v_fldP; exact flA rfl; exact rfl; exact rfl; exact rfl) | (apply v_loadB; exact tyA rfl; exact rfl; exact rfl; exact rfl; exact rfl; exact rfl; exact rfl) | (apply v_lss; exact rfl; exact rfl; exact rfl) | (apply v_boxD; exact rfl; exact rfl; exact rfl; exact rfl; exact rfl; exact rfl; exact rfl)))
    by_cases c0 : x.kind < 1
    · refine v_is 10 true rfl (by simpa using c0) ?_
      (repeat (first | (apply v_move; exact rfl; exact rfl) | (apply v_assign; exact rfl; exact rfl) | refine run_seq ?_ | refine run_region ?_ | refine runL_nil ?_ | (apply v_off; exact rfl; exact rfl) | (apply v_pick_t; exact rfl; exact rfl; exact rfl) | (apply run_cond; exact rfl; rotate_left; (focus (intro hb; cases hb; done)); intro hb; clear hb)))
      exact run_ret idN _ Try.func134 ⟨_, _, rfl, rfl, _, _, rfl, rfl, _, _, rfl, rfl, rfl⟩ rfl trivial trivial rfl
    · refine v_is 10 false rfl (by simpa using c0) ?_
      (repeat (first | refine runL_nil ?_ | (apply v_fldP; exact flA rfl; exact rfl; exact rfl; exact rfl) | (apply v_loadB; exact tyA rfl; exact rfl; exact rfl; exact rfl; exact rfl; exact rfl; exact rfl) | (apply v_on; exact rfl) | (apply v_pick_f; exact rfl; exact rfl; exact rfl) | (apply v_gtr; exact rfl; exact rfl; exact rfl)))
      refine run_condY rfl (by simpa using c1.resolve_left c0) ?_
      (repeat (first | (apply v_move; exact rfl; exact rfl) | (apply v_assign; exact rfl; exact rfl) | refine run_seq ?_ | refine run_region ?_ | refine runL_nil ?_))
      exact run_ret idN _ Try.func134 ⟨_, _, rfl, rfl, _, _, rfl, rfl, _, _, rfl, rfl, rfl⟩ rfl trivial trivial rfl
  · have hT2 : T = if (if (x.kind = 3) ≠ (x.mode = 1 ∨ x.mode = 2) ∨ (x.kind ≠ 3 ∧ x.mode ≠ 0) then (1 : Int) else if ((x.slot = true ∨ x.want ≠ ⟨#[]⟩) ∧ x.kind ≠ 2) ∨ (x.name ≠ ⟨#[]⟩ ∧ x.slot = false) ∨ namedB x.name = false ∨ namedB x.want = false then 1 else 0) ≠ 0 then (l, 0, (if (x.kind = 3) ≠ (x.mode = 1 ∨ x.mode = 2) ∨ (x.kind ≠ 3 ∧ x.mode ≠ 0) then (1 : Int) else if ((x.slot = true ∨ x.want ≠ ⟨#[]⟩) ∧ x.kind ≠ 2) ∨ (x.name ≠ ⟨#[]⟩ ∧ x.slot = false) ∨ namedB x.name = false ∨ namedB x.want = false then 1 else 0)) else if 128 ≤ l.length then (l, 0, 9) else (l ++ [fresh x], (l.length : Int) + 1, 0) := by rw [hT', rightM, if_neg c1]
    clear hT'
    refine fun_intro 97 Try.func134 rfl rfl rfl (fun ι F S w => ?_)
    (repeat (first | (apply v_move; exact rfl; exact rfl) | (apply v_assign; exact rfl; exact rfl) | refine run_seq ?_ | refine run_region ?_ | refine runL_nil ?_ | (apply v_fldP; exact flA rfl; exact rfl; exact rfl; exact rfl) | (apply v_loadB; exact tyA rfl; exact rfl; exact rfl; exact rfl; exact rfl; exact rfl; exact rfl) | (apply v_lss; exact rfl; exact rfl; exact rfl) | (apply v_boxD; exact rfl; exact rfl; exact rfl; exact rfl; exact rfl; exact rfl; exact rfl)))
    refine v_is 10 false rfl (by simp; omega) ?_
    (repeat (first | refine runL_nil ?_ | (apply v_fldP; exact flA rfl; exact rfl; exact rfl; exact rfl) | (apply v_loadB; exact tyA rfl; exact rfl; exact rfl; exact rfl; exact rfl; exact rfl; exact rfl) | (apply v_on; exact rfl) | (apply v_pick_f; exact rfl; exact rfl; exact rfl) | (apply v_gtr; exact rfl; exact rfl; exact rfl)))
    refine run_condN rfl (by simp; omega) ?_
    (repeat (first | (apply v_move; exact rfl; exact rfl) | refine run_seq ?_ | refine run_region ?_ | refine run_skip ?_ | (apply v_fldP; exact flA rfl; exact rfl; exact rfl; exact rfl) | (apply v_loadB; exact tyA rfl; exact rfl; exact rfl; exact rfl; exact rfl; exact rfl; exact rfl) | (apply v_eql; exact rfl; exact rfl; exact rfl)))
    by_cases c2 : (x.kind = 3) ≠ (x.mode = 1 ∨ x.mode = 2) ∨ (x.kind ≠ 3 ∧ x.mode ≠ 0)
    · rw [if_pos c2] at hT2
      have e : T = (l, 0, 1) := hT2
      subst e
      by_cases k3 : x.kind = 3
      · have hm : ¬ (x.mode = 1 ∨ x.mode = 2) := fun e => c2.elim (fun h => h (by rw [eq_true k3, eq_true e])) (fun h => h.1 k3)
        refine v_is 19 true rfl (by simpa using k3) ?_
        (repeat (first | (apply v_move; exact rfl; exact rfl) | (apply v_fldP; exact flA rfl; exact rfl; exact rfl; exact rfl) | (apply v_loadB; exact tyA rfl; exact rfl; exact rfl; exact rfl; exact rfl; exact rfl; exact rfl) | (apply v_on; exact rfl) | (apply v_pick_t; exact rfl; exact rfl; exact rfl) | (apply v_neq; exact rfl; exact rfl; exact rfl)))
        refine v_is 24 true rfl (by simp; omega) ?_
        (repeat (first | (apply v_move; exact rfl; exact rfl) | (apply v_fldP; exact flA rfl; exact rfl; exact rfl; exact rfl) | (apply v_loadB; exact tyA rfl; exact rfl; exact rfl; exact rfl; exact rfl; exact rfl; exact rfl) | (apply v_on; exact rfl) | (apply v_pick_t; exact rfl; exact rfl; exact rfl) | (apply v_neq; exact rfl; exact rfl; exact rfl)))
        refine v_is 29 true rfl (by simp; omega) ?_
        (repeat (first | (apply v_move; exact rfl; exact rfl) | (apply v_assign; exact rfl; exact rfl) | refine run_seq ?_ | refine run_region ?_ | refine runL_nil ?_ | (apply v_off; exact rfl; exact rfl) | (apply v_pick_t; exact rfl; exact rfl; exact rfl) | (apply run_cond; exact rfl; rotate_left; (focus (intro hb; cases hb; done)); intro hb; clear hb)))
        exact run_ret idN _ Try.func134 ⟨_, _, rfl, rfl, _, _, rfl, rfl, _, _, rfl, rfl, rfl⟩ rfl trivial trivial rfl
      · have hm : x.mode ≠ 0 := fun e => c2.elim (fun h => h (by rw [eq_false k3, eq_false (show ¬ (x.mode = 1 ∨ x.mode = 2) by omega)])) (fun h => h.2 e)
        refine v_is 19 false rfl (by simpa using k3) ?_
        (repeat (first | (apply v_move; exact rfl; exact rfl) | (apply v_fldP; exact flA rfl; exact rfl; exact rfl; exact rfl) | (apply v_loadB; exact tyA rfl; exact rfl; exact rfl; exact rfl; exact rfl; exact rfl; exact rfl) | (apply v_on; exact rfl) | (apply v_off; exact rfl; exact rfl) | (apply v_pick_f; exact rfl; exact rfl; exact rfl) | (apply v_neq; exact rfl; exact rfl; exact rfl)))
        refine v_is 33 true rfl (by simpa using k3) ?_
        (repeat (first | refine runL_nil ?_ | (apply v_fldP; exact flA rfl; exact rfl; exact rfl; exact rfl) | (apply v_loadB; exact tyA rfl; exact rfl; exact rfl; exact rfl; exact rfl; exact rfl; exact rfl) | (apply v_on; exact rfl) | (apply v_pick_t; exact rfl; exact rfl; exact rfl) | (apply v_pick_f; exact rfl; exact rfl; exact rfl) | (apply v_neq; exact rfl; exact rfl; exact rfl)))
        refine run_condY rfl (by simpa using hm) ?_
        (repeat (first | (apply v_move; exact rfl; exact rfl) | (apply v_assign; exact rfl; exact rfl) | refine run_seq ?_ | refine run_region ?_ | refine runL_nil ?_))
        exact run_ret idN _ Try.func134 ⟨_, _, rfl, rfl, _, _, rfl, rfl, _, _, rfl, rfl, rfl⟩ rfl trivial trivial rfl
    · rw [if_neg c2] at hT2
      apply via
      rotate_left
      · intro key
        by_cases k3 : x.kind = 3
        · have hm : x.mode = 1 ∨ x.mode = 2 := Classical.byContradiction fun e => c2 (.inl (by rw [eq_true k3, eq_false e]; simp))
          refine v_is 19 true rfl (by simpa using k3) ?_
          (repeat (first | (apply v_move; exact rfl; exact rfl) | (apply v_fldP; exact flA rfl; exact rfl; exact rfl; exact rfl) | (apply v_loadB; exact tyA rfl; exact rfl; exact rfl; exact rfl; exact rfl; exact rfl; exact rfl) | (apply v_on; exact rfl) | (apply v_pick_t; exact rfl; exact rfl; exact rfl) | (apply v_neq; exact rfl; exact rfl; exact rfl)))
          by_cases m1 : x.mode = 1
          · refine v_is 24 false rfl (by simpa using m1) ?_
            (repeat (first | (apply v_move; exact rfl; exact rfl) | (apply v_fldP; exact flA rfl; exact rfl; exact rfl; exact rfl) | (apply v_loadB; exact tyA rfl; exact rfl; exact rfl; exact rfl; exact rfl; exact rfl; exact rfl) | (apply v_on; exact rfl) | (apply v_off; exact rfl; exact rfl) | (apply v_pick_f; exact rfl; exact rfl; exact rfl) | (apply v_neq; exact rfl; exact rfl; exact rfl)))
            refine v_is 33 false rfl (by simpa using k3) ?_
            (repeat (first | (apply v_move; exact rfl; exact rfl) | refine run_seq ?_ | refine run_region ?_ | refine runL_nil ?_ | refine run_skip ?_ | (apply v_fldP; exact flA rfl; exact rfl; exact rfl; exact rfl) | (apply v_loadB; exact tyA rfl; exact rfl; exact rfl; exact rfl; exact rfl; exact rfl; exact rfl) | (apply v_on; exact rfl) | (apply v_off; exact rfl; exact rfl) | (apply v_pick_f; exact rfl; exact rfl; exact rfl) | (apply run_cond; exact rfl; (focus (intro hb; cases hb; done)); intro hb; clear hb) | (apply v_neq; exact rfl; exact rfl; exact rfl)))
            refine runL_weak idN (σ2 := ⟨[(0, .sem (listS nodeE l)), (3, .ptr 3 0), (43, .v (.bool (x.kind != 2)))], [(3, .box 33 (nodeL x))]⟩) ?_ ?_ ?_ ?_ key <;> first | exact trivial | exact ⟨rfl, trivial⟩ | exact ⟨rfl, rfl, rfl, trivial⟩ | rfl
          · refine v_is 24 true rfl (by simpa using m1) ?_
            (repeat (first | (apply v_move; exact rfl; exact rfl) | (apply v_fldP; exact flA rfl; exact rfl; exact rfl; exact rfl) | (apply v_loadB; exact tyA rfl; exact rfl; exact rfl; exact rfl; exact rfl; exact rfl; exact rfl) | (apply v_on; exact rfl) | (apply v_pick_t; exact rfl; exact rfl; exact rfl) | (apply v_neq; exact rfl; exact rfl; exact rfl)))
            refine v_is 29 false rfl (by simpa using hm.resolve_left m1) ?_
            (repeat (first | (apply v_move; exact rfl; exact rfl) | (apply v_fldP; exact flA rfl; exact rfl; exact rfl; exact rfl) | (apply v_loadB; exact tyA rfl; exact rfl; exact rfl; exact rfl; exact rfl; exact rfl; exact rfl) | (apply v_on; exact rfl) | (apply v_neq; exact rfl; exact rfl; exact rfl)))
            refine v_is 33 false rfl (by simpa using k3) ?_
            (repeat (first | (apply v_move; exact rfl; exact rfl) | refine run_seq ?_ | refine run_region ?_ | refine runL_nil ?_ | refine run_skip ?_ | (apply v_fldP; exact flA rfl; exact rfl; exact rfl; exact rfl) | (apply v_loadB; exact tyA rfl; exact rfl; exact rfl; exact rfl; exact rfl; exact rfl; exact rfl) | (apply v_on; exact rfl) | (apply v_off; exact rfl; exact rfl) | (apply v_pick_f; exact rfl; exact rfl; exact rfl) | (apply run_cond; exact rfl; (focus (intro hb; cases hb; done)); intro hb; clear hb) | (apply v_neq; exact rfl; exact rfl; exact rfl)))
            refine runL_weak idN (σ2 := ⟨[(0, .sem (listS nodeE l)), (3, .ptr 3 0), (43, .v (.bool (x.kind != 2)))], [(3, .box 33 (nodeL x))]⟩) ?_ ?_ ?_ ?_ key <;> first | exact trivial | exact ⟨rfl, trivial⟩ | exact ⟨rfl, rfl, rfl, trivial⟩ | rfl
        · have hm : x.mode = 0 := Classical.byContradiction fun e => c2 (.inr ⟨k3, e⟩)
          refine v_is 19 false rfl (by simpa using k3) ?_
          (repeat (first | (apply v_move; exact rfl; exact rfl) | (apply v_fldP; exact flA rfl; exact rfl; exact rfl; exact rfl) | (apply v_loadB; exact tyA rfl; exact rfl; exact rfl; exact rfl; exact rfl; exact rfl; exact rfl) | (apply v_on; exact rfl) | (apply v_off; exact rfl; exact rfl) | (apply v_pick_f; exact rfl; exact rfl; exact rfl) | (apply v_neq; exact rfl; exact rfl; exact rfl)))
          refine v_is 33 true rfl (by simpa using k3) ?_
          (repeat (first | refine runL_nil ?_ | (apply v_fldP; exact flA rfl; exact rfl; exact rfl; exact rfl) | (apply v_loadB; exact tyA rfl; exact rfl; exact rfl; exact rfl; exact rfl; exact rfl; exact rfl) | (apply v_on; exact rfl) | (apply v_pick_t; exact rfl; exact rfl; exact rfl) | (apply v_pick_f; exact rfl; exact rfl; exact rfl) | (apply v_neq; exact rfl; exact rfl; exact rfl)))
          refine run_condN rfl (by simpa using hm) ?_
          (repeat (first | (apply v_move; exact rfl; exact rfl) | refine run_seq ?_ | refine run_region ?_ | refine run_skip ?_ | (apply v_fldP; exact flA rfl; exact rfl; exact rfl; exact rfl) | (apply v_loadB; exact tyA rfl; exact rfl; exact rfl; exact rfl; exact rfl; exact rfl; exact rfl) | (apply v_neq; exact rfl; exact rfl; exact rfl)))
          refine runL_weak idN (σ2 := ⟨[(0, .sem (listS nodeE l)), (3, .ptr 3 0), (43, .v (.bool (x.kind != 2)))], [(3, .box 33 (nodeL x))]⟩) ?_ ?_ ?_ ?_ key <;> first | exact trivial | exact ⟨rfl, trivial⟩ | exact ⟨rfl, rfl, rfl, trivial⟩ | rfl
      by_cases c3 : ((x.slot = true ∨ x.want ≠ ⟨#[]⟩) ∧ x.kind ≠ 2) ∨ (x.name ≠ ⟨#[]⟩ ∧ x.slot = false) ∨ namedB x.name = false ∨ namedB x.want = false
      · rw [if_pos c3] at hT2
        have e : T = (l, 0, 1) := hT2
        subst e
        clear c1 c2 hT2 hcp
        (repeat' (first | (apply v_cx; exact rfl; exact cbA rfl; (first | exact namedr_f h1 | exact namedr_f h2); exact rfl; exact rfl) | (apply v_move; exact rfl; exact rfl) | (apply v_assign; exact rfl; exact rfl) | refine run_seq ?_ | refine run_region ?_ | refine runL_nil ?_ | refine run_skip ?_ | (apply v_fldP; exact flA rfl; exact rfl; exact rfl; exact rfl) | (apply v_loadB; exact tyA rfl; exact rfl; exact rfl; exact rfl; exact rfl; exact rfl; exact rfl) | (apply v_on; exact rfl) | (apply v_off; exact rfl; exact rfl) | (apply v_pick_t; exact rfl; exact rfl; exact rfl) | (apply v_pick_f; exact rfl; exact rfl; exact rfl) | (apply run_cond; exact rfl; rotate_left; (focus (intro hb; cases hb; done)); intro hb; clear hb) | (apply v_not; exact rfl; exact rfl) | (apply v_geq; exact rfl; exact rfl; exact rfl) | (apply v_lenL; exact slA rfl; exact rfl; exact rfl) | (apply v_neqS; exact rfl; exact rfl; exact rfl) | (apply v_gsplit; exact rfl; exact rfl; exact rfl; all_goals intro hb) | (apply run_cond; exact rfl; all_goals intro hb)))
        all_goals first
          | exact run_ret idN _ Try.func134 ⟨_, _, rfl, rfl, _, _, rfl, rfl, _, _, rfl, rfl, rfl⟩ rfl trivial trivial rfl
          | (exfalso; simp_all; done)
      · rw [if_neg c3] at hT2
        by_cases c4 : 128 ≤ l.length
        · rw [if_pos c4] at hT2
          have e : T = (l, 0, 9) := hT2
          subst e
          have c5 : (128 : Int) ≤ l.length := by omega
          clear c1 c2 hT2 hcp
          (repeat' (first | (apply v_cx; exact rfl; exact cbA rfl; (first | exact namedr_f h1 | exact namedr_f h2); exact rfl; exact rfl) | (apply v_move; exact rfl; exact rfl) | (apply v_assign; exact rfl; exact rfl) | refine run_seq ?_ | refine run_region ?_ | refine runL_nil ?_ | refine run_skip ?_ | (apply v_fldP; exact flA rfl; exact rfl; exact rfl; exact rfl) | (apply v_loadB; exact tyA rfl; exact rfl; exact rfl; exact rfl; exact rfl; exact rfl; exact rfl) | (apply v_on; exact rfl) | (apply v_off; exact rfl; exact rfl) | (apply v_pick_t; exact rfl; exact rfl; exact rfl) | (apply v_pick_f; exact rfl; exact rfl; exact rfl) | (apply run_cond; exact rfl; rotate_left; (focus (intro hb; cases hb; done)); intro hb; clear hb) | (apply v_not; exact rfl; exact rfl) | (apply v_geq; exact rfl; exact rfl; exact rfl) | (apply v_lenL; exact slA rfl; exact rfl; exact rfl) | (apply v_neqS; exact rfl; exact rfl; exact rfl) | (apply v_gsplit; exact rfl; exact rfl; exact rfl; all_goals intro hb) | (apply run_cond; exact rfl; all_goals intro hb)))
          all_goals first
            | exact run_ret idN _ Try.func134 ⟨_, _, rfl, rfl, _, _, rfl, rfl, _, _, rfl, rfl, rfl⟩ rfl trivial trivial rfl
            | (exfalso; simp_all; done)
            | (exfalso; simp_all; omega)
        · rw [if_neg c4] at hT2
          have e : T = (l ++ [fresh x], (l.length : Int) + 1, 0) := hT2
          subst e
          have c5 : ¬ (128 : Int) ≤ l.length := by omega
          clear hT2
          apply via
          rotate_left
          · intro key2
            (repeat' (first | (apply v_cx; exact rfl; exact cbA rfl; (first | exact namedr_f h1 | exact namedr_f h2); exact rfl; exact rfl) | (apply v_move; exact rfl; exact rfl) | (apply v_assign; exact rfl; exact rfl) | refine run_seq ?_ | refine run_region ?_ | refine runL_nil ?_ | refine run_skip ?_ | (apply v_fldP; exact flA rfl; exact rfl; exact rfl; exact rfl) | (apply v_loadB; exact tyA rfl; exact rfl; exact rfl; exact rfl; exact rfl; exact rfl; exact rfl) | (apply v_on; exact rfl) | (apply v_off; exact rfl; exact rfl) | (apply v_pick_t; exact rfl; exact rfl; exact rfl) | (apply v_pick_f; exact rfl; exact rfl; exact rfl) | (apply run_cond; exact rfl; rotate_left; (focus (intro hb; cases hb; done)); intro hb; clear hb) | (apply v_not; exact rfl; exact rfl) | (apply v_geq; exact rfl; exact rfl; exact rfl) | (apply v_lenL; exact slA rfl; exact rfl; exact rfl) | (apply v_neqS; exact rfl; exact rfl; exact rfl) | (apply v_gsplit; exact rfl; exact rfl; exact rfl; all_goals intro hb) | (apply run_cond; exact rfl; all_goals intro hb)))
            all_goals first
              | (exfalso; clear key2; clear c1 c2; simp_all; done)
              | (exfalso; clear key2; clear c1 c2; simp_all; omega)
              | (refine run_weak idN (σ2 := ⟨[(0, .sem (listS nodeE l)), (3, .ptr 3 0)], [(3, .box 33 (nodeL x))]⟩) ?_ ?_ ?_ ?_ key2 <;> first | exact trivial | exact ⟨rfl, trivial⟩ | exact ⟨rfl, rfl, trivial⟩ | rfl)
          refine run_draws (by kernel_rfl) (by kernel_rfl) ?_
          (repeat (first | (apply p_cOx; exact rfl; exact cbA rfl; (first | exact hcp); exact rfl; exact rfl; exact rfl; exact rfl) | (apply p_move; exact rfl; exact rfl; exact rfl) | (apply p_fldP; exact flA rfl; exact rfl; exact rfl; exact rfl; exact rfl) | (apply p_loadB; exact tyA rfl; exact rfl; exact rfl; exact rfl; exact rfl; exact rfl; exact rfl; exact rfl) | (apply p_b; exact plA rfl; exact tyA rfl; exact rfl; exact rfl; exact rfl; exact rfl)))
          refine planL_know 91 rfl (y := .agg (nodeL (fresh x))) (Le.agg (by repeat (first | exact trivial | refine ⟨Le.refl, ?_⟩ | refine ⟨Le.nil, ?_⟩))) ?_
          refine p_l nodeE [fresh x] (slA rfl) (tyA rfl) rfl rfl rfl rfl rfl rfl rfl rfl rfl rfl rfl ?_
          refine p_appendD (slA rfl) (tyA rfl) rfl rfl rfl rfl rfl rfl rfl (by simp; omega) rfl rfl rfl ?_
          (repeat (first | (apply p_assign; exact rfl; exact rfl; exact rfl)))
          refine planL_nil (by kernel_rfl) ?_
          (repeat (first | (apply v_move; exact rfl; exact rfl) | (apply v_assign; exact rfl; exact rfl) | refine run_seq ?_ | refine run_region ?_ | refine runL_nil ?_ | (apply v_lenO; exact slA rfl; exact rfl; exact rfl; exact rfl)))
          refine run_freeze 4 93 rfl rfl ?_
          exact run_ret idN _ Try.func134 ⟨_, _, rfl, rfl, _, _, rfl, rfl, _, _, rfl, rfl, rfl⟩ (by simp [oneA, AV.ren, AV.renL]) trivial trivial rfl
end Go.Proofs.Ytjkidecaciomgaa
