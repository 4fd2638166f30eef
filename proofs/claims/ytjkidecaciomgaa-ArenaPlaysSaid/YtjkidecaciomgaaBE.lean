/- Rf4p, Rf4, Rf5, Rf6, Rf7. -/
import Derived.Test.YtjkidecaciomgaaBD
import Derived.Test.YtjkidecaciomgaaRf2
import Derived.Test.YtjkidecaciomgaaBC
import Derived.Test.YtjkidecaciomgaaRf1
/- The reference's Put, plain. -/
namespace Go.Proofs.Ytjkidecaciomgaa
set_option linter.unusedVariables false
set_option linter.unusedSimpArgs false
open Go.RowKit

theorem nodeAt_map {l : List Nd} (g : Nd → Nd) (b : Int) : nodeAt (l.map g) b = (nodeAt l b).map g := by
  unfold nodeAt
  split
  · rw [List.getElem?_map]
  · rfl
def zeroP (p : Int) (x : Nd) : Nd := if x.parent = p then { x with parent := 0 } else x
theorem put_ref {l : List Nd} (h : WF l) {p : Int} {px : Nd} (hp : nodeAt l p = some px) (ks : List Int) : setKids (parAll (l.map (zeroP p)) ks p) p ks = setKids (parAll (parAll l px.kids 0) ks p) p ks := nodes_ext fun b => by
  rw [put_nodes h hp, nodeAt_setKids, nodeAt_parAll, nodeAt_map]
  cases nodeAt l b with
  | none => rfl
  | some x =>
    simp only [Option.map_some, Option.some.injEq, putN, zeroP]
    by_cases h2 : b = p
    · subst h2
      by_cases h1 : b ∈ ks <;> by_cases h3 : x.parent = b <;> simp [h1, h3]
    · by_cases h1 : b ∈ ks <;> by_cases h3 : x.parent = p <;> simp [h1, h2, h3]
section
variable {g : Nd → Nd} {l : List Nd} {i : Nat} {x : Nd}
theorem mapTo_get (hx : l[i]? = some x) : ((l.map g).take i ++ l.drop i)[i]? = some x := by
  have hl := (List.getElem?_eq_some_iff.1 hx).1
  rw [List.getElem?_append_right (by simp; omega), List.length_take, List.length_map, List.getElem?_drop, ← hx]
  congr 1
  omega
theorem mapTo_next (hx : l[i]? = some x) : ((l.map g).take i ++ l.drop i).set i (g x) = (l.map g).take (i + 1) ++ l.drop (i + 1) := by
  obtain ⟨hl, he⟩ := List.getElem?_eq_some_iff.1 hx
  rw [List.set_append_right _ _ (by simp; omega), List.take_add_one, List.getElem?_map, hx, List.append_assoc]
  congr 1
  rw [List.drop_eq_getElem_cons hl, List.length_take, List.length_map, show i - min i l.length = 0 by omega]
  rfl
theorem mapTo_same (hx : l[i]? = some x) (hg : g x = x) : (l.map g).take i ++ l.drop i = (l.map g).take (i + 1) ++ l.drop (i + 1) := by
  rw [← mapTo_next hx, hg]
  have := mapTo_get (g := g) hx
  obtain ⟨h1, h2⟩ := List.getElem?_eq_some_iff.1 this
  rw [← h2, List.set_getElem_self]
theorem mapTo_len : ((l.map g).take i ++ l.drop i).length = l.length := by simp; omega
theorem mapTo_end : (l.map g).take l.length ++ l.drop l.length = l.map g := by
  rw [List.drop_length, List.append_nil, List.take_of_length_le (by simp)]
end
end Go.Proofs.Ytjkidecaciomgaa
/- The reference's nodes (towncrierref04): There, Copy, Make, Over, Up. -/
namespace Go.Proofs.Ytjkidecaciomgaa
set_option linter.unusedVariables false
set_option linter.unusedSimpArgs false
set_option maxRecDepth 100000
open Go.RowKit

theorem there_s {l : List Nd} {id : Int} {x : Nd} (h : nodeAt l id = some x) : Fun Try.prog 39 [.sem (listS nodeE l), .v (.int .i64 id)] [] (.v (.bool true)) [] := by
  obtain ⟨h0, h1, _⟩ := nodeAt_some h
  refine fun_intro 13 Try.func39 rfl rfl rfl (fun ι F S w => ?_)
  (repeat (first | (apply v_move; exact rfl; exact rfl) | (apply v_assign; exact rfl; exact rfl) | refine run_seq ?_ | refine run_region ?_ | refine runL_nil ?_ | (apply v_geq; exact rfl; exact rfl; exact rfl)))
  refine v_is 7 true rfl (by simpa using h0) ?_
  (repeat (first | (apply v_move; exact rfl; exact rfl) | (apply v_assign; exact rfl; exact rfl) | refine runL_nil ?_ | (apply v_on; exact rfl) | (apply v_pick_t; exact rfl; exact rfl; exact rfl) | (apply v_leq; exact rfl; exact rfl; exact rfl) | (apply v_lenL; exact slA rfl; exact rfl; exact rfl)))
  exact run_ret idN _ Try.func39 ⟨_, _, rfl, rfl, rfl⟩ (by simp [AV.ren, oneA, h1]) trivial trivial rfl
theorem there_n {l : List Nd} {id : Int} (h : nodeAt l id = none) : Fun Try.prog 39 [.sem (listS nodeE l), .v (.int .i64 id)] [] (.v (.bool false)) [] := by
  have h := nodeAt_none h
  by_cases h0 : 1 ≤ id
  · refine fun_intro 13 Try.func39 rfl rfl rfl (fun ι F S w => ?_)
    (repeat (first | (apply v_move; exact rfl; exact rfl) | (apply v_assign; exact rfl; exact rfl) | refine run_seq ?_ | refine run_region ?_ | refine runL_nil ?_ | (apply v_geq; exact rfl; exact rfl; exact rfl)))
    refine v_is 7 true rfl (by simpa using h0) ?_
    (repeat (first | (apply v_move; exact rfl; exact rfl) | (apply v_assign; exact rfl; exact rfl) | refine runL_nil ?_ | (apply v_on; exact rfl) | (apply v_pick_t; exact rfl; exact rfl; exact rfl) | (apply v_leq; exact rfl; exact rfl; exact rfl) | (apply v_lenL; exact slA rfl; exact rfl; exact rfl)))
    exact run_ret idN _ Try.func39 ⟨_, _, rfl, rfl, rfl⟩ (by simp [AV.ren, oneA]; omega) trivial trivial rfl
  · refine fun_intro 13 Try.func39 rfl rfl rfl (fun ι F S w => ?_)
    (repeat (first | (apply v_move; exact rfl; exact rfl) | (apply v_assign; exact rfl; exact rfl) | refine run_seq ?_ | refine run_region ?_ | refine runL_nil ?_ | (apply v_geq; exact rfl; exact rfl; exact rfl)))
    refine v_is 7 false rfl (by simp; omega) ?_
    (repeat (first | (apply v_assign; exact rfl; exact rfl) | refine runL_nil ?_ | (apply v_off; exact rfl; exact rfl) | (apply v_pick_f; exact rfl; exact rfl; exact rfl)))
    exact run_ret idN _ Try.func39 ⟨_, _, rfl, rfl, rfl⟩ rfl trivial trivial rfl
theorem has_r {xs : List Int} (v : Int) (hm : xs.length ≤ 1000000) : Fun Try.prog 105 [.sem (listS intE xs), .v (.int .i64 v)] [] (.v (.bool (decide (v ∈ xs)))) [] := by
  refine fun_intro 18 Try.func105 rfl rfl rfl (fun ι F S w => ?_)
  (repeat (first | (apply v_assign; exact rfl; exact rfl) | refine run_seq ?_ | refine run_region ?_ | refine runL_nil ?_ | refine run_block ?_))
  refine v_loop (fun i : Nat => ⟨[(0, .sem (listS intE xs)), (1, .v (.int .i64 v)), (5, .v (.int .i64 i))], []⟩) (fun i => i ≤ xs.length ∧ ∀ j, j < i → xs[j]? ≠ some v) (fun i => xs.length - i) 0 idN trivial (by repeat (first | exact trivial | refine ⟨rfl, ?_⟩)) (by repeat (first | exact trivial | refine ⟨rfl, ?_⟩)) rfl ⟨by omega, fun j hj => by omega⟩ fun i ⟨hi, hp⟩ ih => ?_
  (repeat (first | (apply v_move; exact rfl; exact rfl) | refine run_seq ?_ | refine run_region ?_ | refine runL_nil ?_ | (apply v_lss; exact rfl; exact rfl; exact rfl) | (apply v_lenL; exact slA rfl; exact rfl; exact rfl)))
  refine run_cond rfl (fun h => ?_) (fun h => ?_)
  · have hlt : i < xs.length := by simpa using h
    have hx : xs[((i : Int)).toNat]? = some xs[i] := by simp [hlt]
    (repeat (first | (apply v_idxL; exact slA rfl; exact tyA rfl; exact rfl; exact rfl; exact rfl; exact rfl; exact (by omega); (first | exact hx); exact rfl) | (apply v_move; exact rfl; exact rfl) | refine run_seq ?_ | refine run_region ?_ | refine runL_nil ?_ | refine run_skip ?_ | refine run_block ?_ | (apply v_loadA; exact tyA rfl; exact rfl; exact rfl; exact rfl; exact rfl; exact rfl; exact rfl) | (apply v_eql; exact rfl; exact rfl; exact rfl)))
    refine run_cond rfl (fun h => ?_) (fun h => ?_)
    · have he : xs[i] = v := by simpa using h
      have hf : decide (v ∈ xs) = true := by rw [decide_eq_true_iff, ← he]; exact List.getElem_mem hlt
      rw [hf]
      (repeat (first | (apply v_assign; exact rfl; exact rfl) | refine run_seq ?_ | refine run_region ?_ | refine runL_nil ?_))
      exact run_ret idN _ Try.func105 ⟨_, _, rfl, rfl, rfl⟩ rfl trivial trivial rfl
    · have he : xs[i] ≠ v := by simpa using h
      (repeat (first | (apply v_move; exact rfl; exact rfl) | (apply v_assign; exact rfl; exact rfl) | refine run_region ?_ | refine runL_nil ?_ | refine run_skip ?_ | refine run_inBlock ?_ | (apply v_add; exact rfl; exact rfl; exact rfl; exact (by omega))))
      exact v_again ih (i + 1) idN trivial (by repeat (first | exact trivial | refine ⟨rfl, ?_⟩)) (by repeat (first | exact trivial | refine ⟨rfl, ?_⟩)) rfl ⟨by omega, fun j hj => by
        by_cases e : j = i
        · subst e
          rw [List.getElem?_eq_getElem hlt]
          simpa using he
        · exact hp j (by omega)⟩ (by omega)
  · have hge : i = xs.length := by have : ¬ i < xs.length := (by simpa using h); omega
    have hf : decide (v ∈ xs) = false := by
      rw [decide_eq_false_iff_not]
      intro hm
      obtain ⟨j, hj, rfl⟩ := List.getElem_of_mem hm
      exact hp j (by omega) (List.getElem?_eq_getElem hj)
    rw [hf]
    (repeat (first | (apply v_assign; exact rfl; exact rfl) | refine run_seq ?_ | refine run_region ?_ | refine runL_nil ?_ | (apply run_exit; exact rfl)))
    exact run_ret idN _ Try.func105 ⟨_, _, rfl, rfl, rfl⟩ rfl trivial trivial rfl
theorem copy_r {l : List Nd} (hm : l.length ≤ 1000000) (hk : ∀ x ∈ l, x.kids.length ≤ 1000000) : Fun Try.prog 166 [.sem (listS nodeE l)] [] (.res 0) [(0, .obj (ownS 33 nodeE l))] := by
  refine fun_intro 26 Try.func166 rfl rfl rfl (fun ι F S w => ?_)
  (repeat (first | (apply v_assign; exact rfl; exact rfl) | refine run_seq ?_ | refine run_region ?_ | refine runL_nil ?_))
  refine v_lO nodeE [] (slA rfl) (tyA rfl) rfl rfl rfl rfl rfl rfl rfl rfl rfl rfl rfl rfl rfl rfl ?_
  (repeat (first | (apply v_move; exact rfl; exact rfl)))
  refine v_appendD (slA rfl) (tyA rfl) rfl rfl rfl rfl rfl rfl rfl (by simp; omega) rfl rfl rfl rfl ?_
  (repeat (first | (apply v_assign; exact rfl; exact rfl) | refine run_seq ?_ | refine run_region ?_ | refine runL_nil ?_ | refine run_block ?_))
  refine v_loop (fun i : Nat => ⟨[(0, .sem (listS nodeE l)), (3, .res 7), (4, .v (.int .i64 i))], [(7, .obj (ownS 33 nodeE l))]⟩) (fun i => i ≤ l.length) (fun i => l.length - i) 0 idN trivial (by repeat (first | exact trivial | refine ⟨rfl, ?_⟩)) (by repeat (first | exact trivial | refine ⟨rfl, ?_⟩)) rfl (by omega) fun i hi ih => ?_
  (repeat (first | (apply v_move; exact rfl; exact rfl) | refine run_seq ?_ | refine run_region ?_ | refine runL_nil ?_ | (apply v_lss; exact rfl; exact rfl; exact rfl) | (apply v_lenO; exact slA rfl; exact rfl; exact rfl; exact rfl)))
  refine run_cond rfl (fun h => ?_) (fun h => ?_)
  · have hlt : i < l.length := by simpa using h
    have hx : l[((i : Int)).toNat]? = some l[i] := by simp [hlt]
    have hkx := hk l[i] (List.getElem_mem hlt)
    (repeat (first | (apply v_move; exact rfl; exact rfl) | refine run_seq ?_ | refine run_region ?_ | refine run_skip ?_ | refine run_block ?_))
    refine v_lO intE [] (slA rfl) (tyA rfl) rfl rfl rfl rfl rfl rfl rfl rfl rfl rfl rfl rfl rfl rfl ?_
    (repeat (first | (apply v_idxL; exact slA rfl; exact tyA rfl; exact rfl; exact rfl; exact rfl; exact rfl; exact (by omega); (first | exact hx); exact rfl) | (apply v_move; exact rfl; exact rfl) | (apply v_fldA; exact flA rfl; exact rfl; exact rfl; exact rfl) | (apply v_loadA; exact tyA rfl; exact rfl; exact rfl; exact rfl; exact rfl; exact rfl; exact rfl)))
    refine v_appendD (slA rfl) (tyA rfl) rfl rfl rfl rfl rfl rfl rfl (by simp; omega) rfl rfl rfl rfl ?_
    refine runL_freeze 22 22 rfl rfl ?_
    (repeat (first | (apply v_idxO; exact slA rfl; exact tyA rfl; exact rfl; exact rfl; exact rfl; exact rfl; exact (by omega); exact (by omega); exact rfl) | (apply v_fldP; exact flA rfl; exact rfl; exact rfl; exact rfl)))
    refine v_storeO (xs := l) l[i] (tyA rfl) rfl rfl rfl rfl hx rfl rfl (by decide) rfl rfl ?_
    (repeat (first | (apply v_move; exact rfl; exact rfl) | (apply v_assign; exact rfl; exact rfl) | refine run_region ?_ | refine runL_nil ?_ | refine run_inBlock ?_ | (apply v_add; exact rfl; exact rfl; exact rfl; exact (by omega))))
    exact v_again ih (i + 1) idN trivial (by repeat (first | exact trivial | refine ⟨rfl, ?_⟩)) ⟨by rw [show ((i : Int)).toNat = i by omega, List.set_getElem_self]; rfl, trivial⟩ rfl (by omega) (by omega)
  · (repeat (first | (apply v_move; exact rfl; exact rfl) | (apply v_assign; exact rfl; exact rfl) | refine run_seq ?_ | refine run_region ?_ | refine runL_nil ?_ | (apply run_exit; exact rfl)))
    exact run_ret (mp [(0, 7)]) _ Try.func166 ⟨_, _, rfl, rfl, rfl⟩ rfl trivial ⟨rfl, trivial⟩ rfl
theorem namedr_f {s : ByteArray} (hs : s.size ≤ 9223372036854775807) : Fun Try.prog 179 [.v (.string s)] [] (.v (.bool (namedB s))) [] := by
  have hr : Fun Try.prog 187 [.v (.string s)] [] (.v (.bool (wordB s))) [] := fun_of_calls (l := [.string s]) fun w => (ref_word s w hs).mono fun e w' ⟨h1, h2⟩ => ⟨h1, h2 ▸ Below.refl _ _⟩
  refine fun_intro 9 Try.func179 rfl rfl rfl (fun ι F S w => ?_)
  (repeat' (first | (apply v_cx; exact rfl; exact cbA rfl; (first | exact hr); exact rfl; exact rfl) | (apply v_move; exact rfl; exact rfl) | (apply v_assign; exact rfl; exact rfl) | refine run_seq ?_ | refine run_region ?_ | refine runL_nil ?_ | (apply v_on; exact rfl) | (apply v_off; exact rfl; exact rfl) | (apply v_pick_t; exact rfl; exact rfl; exact rfl) | (apply v_pick_f; exact rfl; exact rfl; exact rfl) | (apply v_eqlS; exact rfl; exact rfl; exact rfl) | (apply v_gsplit; exact rfl; exact rfl; exact rfl; all_goals intro hb)))
  all_goals exact run_ret idN _ Try.func179 ⟨_, _, rfl, rfl, rfl⟩ (by simp_all [AV.ren, oneA, namedB]) trivial trivial rfl
theorem make_r {l : List Nd} {x : Nd} (h1 : x.name.size ≤ 9223372036854775807) (h2 : x.want.size ≤ 9223372036854775807) (hl : l.length ≤ 128) (hk : ∀ x ∈ l, x.kids.length ≤ 1000000) : Fun Try.prog 134 [.sem (listS nodeE l), .agg (nodeL x)] [] (.tup [.sem (listS nodeE (makeM l x).1), .v (.int .i64 (makeM l x).2.1), .v (.int .i64 (makeM l x).2.2)]) [] := by
  have hT' : makeM l x = if rightM x ≠ 0 then (l, 0, rightM x) else if 128 ≤ l.length then (l, 0, 9) else (l ++ [fresh x], (l.length : Int) + 1, 0) := rfl
  generalize makeM l x = T at *
  have hcp := copy_r (l := l) (by omega) hk
  by_cases c1 : x.kind < 1 ∨ x.kind > 4
  · have e : T = (l, 0, 2) := by rw [hT', rightM, if_pos c1]; rfl
    subst e
    clear hT'
    refine fun_intro 97 Try.func134 rfl rfl rfl (fun ι F S w => ?_)
    (repeat (first | (apply v_move; exact rfl; exact rfl) | (apply v_assign; exact rfl; exact rfl) | refine run_seq ?_ | refine run_region ?_ | refine runL_nil ?_ | (apply v_fldP; exact flA rfl; exact rfl; exact rfl; exact rfl) | (apply v_loadB; exact tyA rfl; exact rfl; exact rfl; exact rfl; exact rfl; exact rfl; exact rfl) | (apply v_lss; exact rfl; exact rfl; exact rfl) | (apply v_boxD; exact rfl; exact rfl; exact rfl; exact rfl; exact rfl; exact rfl; exact rfl)))
    by_cases c0 : x.kind < 1
    · refine v_is 10 true rfl (by simpa using c0) ?_
      (repeat (first | (apply v_move; exact rfl; exact rfl) | (apply v_assign; exact rfl; exact rfl) | refine run_seq ?_ | refine run_region ?_ | refine runL_nil ?_ | (apply v_off; exact rfl; exact rfl) | (apply v_pick_t; exact rfl; exact rfl; exact rfl) | (apply run_cond; exact rfl; rotate_left; (focus (intro hb; cases hb; done)); intro hb; clear hb)))
      exact run_ret idN _ Try.func134 ⟨_, _, rfl, rfl, _, _, rfl, rfl, _, _, rfl, rfl, rfl⟩ rfl trivial trivial rfl
    · refine v_is 10 false rfl (by simpa using c0) ?_
      (repeat (first | refine runL_nil ?_ | (apply v_fldP; exact flA rfl; exact rfl; exact rfl; exact rfl) | (apply v_loadB; exact tyA rfl; exact rfl; exact rfl; exact rfl; exact rfl; exact rfl; exact rfl) | (apply v_on; exact rfl) | (apply v_pick_f; exact rfl; exact rfl; exact rfl) | (apply v_gtr; exact rfl; exact rfl; exact rfl)))
      refine run_condY rfl (by simpa using c1.resolve_left c0) ?_
      (repeat (first | (apply v_move; exact rfl; exact rfl) | (apply v_assign; exact rfl; exact rfl) | refine run_seq ?_ | refine run_region ?_ | refine runL_nil ?_))
      exact run_ret idN _ Try.func134 ⟨_, _, rfl, rfl, _, _, rfl, rfl, _, _, rfl, rfl, rfl⟩ rfl trivial trivial rfl
  · have hT2 : T = if (if (x.kind = 3) ≠ (x.mode = 1 ∨ x.mode = 2) ∨ (x.kind ≠ 3 ∧ x.mode ≠ 0) then (1 : Int) else if ((x.slot = true ∨ x.want ≠ ⟨#[]⟩) ∧ x.kind ≠ 2) ∨ (x.name ≠ ⟨#[]⟩ ∧ x.slot = false) ∨ namedB x.name = false ∨ namedB x.want = false then 1 else 0) ≠ 0 then (l, 0, (if (x.kind = 3) ≠ (x.mode = 1 ∨ x.mode = 2) ∨ (x.kind ≠ 3 ∧ x.mode ≠ 0) then (1 : Int) else if ((x.slot = true ∨ x.want ≠ ⟨#[]⟩) ∧ x.kind ≠ 2) ∨ (x.name ≠ ⟨#[]⟩ ∧ x.slot = false) ∨ namedB x.name = false ∨ namedB x.want = false then 1 else 0)) else if 128 ≤ l.length then (l, 0, 9) else (l ++ [fresh x], (l.length : Int) + 1, 0) := by rw [hT', rightM, if_neg c1]
    clear hT'
    refine fun_intro 97 Try.func134 rfl rfl rfl (fun ι F S w => ?_)
    (repeat (first | (apply v_move; exact rfl; exact rfl) | (apply v_assign; exact rfl; exact rfl) | refine run_seq ?_ | refine run_region ?_ | refine runL_nil ?_ | (apply v_fldP; exact flA rfl; exact rfl; exact rfl; exact rfl) | (apply v_loadB; exact tyA rfl; exact rfl; exact rfl; exact rfl; exact rfl; exact rfl; exact rfl) | (apply v_lss; exact rfl; exact rfl; exact rfl) | (apply v_boxD; exact rfl; exact rfl; exact rfl; exact rfl; exact rfl; exact rfl; exact rfl)))
    refine v_is 10 false rfl (by simp; omega) ?_
    (repeat (first | refine runL_nil ?_ | (apply v_fldP; exact flA rfl; exact rfl; exact rfl; exact rfl) | (apply v_loadB; exact tyA rfl; exact rfl; exact rfl; exact rfl; exact rfl; exact rfl; exact rfl) | (apply v_on; exact rfl) | (apply v_pick_f; exact rfl; exact rfl; exact rfl) | (apply v_gtr; exact rfl; exact rfl; exact rfl)))
    refine run_condN rfl (by simp; omega) ?_
    (repeat (first | (apply v_move; exact rfl; exact rfl) | refine run_seq ?_ | refine run_region ?_ | refine run_skip ?_ | (apply v_fldP; exact flA rfl; exact rfl; exact rfl; exact rfl) | (apply v_loadB; exact tyA rfl; exact rfl; exact rfl; exact rfl; exact rfl; exact rfl; exact rfl) | (apply v_eql; exact rfl; exact rfl; exact rfl)))
    by_cases c2 : (x.kind = 3) ≠ (x.mode = 1 ∨ x.mode = 2) ∨ (x.kind ≠ 3 ∧ x.mode ≠ 0)
    · rw [if_pos c2] at hT2
      have e : T = (l, 0, 1) := hT2
      subst e
      by_cases k3 : x.kind = 3
      · have hm : ¬ (x.mode = 1 ∨ x.mode = 2) := fun e => c2.elim (fun h => h (by rw [eq_true k3, eq_true e])) (fun h => h.1 k3)
        refine v_is 19 true rfl (by simpa using k3) ?_
        (repeat (first | (apply v_move; exact rfl; exact rfl) | (apply v_fldP; exact flA rfl; exact rfl; exact rfl; exact rfl) | (apply v_loadB; exact tyA rfl; exact rfl; exact rfl; exact rfl; exact rfl; exact rfl; exact rfl) | (apply v_on; exact rfl) | (apply v_pick_t; exact rfl; exact rfl; exact rfl) | (apply v_neq; exact rfl; exact rfl; exact rfl)))
        refine v_is 24 true rfl (by simp; omega) ?_
        (repeat (first | (apply v_move; exact rfl; exact rfl) | (apply v_fldP; exact flA rfl; exact rfl; exact rfl; exact rfl) | (apply v_loadB; exact tyA rfl; exact rfl; exact rfl; exact rfl; exact rfl; exact rfl; exact rfl) | (apply v_on; exact rfl) | (apply v_pick_t; exact rfl; exact rfl; exact rfl) | (apply v_neq; exact rfl; exact rfl; exact rfl)))
        refine v_is 29 true rfl (by simp; omega) ?_
        (repeat (first | (apply v_move; exact rfl; exact rfl) | (apply v_assign; exact rfl; exact rfl) | refine run_seq ?_ | refine run_region ?_ | refine runL_nil ?_ | (apply v_off; exact rfl; exact rfl) | (apply v_pick_t; exact rfl; exact rfl; exact rfl) | (apply run_cond; exact rfl; rotate_left; (focus (intro hb; cases hb; done)); intro hb; clear hb)))
        exact run_ret idN _ Try.func134 ⟨_, _, rfl, rfl, _, _, rfl, rfl, _, _, rfl, rfl, rfl⟩ rfl trivial trivial rfl
      · have hm : x.mode ≠ 0 := fun e => c2.elim (fun h => h (by rw [eq_false k3, eq_false (show ¬ (x.mode = 1 ∨ x.mode = 2) by omega)])) (fun h => h.2 e)
        refine v_is 19 false rfl (by simpa using k3) ?_
        (repeat (first | (apply v_move; exact rfl; exact rfl) | (apply v_fldP; exact flA rfl; exact rfl; exact rfl; exact rfl) | (apply v_loadB; exact tyA rfl; exact rfl; exact rfl; exact rfl; exact rfl; exact rfl; exact rfl) | (apply v_on; exact rfl) | (apply v_off; exact rfl; exact rfl) | (apply v_pick_f; exact rfl; exact rfl; exact rfl) | (apply v_neq; exact rfl; exact rfl; exact rfl)))
        refine v_is 33 true rfl (by simpa using k3) ?_
        (repeat (first | refine runL_nil ?_ | (apply v_fldP; exact flA rfl; exact rfl; exact rfl; exact rfl) | (apply v_loadB; exact tyA rfl; exact rfl; exact rfl; exact rfl; exact rfl; exact rfl; exact rfl) | (apply v_on; exact rfl) | (apply v_pick_t; exact rfl; exact rfl; exact rfl) | (apply v_pick_f; exact rfl; exact rfl; exact rfl) | (apply v_neq; exact rfl; exact rfl; exact rfl)))
        refine run_condY rfl (by simpa using hm) ?_
        (repeat (first | (apply v_move; exact rfl; exact rfl) | (apply v_assign; exact rfl; exact rfl) | refine run_seq ?_ | refine run_region ?_ | refine runL_nil ?_))
        exact run_ret idN _ Try.func134 ⟨_, _, rfl, rfl, _, _, rfl, rfl, _, _, rfl, rfl, rfl⟩ rfl trivial trivial rfl
    · rw [if_neg c2] at hT2
      apply via
      rotate_left
      · intro key
        by_cases k3 : x.kind = 3
        · have hm : x.mode = 1 ∨ x.mode = 2 := Classical.byContradiction fun e => c2 (.inl (by rw [eq_true k3, eq_false e]; simp))
          refine v_is 19 true rfl (by simpa using k3) ?_
          (repeat (first | (apply v_move; exact rfl; exact rfl) | (apply v_fldP; exact flA rfl; exact rfl; exact rfl; exact rfl) | (apply v_loadB; exact tyA rfl; exact rfl; exact rfl; exact rfl; exact rfl; exact rfl; exact rfl) | (apply v_on; exact rfl) | (apply v_pick_t; exact rfl; exact rfl; exact rfl) | (apply v_neq; exact rfl; exact rfl; exact rfl)))
          by_cases m1 : x.mode = 1
          · refine v_is 24 false rfl (by simpa using m1) ?_
            (repeat (first | (apply v_move; exact rfl; exact rfl) | (apply v_fldP; exact flA rfl; exact rfl; exact rfl; exact rfl) | (apply v_loadB; exact tyA rfl; exact rfl; exact rfl; exact rfl; exact rfl; exact rfl; exact rfl) | (apply v_on; exact rfl) | (apply v_off; exact rfl; exact rfl) | (apply v_pick_f; exact rfl; exact rfl; exact rfl) | (apply v_neq; exact rfl; exact rfl; exact rfl)))
            refine v_is 33 false rfl (by simpa using k3) ?_
            (repeat (first | (apply v_move; exact rfl; exact rfl) | refine run_seq ?_ | refine run_region ?_ | refine runL_nil ?_ | refine run_skip ?_ | (apply v_fldP; exact flA rfl; exact rfl; exact rfl; exact rfl) | (apply v_loadB; exact tyA rfl; exact rfl; exact rfl; exact rfl; exact rfl; exact rfl; exact rfl) | (apply v_on; exact rfl) | (apply v_off; exact rfl; exact rfl) | (apply v_pick_f; exact rfl; exact rfl; exact rfl) | (apply run_cond; exact rfl; (focus (intro hb; cases hb; done)); intro hb; clear hb) | (apply v_neq; exact rfl; exact rfl; exact rfl)))
            refine runL_weak idN (σ2 := ⟨[(0, .sem (listS nodeE l)), (3, .ptr 3 0), (43, .v (.bool (x.kind != 2)))], [(3, .box 33 (nodeL x))]⟩) ?_ ?_ ?_ ?_ key <;> first | exact trivial | exact ⟨rfl, trivial⟩ | exact ⟨rfl, rfl, rfl, trivial⟩ | rfl
          · refine v_is 24 true rfl (by simpa using m1) ?_
            (repeat (first | (apply v_move; exact rfl; exact rfl) | (apply v_fldP; exact flA rfl; exact rfl; exact rfl; exact rfl) | (apply v_loadB; exact tyA rfl; exact rfl; exact rfl; exact rfl; exact rfl; exact rfl; exact rfl) | (apply v_on; exact rfl) | (apply v_pick_t; exact rfl; exact rfl; exact rfl) | (apply v_neq; exact rfl; exact rfl; exact rfl)))
            refine v_is 29 false rfl (by simpa using hm.resolve_left m1) ?_
            (repeat (first | (apply v_move; exact rfl; exact rfl) | (apply v_fldP; exact flA rfl; exact rfl; exact rfl; exact rfl) | (apply v_loadB; exact tyA rfl; exact rfl; exact rfl; exact rfl; exact rfl; exact rfl; exact rfl) | (apply v_on; exact rfl) | (apply v_neq; exact rfl; exact rfl; exact rfl)))
            refine v_is 33 false rfl (by simpa using k3) ?_
            (repeat (first | (apply v_move; exact rfl; exact rfl) | refine run_seq ?_ | refine run_region ?_ | refine runL_nil ?_ | refine run_skip ?_ | (apply v_fldP; exact flA rfl; exact rfl; exact rfl; exact rfl) | (apply v_loadB; exact tyA rfl; exact rfl; exact rfl; exact rfl; exact rfl; exact rfl; exact rfl) | (apply v_on; exact rfl) | (apply v_off; exact rfl; exact rfl) | (apply v_pick_f; exact rfl; exact rfl; exact rfl) | (apply run_cond; exact rfl; (focus (intro hb; cases hb; done)); intro hb; clear hb) | (apply v_neq; exact rfl; exact rfl; exact rfl)))
            refine runL_weak idN (σ2 := ⟨[(0, .sem (listS nodeE l)), (3, .ptr 3 0), (43, .v (.bool (x.kind != 2)))], [(3, .box 33 (nodeL x))]⟩) ?_ ?_ ?_ ?_ key <;> first | exact trivial | exact ⟨rfl, trivial⟩ | exact ⟨rfl, rfl, rfl, trivial⟩ | rfl
        · have hm : x.mode = 0 := Classical.byContradiction fun e => c2 (.inr ⟨k3, e⟩)
          refine v_is 19 false rfl (by simpa using k3) ?_
          (repeat (first | (apply v_move; exact rfl; exact rfl) | (apply v_fldP; exact flA rfl; exact rfl; exact rfl; exact rfl) | (apply v_loadB; exact tyA rfl; exact rfl; exact rfl; exact rfl; exact rfl; exact rfl; exact rfl) | (apply v_on; exact rfl) | (apply v_off; exact rfl; exact rfl) | (apply v_pick_f; exact rfl; exact rfl; exact rfl) | (apply v_neq; exact rfl; exact rfl; exact rfl)))
          refine v_is 33 true rfl (by simpa using k3) ?_
          (repeat (first | refine runL_nil ?_ | (apply v_fldP; exact flA rfl; exact rfl; exact rfl; exact rfl) | (apply v_loadB; exact tyA rfl; exact rfl; exact rfl; exact rfl; exact rfl; exact rfl; exact rfl) | (apply v_on; exact rfl) | (apply v_pick_t; exact rfl; exact rfl; exact rfl) | (apply v_pick_f; exact rfl; exact rfl; exact rfl) | (apply v_neq; exact rfl; exact rfl; exact rfl)))
          refine run_condN rfl (by simpa using hm) ?_
          (repeat (first | (apply v_move; exact rfl; exact rfl) | refine run_seq ?_ | refine run_region ?_ | refine run_skip ?_ | (apply v_fldP; exact flA rfl; exact rfl; exact rfl; exact rfl) | (apply v_loadB; exact tyA rfl; exact rfl; exact rfl; exact rfl; exact rfl; exact rfl; exact rfl) | (apply v_neq; exact rfl; exact rfl; exact rfl)))
          refine runL_weak idN (σ2 := ⟨[(0, .sem (listS nodeE l)), (3, .ptr 3 0), (43, .v (.bool (x.kind != 2)))], [(3, .box 33 (nodeL x))]⟩) ?_ ?_ ?_ ?_ key <;> first | exact trivial | exact ⟨rfl, trivial⟩ | exact ⟨rfl, rfl, rfl, trivial⟩ | rfl
      by_cases c3 : ((x.slot = true ∨ x.want ≠ ⟨#[]⟩) ∧ x.kind ≠ 2) ∨ (x.name ≠ ⟨#[]⟩ ∧ x.slot = false) ∨ namedB x.name = false ∨ namedB x.want = false
      · rw [if_pos c3] at hT2
        have e : T = (l, 0, 1) := hT2
        subst e
        clear c1 c2 hT2 hcp
        (repeat' (first | (apply v_cx; exact rfl; exact cbA rfl; (first | exact namedr_f h1 | exact namedr_f h2); exact rfl; exact rfl) | (apply v_move; exact rfl; exact rfl) | (apply v_assign; exact rfl; exact rfl) | refine run_seq ?_ | refine run_region ?_ | refine runL_nil ?_ | refine run_skip ?_ | (apply v_fldP; exact flA rfl; exact rfl; exact rfl; exact rfl) | (apply v_loadB; exact tyA rfl; exact rfl; exact rfl; exact rfl; exact rfl; exact rfl; exact rfl) | (apply v_on; exact rfl) | (apply v_off; exact rfl; exact rfl) | (apply v_pick_t; exact rfl; exact rfl; exact rfl) | (apply v_pick_f; exact rfl; exact rfl; exact rfl) | (apply run_cond; exact rfl; rotate_left; (focus (intro hb; cases hb; done)); intro hb; clear hb) | (apply v_not; exact rfl; exact rfl) | (apply v_geq; exact rfl; exact rfl; exact rfl) | (apply v_lenL; exact slA rfl; exact rfl; exact rfl) | (apply v_neqS; exact rfl; exact rfl; exact rfl) | (apply v_gsplit; exact rfl; exact rfl; exact rfl; all_goals intro hb) | (apply run_cond; exact rfl; all_goals intro hb)))
        all_goals first
          | exact run_ret idN _ Try.func134 ⟨_, _, rfl, rfl, _, _, rfl, rfl, _, _, rfl, rfl, rfl⟩ rfl trivial trivial rfl
          | (exfalso; simp_all; done)
      · rw [if_neg c3] at hT2
        by_cases c4 : 128 ≤ l.length
        · rw [if_pos c4] at hT2
          have e : T = (l, 0, 9) := hT2
          subst e
          have c5 : (128 : Int) ≤ l.length := by omega
          clear c1 c2 hT2 hcp
          (repeat' (first | (apply v_cx; exact rfl; exact cbA rfl; (first | exact namedr_f h1 | exact namedr_f h2); exact rfl; exact rfl) | (apply v_move; exact rfl; exact rfl) | (apply v_assign; exact rfl; exact rfl) | refine run_seq ?_ | refine run_region ?_ | refine runL_nil ?_ | refine run_skip ?_ | (apply v_fldP; exact flA rfl; exact rfl; exact rfl; exact rfl) | (apply v_loadB; exact tyA rfl; exact rfl; exact rfl; exact rfl; exact rfl; exact rfl; exact rfl) | (apply v_on; exact rfl) | (apply v_off; exact rfl; exact rfl) | (apply v_pick_t; exact rfl; exact rfl; exact rfl) | (apply v_pick_f; exact rfl; exact rfl; exact rfl) | (apply run_cond; exact rfl; rotate_left; (focus (intro hb; cases hb; done)); intro hb; clear hb) | (apply v_not; exact rfl; exact rfl) | (apply v_geq; exact rfl; exact rfl; exact rfl) | (apply v_lenL; exact slA rfl; exact rfl; exact rfl) | (apply v_neqS; exact rfl; exact rfl; exact rfl) | (apply v_gsplit; exact rfl; exact rfl; exact rfl; all_goals intro hb) | (apply run_cond; exact rfl; all_goals intro hb)))
          all_goals first
            | exact run_ret idN _ Try.func134 ⟨_, _, rfl, rfl, _, _, rfl, rfl, _, _, rfl, rfl, rfl⟩ rfl trivial trivial rfl
            | (exfalso; simp_all; done)
            | (exfalso; simp_all; omega)
        · rw [if_neg c4] at hT2
          have e : T = (l ++ [fresh x], (l.length : Int) + 1, 0) := hT2
          subst e
          have c5 : ¬ (128 : Int) ≤ l.length := by omega
          clear hT2
          apply via
          rotate_left
          · intro key2
            (repeat' (first | (apply v_cx; exact rfl; exact cbA rfl; (first | exact namedr_f h1 | exact namedr_f h2); exact rfl; exact rfl) | (apply v_move; exact rfl; exact rfl) | (apply v_assign; exact rfl; exact rfl) | refine run_seq ?_ | refine run_region ?_ | refine runL_nil ?_ | refine run_skip ?_ | (apply v_fldP; exact flA rfl; exact rfl; exact rfl; exact rfl) | (apply v_loadB; exact tyA rfl; exact rfl; exact rfl; exact rfl; exact rfl; exact rfl; exact rfl) | (apply v_on; exact rfl) | (apply v_off; exact rfl; exact rfl) | (apply v_pick_t; exact rfl; exact rfl; exact rfl) | (apply v_pick_f; exact rfl; exact rfl; exact rfl) | (apply run_cond; exact rfl; rotate_left; (focus (intro hb; cases hb; done)); intro hb; clear hb) | (apply v_not; exact rfl; exact rfl) | (apply v_geq; exact rfl; exact rfl; exact rfl) | (apply v_lenL; exact slA rfl; exact rfl; exact rfl) | (apply v_neqS; exact rfl; exact rfl; exact rfl) | (apply v_gsplit; exact rfl; exact rfl; exact rfl; all_goals intro hb) | (apply run_cond; exact rfl; all_goals intro hb)))
            all_goals first
              | (exfalso; clear key2; clear c1 c2; simp_all; done)
              | (exfalso; clear key2; clear c1 c2; simp_all; omega)
              | (refine run_weak idN (σ2 := ⟨[(0, .sem (listS nodeE l)), (3, .ptr 3 0)], [(3, .box 33 (nodeL x))]⟩) ?_ ?_ ?_ ?_ key2 <;> first | exact trivial | exact ⟨rfl, trivial⟩ | exact ⟨rfl, rfl, trivial⟩ | rfl)
          refine run_draws (by kernel_rfl) (by kernel_rfl) ?_
          (repeat (first | (apply p_cOx; exact rfl; exact cbA rfl; (first | exact hcp); exact rfl; exact rfl; exact rfl; exact rfl) | (apply p_move; exact rfl; exact rfl; exact rfl) | (apply p_fldP; exact flA rfl; exact rfl; exact rfl; exact rfl; exact rfl) | (apply p_loadB; exact tyA rfl; exact rfl; exact rfl; exact rfl; exact rfl; exact rfl; exact rfl; exact rfl) | (apply p_b; exact plA rfl; exact tyA rfl; exact rfl; exact rfl; exact rfl; exact rfl)))
          refine planL_know 91 rfl (y := .agg (nodeL (fresh x))) (Le.agg (by repeat (first | exact trivial | refine ⟨Le.refl, ?_⟩ | refine ⟨Le.nil, ?_⟩))) ?_
          refine p_l nodeE [fresh x] (slA rfl) (tyA rfl) rfl rfl rfl rfl rfl rfl rfl rfl rfl rfl rfl ?_
          refine p_appendD (slA rfl) (tyA rfl) rfl rfl rfl rfl rfl rfl rfl (by simp; omega) rfl rfl rfl ?_
          (repeat (first | (apply p_assign; exact rfl; exact rfl; exact rfl)))
          refine planL_nil (by kernel_rfl) ?_
          (repeat (first | (apply v_move; exact rfl; exact rfl) | (apply v_assign; exact rfl; exact rfl) | refine run_seq ?_ | refine run_region ?_ | refine runL_nil ?_ | (apply v_lenO; exact slA rfl; exact rfl; exact rfl; exact rfl)))
          refine run_freeze 4 93 rfl rfl ?_
          exact run_ret idN _ Try.func134 ⟨_, _, rfl, rfl, _, _, rfl, rfl, _, _, rfl, rfl, rfl⟩ (by simp [oneA, AV.ren, AV.renL]) trivial trivial rfl
end Go.Proofs.Ytjkidecaciomgaa
/- The reference's nodes: Over, Up, Tie, Name, Want. -/
namespace Go.Proofs.Ytjkidecaciomgaa
set_option linter.unusedVariables false
set_option linter.unusedSimpArgs false
set_option maxRecDepth 100000
open Go.RowKit

theorem kids_all {l : List Nd} (h : WF l) : ∀ x ∈ l, x.kids.length ≤ 1000000 := fun x hx => by
  obtain ⟨i, hi, e⟩ := List.getElem_of_mem hx
  refine (kids_ok h ((i : Int) + 1) x ?_).1
  unfold nodeAt
  rw [if_pos (by omega), show ((i : Int) + 1 - 1).toNat = i by omega, List.getElem?_eq_getElem hi, e]
theorem copy_w {l : List Nd} (h : WF l) : Fun Try.prog 166 [.sem (listS nodeE l)] [] (.res 0) [(0, .obj (ownS 33 nodeE l))] := copy_r (by have := h.len; omega) (kids_all h)
theorem over_o {l : List Nd} (h : WF l) (id : Int) : Fun Try.prog 44 [.sem (listS nodeE l), .v (.int .i64 id)] [] (.res 0) [(0, .obj (ownS 3 intE (ch l upX id)))] := by
  have hd := desc_up h
  have hlen := h.len
  have hcl := ch_len hd id
  refine fun_intro 39 Try.func44 rfl rfl rfl (fun ι F S w => ?_)
  (repeat (first | (apply v_assign; exact rfl; exact rfl) | refine run_seq ?_ | refine run_region ?_ | refine runL_nil ?_ | refine run_block ?_))
  refine run_own 5 5 3 intE rfl rfl rfl rfl ?_
  skip
  refine v_loop (fun q : Nat × Int × List Int => ⟨[(0, .sem (listS nodeE l)), (1, .v (.int .i64 q.2.1)), (5, .res 5), (6, .v (.int .i64 q.1))], [(5, .obj (ownS 3 intE q.2.2))]⟩) (fun q => q.2.2 ++ ch l upX q.2.1 = ch l upX id ∧ q.2.2.length = q.1) (fun q => (ch l upX q.2.1).length) (0, id, []) idN trivial (by repeat (first | exact trivial | refine ⟨rfl, ?_⟩)) (by repeat (first | exact trivial | refine ⟨rfl, ?_⟩)) rfl ⟨rfl, rfl⟩ fun ⟨i, c, out⟩ ⟨hq, ho⟩ ih => ?_
  dsimp only at hq ho ⊢
  have hle : i + (ch l upX c).length ≤ l.length := by
    have := congrArg List.length hq
    rw [List.length_append] at this
    omega
  cases hx : nodeAt l c with
  | none =>
    rw [ch_none hx, List.append_nil] at hq
    (repeat (first | (apply v_move; exact rfl; exact rfl) | refine run_seq ?_ | refine run_region ?_ | (apply v_leq; exact rfl; exact rfl; exact rfl) | (apply v_lenL; exact slA rfl; exact rfl; exact rfl)))
    refine v_is 12 true rfl (by simp; omega) ?_
    (repeat (first | (apply v_cx; exact rfl; exact cbA rfl; (first | exact there_n hx); exact rfl; exact rfl) | (apply v_move; exact rfl; exact rfl) | (apply v_assign; exact rfl; exact rfl) | refine run_seq ?_ | refine run_region ?_ | refine runL_nil ?_ | (apply run_exit; exact rfl) | (apply v_on; exact rfl) | (apply v_pick_t; exact rfl; exact rfl; exact rfl) | (apply run_cond; exact rfl; (focus (intro hb; cases hb; done)); intro hb; clear hb)))
    exact run_ret (mp [(0, 5)]) _ Try.func44 ⟨_, _, rfl, rfl, rfl⟩ rfl trivial ⟨by rw [← hq]; rfl, trivial⟩ rfl
  | some y =>
    obtain ⟨hc1, hc2, hc3⟩ := nodeAt_some hx
    have hst := ch_step hd hlen hx
    rw [hst, List.length_cons] at hle
    (repeat (first | (apply v_move; exact rfl; exact rfl) | refine run_seq ?_ | refine run_region ?_ | (apply v_leq; exact rfl; exact rfl; exact rfl) | (apply v_lenL; exact slA rfl; exact rfl; exact rfl)))
    refine v_is 12 true rfl (by simp; omega) ?_
    (repeat (first | (apply v_cx; exact rfl; exact cbA rfl; (first | exact there_s hx); exact rfl; exact rfl) | (apply v_move; exact rfl; exact rfl) | refine run_seq ?_ | refine run_region ?_ | refine runL_nil ?_ | refine run_skip ?_ | refine run_block ?_ | (apply v_on; exact rfl) | (apply v_pick_t; exact rfl; exact rfl; exact rfl) | (apply run_cond; exact rfl; rotate_left; (focus (intro hb; cases hb; done)); intro hb; clear hb)))
    refine v_l intE [c] (slA rfl) (tyA rfl) rfl rfl rfl rfl rfl rfl rfl rfl rfl rfl ?_
    refine v_appendD (slA rfl) (tyA rfl) rfl rfl rfl rfl rfl rfl rfl (by simp; omega) rfl rfl rfl rfl ?_
    (repeat (first | (apply v_idxL; exact slA rfl; exact tyA rfl; exact rfl; exact rfl; exact rfl; exact rfl; exact (by omega); (first | exact hc3); exact rfl) | (apply v_move; exact rfl; exact rfl) | (apply v_assign; exact rfl; exact rfl) | refine run_seq ?_ | refine run_region ?_ | refine runL_nil ?_ | (apply v_fldA; exact flA rfl; exact rfl; exact rfl; exact rfl) | (apply v_loadA; exact tyA rfl; exact rfl; exact rfl; exact rfl; exact rfl; exact rfl; exact rfl) | (apply v_eql; exact rfl; exact rfl; exact rfl) | (apply v_sub; exact rfl; exact rfl; exact rfl; exact (by omega))))
    refine run_cond rfl (fun hb => ?_) (fun hb => ?_)
    · have hp : y.parent = 0 := by simpa using hb
      have hu : upX y = y.host := by simp [upX, hp]
      (repeat (first | (apply v_idxL; exact slA rfl; exact tyA rfl; exact rfl; exact rfl; exact rfl; exact rfl; exact (by omega); (first | exact hc3); exact rfl) | (apply v_move; exact rfl; exact rfl) | (apply v_assign; exact rfl; exact rfl) | refine run_region ?_ | refine runL_nil ?_ | refine run_inBlock ?_ | (apply v_fldA; exact flA rfl; exact rfl; exact rfl; exact rfl) | (apply v_loadA; exact tyA rfl; exact rfl; exact rfl; exact rfl; exact rfl; exact rfl; exact rfl) | (apply v_add; exact rfl; exact rfl; exact rfl; exact (by omega)) | (apply v_sub; exact rfl; exact rfl; exact rfl; exact (by omega))))
      exact v_again ih (i + 1, y.host, out ++ [c]) (mp [(5, 22)]) trivial (by repeat (first | exact trivial | refine ⟨rfl, ?_⟩)) ⟨rfl, trivial⟩ rfl ⟨by simp only; rw [← hq, hst, hu]; simp, by simp [ho]⟩ (by simp only; rw [hst, hu]; simp)
    · have hp : y.parent ≠ 0 := by simpa using hb
      have hu : upX y = y.parent := by simp [upX, hp]
      (repeat (first | (apply v_move; exact rfl; exact rfl) | (apply v_assign; exact rfl; exact rfl) | refine run_region ?_ | refine runL_nil ?_ | refine run_skip ?_ | refine run_inBlock ?_ | (apply v_add; exact rfl; exact rfl; exact rfl; exact (by omega))))
      exact v_again ih (i + 1, y.parent, out ++ [c]) (mp [(5, 22)]) trivial (by repeat (first | exact trivial | refine ⟨rfl, ?_⟩)) ⟨rfl, trivial⟩ rfl ⟨by simp only; rw [← hq, hst, hu]; simp, by simp [ho]⟩ (by simp only; rw [hst, hu]; simp)
theorem over_r {l : List Nd} (h : WF l) (id : Int) : Fun Try.prog 44 [.sem (listS nodeE l), .v (.int .i64 id)] [] (.sem (listS intE (ch l upX id))) [] := (over_o h id).freeze
theorem up_o {l : List Nd} (h : WF l) (id : Int) : Fun Try.prog 62 [.sem (listS nodeE l), .v (.int .i64 id)] [] (.res 0) [(0, .obj (ownS 3 intE (ch l Nd.parent id)))] := by
  have hd := desc_par h
  have hlen := h.len
  have hcl := ch_len hd id
  refine fun_intro 29 Try.func62 rfl rfl rfl (fun ι F S w => ?_)
  (repeat (first | (apply v_assign; exact rfl; exact rfl) | refine run_seq ?_ | refine run_region ?_ | refine runL_nil ?_ | refine run_block ?_))
  refine run_own 5 5 3 intE rfl rfl rfl rfl ?_
  skip
  refine v_loop (fun q : Nat × Int × List Int => ⟨[(0, .sem (listS nodeE l)), (1, .v (.int .i64 q.2.1)), (5, .res 5), (6, .v (.int .i64 q.1))], [(5, .obj (ownS 3 intE q.2.2))]⟩) (fun q => q.2.2 ++ ch l Nd.parent q.2.1 = ch l Nd.parent id ∧ q.2.2.length = q.1) (fun q => (ch l Nd.parent q.2.1).length) (0, id, []) idN trivial (by repeat (first | exact trivial | refine ⟨rfl, ?_⟩)) (by repeat (first | exact trivial | refine ⟨rfl, ?_⟩)) rfl ⟨rfl, rfl⟩ fun ⟨i, c, out⟩ ⟨hq, ho⟩ ih => ?_
  dsimp only at hq ho ⊢
  have hle : i + (ch l Nd.parent c).length ≤ l.length := by
    have := congrArg List.length hq
    rw [List.length_append] at this
    omega
  cases hx : nodeAt l c with
  | none =>
    rw [ch_none hx, List.append_nil] at hq
    (repeat (first | (apply v_move; exact rfl; exact rfl) | refine run_seq ?_ | refine run_region ?_ | (apply v_leq; exact rfl; exact rfl; exact rfl) | (apply v_lenL; exact slA rfl; exact rfl; exact rfl)))
    refine v_is 11 true rfl (by simp; omega) ?_
    (repeat (first | (apply v_cx; exact rfl; exact cbA rfl; (first | exact there_n hx); exact rfl; exact rfl) | (apply v_move; exact rfl; exact rfl) | (apply v_assign; exact rfl; exact rfl) | refine run_seq ?_ | refine run_region ?_ | refine runL_nil ?_ | (apply run_exit; exact rfl) | (apply v_on; exact rfl) | (apply v_pick_t; exact rfl; exact rfl; exact rfl) | (apply run_cond; exact rfl; (focus (intro hb; cases hb; done)); intro hb; clear hb)))
    exact run_ret (mp [(0, 5)]) _ Try.func62 ⟨_, _, rfl, rfl, rfl⟩ rfl trivial ⟨by rw [← hq]; rfl, trivial⟩ rfl
  | some y =>
    obtain ⟨hc1, hc2, hc3⟩ := nodeAt_some hx
    have hst := ch_step hd hlen hx
    rw [hst, List.length_cons] at hle
    (repeat (first | (apply v_move; exact rfl; exact rfl) | refine run_seq ?_ | refine run_region ?_ | (apply v_leq; exact rfl; exact rfl; exact rfl) | (apply v_lenL; exact slA rfl; exact rfl; exact rfl)))
    refine v_is 11 true rfl (by simp; omega) ?_
    (repeat (first | (apply v_cx; exact rfl; exact cbA rfl; (first | exact there_s hx); exact rfl; exact rfl) | (apply v_move; exact rfl; exact rfl) | refine run_seq ?_ | refine run_region ?_ | refine runL_nil ?_ | refine run_skip ?_ | refine run_block ?_ | (apply v_on; exact rfl) | (apply v_pick_t; exact rfl; exact rfl; exact rfl) | (apply run_cond; exact rfl; rotate_left; (focus (intro hb; cases hb; done)); intro hb; clear hb)))
    refine v_l intE [c] (slA rfl) (tyA rfl) rfl rfl rfl rfl rfl rfl rfl rfl rfl rfl ?_
    refine v_appendD (slA rfl) (tyA rfl) rfl rfl rfl rfl rfl rfl rfl (by simp; omega) rfl rfl rfl rfl ?_
    (repeat (first | (apply v_idxL; exact slA rfl; exact tyA rfl; exact rfl; exact rfl; exact rfl; exact rfl; exact (by omega); (first | exact hc3); exact rfl) | (apply v_move; exact rfl; exact rfl) | (apply v_assign; exact rfl; exact rfl) | refine run_region ?_ | refine runL_nil ?_ | refine run_inBlock ?_ | (apply v_fldA; exact flA rfl; exact rfl; exact rfl; exact rfl) | (apply v_loadA; exact tyA rfl; exact rfl; exact rfl; exact rfl; exact rfl; exact rfl; exact rfl) | (apply v_add; exact rfl; exact rfl; exact rfl; exact (by omega)) | (apply v_sub; exact rfl; exact rfl; exact rfl; exact (by omega))))
    exact v_again ih (i + 1, y.parent, out ++ [c]) (mp [(5, 21)]) trivial (by repeat (first | exact trivial | refine ⟨rfl, ?_⟩)) ⟨rfl, trivial⟩ rfl ⟨by simp only; rw [← hq, hst]; simp, by simp [ho]⟩ (by simp only; rw [hst]; simp)
theorem up_r {l : List Nd} (h : WF l) (id : Int) : Fun Try.prog 62 [.sem (listS nodeE l), .v (.int .i64 id)] [] (.sem (listS intE (ch l Nd.parent id))) [] := (up_o h id).freeze
theorem name_r {l : List Nd} (h : WF l) (id : Int) {s : ByteArray} (hs : s.size ≤ 9223372036854775807) : Fun Try.prog 136 [.sem (listS nodeE l), .v (.int .i64 id), .v (.string s)] [] (.tup [.sem (listS nodeE (nameM l id s).1), .v (.int .i64 (nameM l id s).2)]) [] := by
  have hcp := copy_w h
  cases hx : nodeAt l id with
  | none =>
    have hr : nameM l id s = (l, 1) := by simp [nameM, hx]
    rw [hr]
    refine fun_intro 36 Try.func136 rfl rfl rfl (fun ι F S w => ?_)
    (repeat (first | (apply v_cx; exact rfl; exact cbA rfl; (first | exact there_n hx); exact rfl; exact rfl) | (apply v_move; exact rfl; exact rfl) | (apply v_assign; exact rfl; exact rfl) | refine run_seq ?_ | refine run_region ?_ | refine runL_nil ?_ | (apply v_off; exact rfl; exact rfl) | (apply v_pick_t; exact rfl; exact rfl; exact rfl) | (apply run_cond; exact rfl; rotate_left; (focus (intro hb; cases hb; done)); intro hb; clear hb) | (apply v_not; exact rfl; exact rfl)))
    exact run_ret idN _ Try.func136 ⟨_, _, rfl, rfl, _, _, rfl, rfl, rfl⟩ rfl trivial trivial rfl
  | some x =>
    obtain ⟨h1, h2, h3⟩ := nodeAt_some hx
    have hlen := h.len
    have hr : nameM l id s = if namedB s = false then (l, 1) else if x.slot = false then (l, 2) else (setN l id { x with name := s }, 0) := by simp [nameM, hx]
    rw [hr]
    refine fun_intro 36 Try.func136 rfl rfl rfl (fun ι F S w => ?_)
    (repeat (first | (apply v_cx; exact rfl; exact cbA rfl; (first | exact there_s hx | exact namedr_f hs); exact rfl; exact rfl) | (apply v_move; exact rfl; exact rfl) | (apply v_assign; exact rfl; exact rfl) | refine run_seq ?_ | refine run_region ?_ | refine runL_nil ?_ | (apply v_on; exact rfl) | (apply v_pick_f; exact rfl; exact rfl; exact rfl) | (apply v_not; exact rfl; exact rfl)))
    refine run_cond rfl (fun hb => ?_) (fun hb => ?_)
    · have h' : namedB s = false := by simpa using hb
      rw [if_pos h']
      (repeat (first | (apply v_move; exact rfl; exact rfl) | (apply v_assign; exact rfl; exact rfl) | refine run_seq ?_ | refine run_region ?_ | refine runL_nil ?_))
      exact run_ret idN _ Try.func136 ⟨_, _, rfl, rfl, _, _, rfl, rfl, rfl⟩ rfl trivial trivial rfl
    · have h' : ¬ namedB s = false := by simpa using hb
      rw [if_neg h']
      (repeat (first | (apply v_idxL; exact slA rfl; exact tyA rfl; exact rfl; exact rfl; exact rfl; exact rfl; exact (by omega); (first | exact h3); exact rfl) | (apply v_move; exact rfl; exact rfl) | refine run_seq ?_ | refine run_region ?_ | refine runL_nil ?_ | refine run_skip ?_ | (apply v_fldA; exact flA rfl; exact rfl; exact rfl; exact rfl) | (apply v_loadA; exact tyA rfl; exact rfl; exact rfl; exact rfl; exact rfl; exact rfl; exact rfl) | (apply v_not; exact rfl; exact rfl) | (apply v_sub; exact rfl; exact rfl; exact rfl; exact (by omega))))
      refine run_cond rfl (fun hb => ?_) (fun hb => ?_)
      · have h' : x.slot = false := by simpa using hb
        rw [if_pos h']
        (repeat (first | (apply v_move; exact rfl; exact rfl) | (apply v_assign; exact rfl; exact rfl) | refine run_seq ?_ | refine run_region ?_ | refine runL_nil ?_))
        exact run_ret idN _ Try.func136 ⟨_, _, rfl, rfl, _, _, rfl, rfl, rfl⟩ rfl trivial trivial rfl
      · have h' : ¬ x.slot = false := by simpa using hb
        rw [if_neg h']
        (repeat (first | (apply v_cOx; exact rfl; exact cbA rfl; (first | exact hcp); exact rfl; exact rfl; exact rfl; exact rfl; exact rfl) | (apply v_idxO; exact slA rfl; exact tyA rfl; exact rfl; exact rfl; exact rfl; exact rfl; exact (by omega); exact (by omega); exact rfl) | (apply v_move; exact rfl; exact rfl) | (apply v_assign; exact rfl; exact rfl) | refine run_seq ?_ | refine run_region ?_ | refine runL_nil ?_ | refine run_skip ?_ | (apply v_fldP; exact flA rfl; exact rfl; exact rfl; exact rfl) | (apply v_sub; exact rfl; exact rfl; exact rfl; exact (by omega))))
        refine v_storeO { x with name := s } (tyA rfl) rfl rfl rfl rfl h3 rfl rfl (by decide) rfl rfl ?_
        (repeat (first | (apply v_move; exact rfl; exact rfl) | (apply v_assign; exact rfl; exact rfl) | refine run_seq ?_ | refine run_region ?_ | refine runL_nil ?_))
        refine run_freeze 6 28 rfl rfl ?_
        exact run_ret idN _ Try.func136 ⟨_, _, rfl, rfl, _, _, rfl, rfl, rfl⟩ rfl trivial trivial rfl
theorem want_r {l : List Nd} (h : WF l) (id : Int) {s : ByteArray} (hs : s.size ≤ 9223372036854775807) : Fun Try.prog 137 [.sem (listS nodeE l), .v (.int .i64 id), .v (.string s)] [] (.tup [.sem (listS nodeE (wantM l id s).1), .v (.int .i64 (wantM l id s).2)]) [] := by
  have hcp := copy_w h
  cases hx : nodeAt l id with
  | none =>
    have hr : wantM l id s = (l, 1) := by simp [wantM, hx]
    rw [hr]
    refine fun_intro 36 Try.func137 rfl rfl rfl (fun ι F S w => ?_)
    (repeat (first | (apply v_cx; exact rfl; exact cbA rfl; (first | exact there_n hx); exact rfl; exact rfl) | (apply v_move; exact rfl; exact rfl) | (apply v_assign; exact rfl; exact rfl) | refine run_seq ?_ | refine run_region ?_ | refine runL_nil ?_ | (apply v_off; exact rfl; exact rfl) | (apply v_pick_t; exact rfl; exact rfl; exact rfl) | (apply run_cond; exact rfl; rotate_left; (focus (intro hb; cases hb; done)); intro hb; clear hb) | (apply v_not; exact rfl; exact rfl)))
    exact run_ret idN _ Try.func137 ⟨_, _, rfl, rfl, _, _, rfl, rfl, rfl⟩ rfl trivial trivial rfl
  | some x =>
    obtain ⟨h1, h2, h3⟩ := nodeAt_some hx
    have hlen := h.len
    have hr : wantM l id s = if namedB s = false then (l, 1) else if x.kind ≠ 2 then (l, 2) else (setN l id { x with want := s }, 0) := by simp [wantM, hx]
    rw [hr]
    refine fun_intro 36 Try.func137 rfl rfl rfl (fun ι F S w => ?_)
    (repeat (first | (apply v_cx; exact rfl; exact cbA rfl; (first | exact there_s hx | exact namedr_f hs); exact rfl; exact rfl) | (apply v_move; exact rfl; exact rfl) | (apply v_assign; exact rfl; exact rfl) | refine run_seq ?_ | refine run_region ?_ | refine runL_nil ?_ | (apply v_on; exact rfl) | (apply v_pick_f; exact rfl; exact rfl; exact rfl) | (apply v_not; exact rfl; exact rfl)))
    refine run_cond rfl (fun hb => ?_) (fun hb => ?_)
    · have h' : namedB s = false := by simpa using hb
      rw [if_pos h']
      (repeat (first | (apply v_move; exact rfl; exact rfl) | (apply v_assign; exact rfl; exact rfl) | refine run_seq ?_ | refine run_region ?_ | refine runL_nil ?_))
      exact run_ret idN _ Try.func137 ⟨_, _, rfl, rfl, _, _, rfl, rfl, rfl⟩ rfl trivial trivial rfl
    · have h' : ¬ namedB s = false := by simpa using hb
      rw [if_neg h']
      (repeat (first | (apply v_idxL; exact slA rfl; exact tyA rfl; exact rfl; exact rfl; exact rfl; exact rfl; exact (by omega); (first | exact h3); exact rfl) | (apply v_move; exact rfl; exact rfl) | refine run_seq ?_ | refine run_region ?_ | refine runL_nil ?_ | refine run_skip ?_ | (apply v_fldA; exact flA rfl; exact rfl; exact rfl; exact rfl) | (apply v_loadA; exact tyA rfl; exact rfl; exact rfl; exact rfl; exact rfl; exact rfl; exact rfl) | (apply v_neq; exact rfl; exact rfl; exact rfl) | (apply v_sub; exact rfl; exact rfl; exact rfl; exact (by omega))))
      refine run_cond rfl (fun hb => ?_) (fun hb => ?_)
      · have h' : x.kind ≠ 2 := by simpa using hb
        rw [if_pos h']
        (repeat (first | (apply v_move; exact rfl; exact rfl) | (apply v_assign; exact rfl; exact rfl) | refine run_seq ?_ | refine run_region ?_ | refine runL_nil ?_))
        exact run_ret idN _ Try.func137 ⟨_, _, rfl, rfl, _, _, rfl, rfl, rfl⟩ rfl trivial trivial rfl
      · have h' : ¬ x.kind ≠ 2 := by simpa using hb
        rw [if_neg h']
        (repeat (first | (apply v_cOx; exact rfl; exact cbA rfl; (first | exact hcp); exact rfl; exact rfl; exact rfl; exact rfl; exact rfl) | (apply v_idxO; exact slA rfl; exact tyA rfl; exact rfl; exact rfl; exact rfl; exact rfl; exact (by omega); exact (by omega); exact rfl) | (apply v_move; exact rfl; exact rfl) | (apply v_assign; exact rfl; exact rfl) | refine run_seq ?_ | refine run_region ?_ | refine runL_nil ?_ | refine run_skip ?_ | (apply v_fldP; exact flA rfl; exact rfl; exact rfl; exact rfl) | (apply v_sub; exact rfl; exact rfl; exact rfl; exact (by omega))))
        refine v_storeO { x with want := s } (tyA rfl) rfl rfl rfl rfl h3 rfl rfl (by decide) rfl rfl ?_
        (repeat (first | (apply v_move; exact rfl; exact rfl) | (apply v_assign; exact rfl; exact rfl) | refine run_seq ?_ | refine run_region ?_ | refine runL_nil ?_))
        refine run_freeze 6 28 rfl rfl ?_
        exact run_ret idN _ Try.func137 ⟨_, _, rfl, rfl, _, _, rfl, rfl, rfl⟩ rfl trivial trivial rfl
theorem tie_r {l : List Nd} (h : WF l) (host root : Int) : Fun Try.prog 135 [.sem (listS nodeE l), .v (.int .i64 host), .v (.int .i64 root)] [] (.tup [.sem (listS nodeE (tieM l host root).1), .v (.int .i64 (tieM l host root).2)]) [] := by
  have hcp := copy_w h
  have hlen := h.len
  generalize hT : tieM l host root = T
  cases hx : nodeAt l host with
  | none =>
    obtain rfl : T = (l, 1) := by rw [← hT]; simp [tieM, hx]
    refine fun_intro 75 Try.func135 rfl rfl rfl (fun ι F S w => ?_)
    (repeat (first | (apply v_cx; exact rfl; exact cbA rfl; (first | exact there_n hx); exact rfl; exact rfl) | (apply v_move; exact rfl; exact rfl) | (apply v_assign; exact rfl; exact rfl) | refine run_seq ?_ | refine run_region ?_ | refine runL_nil ?_ | (apply v_off; exact rfl; exact rfl) | (apply v_pick_t; exact rfl; exact rfl; exact rfl) | (apply run_cond; exact rfl; rotate_left; (focus (intro hb; cases hb; done)); intro hb; clear hb) | (apply v_not; exact rfl; exact rfl)))
    exact run_ret idN _ Try.func135 ⟨_, _, rfl, rfl, _, _, rfl, rfl, rfl⟩ rfl trivial trivial rfl
  | some x =>
    cases hy : nodeAt l root with
    | none =>
      obtain rfl : T = (l, 1) := by rw [← hT]; simp [tieM, hx, hy]
      refine fun_intro 75 Try.func135 rfl rfl rfl (fun ι F S w => ?_)
      (repeat (first | (apply v_cx; exact rfl; exact cbA rfl; (first | exact there_s hx | exact there_n hy); exact rfl; exact rfl) | (apply v_move; exact rfl; exact rfl) | (apply v_assign; exact rfl; exact rfl) | refine run_seq ?_ | refine run_region ?_ | refine runL_nil ?_ | (apply v_on; exact rfl) | (apply v_pick_f; exact rfl; exact rfl; exact rfl) | (apply run_cond; exact rfl; rotate_left; (focus (intro hb; cases hb; done)); intro hb; clear hb) | (apply v_not; exact rfl; exact rfl)))
      exact run_ret idN _ Try.func135 ⟨_, _, rfl, rfl, _, _, rfl, rfl, rfl⟩ rfl trivial trivial rfl
    | some y =>
      obtain ⟨a1, a2, a3⟩ := nodeAt_some hx
      obtain ⟨b1, b2, b3⟩ := nodeAt_some hy
      have hT' : T = if x.kind ≠ 2 ∨ y.kind ≠ 3 then (l, 2) else if x.shadow ≠ 0 ∨ y.host ≠ 0 then (l, 6) else if aboveB l root host = true then (l, 3) else (setN (setN l host { x with shadow := root }) root { y with host := host }, 0) := by
        rw [← hT]; simp [tieM, hx, hy]
      clear hT
      have hov := over_r h host
      have hol := ch_len (desc_up h) host
      have hha := has_r (xs := ch l upX host) root (by omega)
      have hab : aboveB l root host = decide (root ∈ ch l upX host) := by
        rw [Bool.eq_iff_iff, aboveB_true, decide_eq_true_iff, mem_over h]
      rw [hab] at hT'
      have hne : x.kind = 2 → y.kind = 3 → host ≠ root := fun e1 e2 e => by
        subst e
        rw [hx] at hy
        cases hy
        omega
      generalize decide (root ∈ ch l upX host) = bb at *
      refine fun_intro 75 Try.func135 rfl rfl rfl (fun ι F S w => ?_)
      (repeat' (first | (apply v_cx; exact rfl; exact cbA rfl; (first | exact there_s hx | exact there_s hy | exact hov | exact hha); exact rfl; exact rfl) | (apply v_idxL; exact slA rfl; exact tyA rfl; exact rfl; exact rfl; exact rfl; exact rfl; exact (by omega); (first | exact a3 | exact b3); exact rfl) | (apply v_move; exact rfl; exact rfl) | (apply v_assign; exact rfl; exact rfl) | refine run_seq ?_ | refine run_region ?_ | refine runL_nil ?_ | refine run_skip ?_ | (apply v_fldA; exact flA rfl; exact rfl; exact rfl; exact rfl) | (apply v_loadA; exact tyA rfl; exact rfl; exact rfl; exact rfl; exact rfl; exact rfl; exact rfl) | (apply v_on; exact rfl) | (apply v_off; exact rfl; exact rfl) | (apply v_pick_t; exact rfl; exact rfl; exact rfl) | (apply v_pick_f; exact rfl; exact rfl; exact rfl) | (apply run_cond; exact rfl; rotate_left; (focus (intro hb; cases hb; done)); intro hb; clear hb) | (apply run_cond; exact rfl; (focus (intro hb; cases hb; done)); intro hb; clear hb) | (apply v_not; exact rfl; exact rfl) | (apply v_neq; exact rfl; exact rfl; exact rfl) | (apply v_sub; exact rfl; exact rfl; exact rfl; exact (by omega)) | (apply v_gsplit; exact rfl; exact rfl; exact rfl; all_goals intro hb) | (apply run_cond; exact rfl; all_goals intro hb)))
      all_goals first
        | (refine via (p := T = (l, 2)) ?_ ?_; (focus (rw [hT']; simp_all; done)); intro hT2; clear hT'; subst hT2; exact run_ret idN _ Try.func135 ⟨_, _, rfl, rfl, _, _, rfl, rfl, rfl⟩ rfl trivial trivial rfl)
        | (refine via (p := T = (l, 6)) ?_ ?_; (focus (rw [hT']; simp_all; done)); intro hT2; clear hT'; subst hT2; exact run_ret idN _ Try.func135 ⟨_, _, rfl, rfl, _, _, rfl, rfl, rfl⟩ rfl trivial trivial rfl)
        | (refine via (p := T = (l, 3)) ?_ ?_; (focus (rw [hT']; simp_all; done)); intro hT2; clear hT'; subst hT2; exact run_ret idN _ Try.func135 ⟨_, _, rfl, rfl, _, _, rfl, rfl, rfl⟩ rfl trivial trivial rfl)
        | skip
      have hne := hne (by simp_all) (by simp_all)
      have hT2 : T = (setN (setN l host { x with shadow := root }) root { y with host := host }, 0) := by rw [hT']; simp_all
      clear hT'
      subst hT2
      (repeat (first | (apply v_cOx; exact rfl; exact cbA rfl; (first | exact hcp); exact rfl; exact rfl; exact rfl; exact rfl; exact rfl) | (apply v_idxO; exact slA rfl; exact tyA rfl; exact rfl; exact rfl; exact rfl; exact rfl; exact (by omega); exact (by omega); exact rfl) | (apply v_move; exact rfl; exact rfl) | (apply v_assign; exact rfl; exact rfl) | refine run_seq ?_ | refine run_region ?_ | refine runL_nil ?_ | (apply v_fldP; exact flA rfl; exact rfl; exact rfl; exact rfl) | (apply v_sub; exact rfl; exact rfl; exact rfl; exact (by omega))))
      refine v_storeO { x with shadow := root } (tyA rfl) rfl rfl rfl rfl a3 rfl rfl (by decide) rfl rfl ?_
      have hl2 : (l.set (host - 1).toNat { x with shadow := root }).length = l.length := by simp
      (repeat (first | (apply v_idxO; exact slA rfl; exact tyA rfl; exact rfl; exact rfl; exact rfl; exact rfl; exact (by omega); exact (by omega); exact rfl) | (apply v_move; exact rfl; exact rfl) | refine run_seq ?_ | refine run_region ?_ | refine runL_nil ?_ | (apply v_fldP; exact flA rfl; exact rfl; exact rfl; exact rfl) | (apply v_sub; exact rfl; exact rfl; exact rfl; exact (by omega))))
      refine v_storeO { y with host := host } (tyA rfl) rfl rfl rfl rfl (setN_ne hx hy hne _) rfl rfl (by decide) rfl rfl ?_
      (repeat (first | (apply v_move; exact rfl; exact rfl) | (apply v_assign; exact rfl; exact rfl) | refine run_seq ?_ | refine run_region ?_ | refine runL_nil ?_))
      refine run_freeze 6 61 rfl rfl ?_
      exact run_ret idN _ Try.func135 ⟨_, _, rfl, rfl, _, _, rfl, rfl, rfl⟩ rfl trivial trivial rfl
end Go.Proofs.Ytjkidecaciomgaa
/- The reference's nodes: Put. -/
namespace Go.Proofs.Ytjkidecaciomgaa
set_option linter.unusedVariables false
set_option linter.unusedSimpArgs false
set_option maxRecDepth 100000
open Go.RowKit

theorem put_r {l : List Nd} (h : WF l) (p : Int) (ks : List Int) (hk : ks.length ≤ 1000000) : Fun Try.prog 121 [.sem (listS nodeE l), .v (.int .i64 p), .sem (listS intE ks)] [] (.tup [.sem (listS nodeE (putM l p ks).1), .v (.int .i64 (putM l p ks).2)]) [] := by
  have hcp := copy_w h
  have hlen := h.len
  generalize hT : putM l p ks = T
  cases hp : nodeAt l p with
  | none =>
    obtain rfl : T = (l, 1) := by rw [← hT]; simp [putM, hp]
    refine fun_intro 139 Try.func121 rfl rfl rfl (fun ι F S w => ?_)
    (repeat (first | (apply v_cx; exact rfl; exact cbA rfl; (first | exact there_n hp); exact rfl; exact rfl) | (apply v_move; exact rfl; exact rfl) | (apply v_assign; exact rfl; exact rfl) | refine run_seq ?_ | refine run_region ?_ | refine runL_nil ?_ | (apply run_cond; exact rfl; rotate_left; (focus (intro hb; cases hb; done)); intro hb; clear hb) | (apply v_not; exact rfl; exact rfl)))
    exact run_ret idN _ Try.func121 ⟨_, _, rfl, rfl, _, _, rfl, rfl, rfl⟩ rfl trivial trivial rfl
  | some px =>
    obtain ⟨p1, p2, p3⟩ := nodeAt_some hp
    have hr : T = if (List.range ks.length).all (argOk l ks) = false then (l, 1) else if ks.all (putOk l p) = false then (l, 3) else (setKids (parAll (parAll l px.kids 0) ks p) p ks, 0) := by
      rw [← hT]; simp only [putM, hp]
    clear hT
    have hov := over_r h p
    have hol := ch_len (desc_up h) p
    refine fun_intro 139 Try.func121 rfl rfl rfl (fun ι F S w => ?_)
    (repeat (first | (apply v_cx; exact rfl; exact cbA rfl; (first | exact there_s hp); exact rfl; exact rfl) | (apply v_move; exact rfl; exact rfl) | (apply v_assign; exact rfl; exact rfl) | refine run_seq ?_ | refine run_region ?_ | refine runL_nil ?_ | refine run_skip ?_ | refine run_block ?_ | (apply run_cond; exact rfl; (focus (intro hb; cases hb; done)); intro hb; clear hb) | (apply v_not; exact rfl; exact rfl)))
    refine v_loop (fun i : Nat => ⟨[(0, .sem (listS nodeE l)), (1, .v (.int .i64 p)), (2, .sem (listS intE ks)), (8, .v (.int .i64 i))], []⟩) (fun i => i ≤ ks.length ∧ ∀ j, j < i → argOk l ks j = true) (fun i => ks.length - i) 0 idN trivial (by repeat (first | exact trivial | refine ⟨rfl, ?_⟩)) (by repeat (first | exact trivial | refine ⟨rfl, ?_⟩)) rfl ⟨by omega, fun j hj => by omega⟩ fun i ⟨hi, hok⟩ ih => ?_
    (repeat (first | (apply v_move; exact rfl; exact rfl) | refine run_seq ?_ | refine run_region ?_ | refine runL_nil ?_ | (apply v_lss; exact rfl; exact rfl; exact rfl) | (apply v_lenL; exact slA rfl; exact rfl; exact rfl)))
    refine run_cond rfl (fun hb => ?_) (fun hb => ?_)
    · have hlt : i < ks.length := by simpa using hb
      have hx : ks[((i : Int)).toNat]? = some ks[i] := by simp [hlt]
      have hgd : ks.getD i 0 = ks[i] := by simp [hlt]
      have hbad : argOk l ks i = false → T = (l, 1) := fun e => hr.trans (if_pos (by
        rw [← Bool.not_eq_true, List.all_eq_true]
        intro hall
        have := hall i (List.mem_range.2 hlt)
        rw [e] at this
        cases this))
      have hha := has_r (xs := ks.take i) ks[i] (by rw [List.length_take]; omega)
      have hti : ((i : Int)).toNat = i := by omega
      cases hq : nodeAt l ks[i] with
      | none =>
        obtain rfl := hbad (by rw [argOk, hgd, hq]; rfl)
        (repeat (first | refine run_seq ?_ | refine run_skip ?_ | refine run_block ?_))
        refine run_draws (by kernel_rfl) (by kernel_rfl) ?_
        (repeat (first | (apply p_idxL; exact slA rfl; exact tyA rfl; exact rfl; exact rfl; exact rfl; exact rfl; exact (by omega); (first | exact hx); exact rfl; exact rfl) | (apply p_cx; exact rfl; exact cbA rfl; (first | exact there_n hq); exact rfl; exact rfl; exact rfl) | (apply p_off; exact rfl; exact rfl) | (apply p_move; exact rfl; exact rfl; exact rfl) | (apply p_loadA; exact tyA rfl; exact rfl; exact rfl; exact rfl; exact rfl; exact rfl; exact rfl; exact rfl) | (apply p_pick_t; exact rfl; exact rfl; exact rfl; exact rfl) | (apply p_not; exact rfl; exact rfl; exact rfl)))
        refine planL_nil (by kernel_rfl) ?_
        (repeat (first | (apply v_move; exact rfl; exact rfl) | (apply v_assign; exact rfl; exact rfl) | refine run_seq ?_ | refine run_region ?_ | refine runL_nil ?_ | (apply run_cond; exact rfl; rotate_left; (focus (intro hb; cases hb; done)); intro hb; clear hb)))
        exact run_ret idN _ Try.func121 ⟨_, _, rfl, rfl, _, _, rfl, rfl, rfl⟩ rfl trivial trivial rfl
      | some y =>
        have hoi : argOk l ks i = !decide (ks[i] ∈ ks.take i) := by rw [argOk, hgd, hq]; rfl
        generalize decide (ks[i] ∈ ks.take i) = bb at *
        (repeat (first | refine run_seq ?_ | refine run_skip ?_ | refine run_block ?_))
        refine run_draws (by kernel_rfl) (by kernel_rfl) ?_
        (repeat (first | (apply p_idxL; exact slA rfl; exact tyA rfl; exact rfl; exact rfl; exact rfl; exact rfl; exact (by omega); (first | exact hx); exact rfl; exact rfl) | (apply p_cx; exact rfl; exact cbA rfl; (first | exact there_s hq | exact hha); exact rfl; exact rfl; exact rfl) | (apply p_move; exact rfl; exact rfl; exact rfl) | (apply p_loadA; exact tyA rfl; exact rfl; exact rfl; exact rfl; exact rfl; exact rfl; exact rfl; exact rfl) | (apply p_pick_f; exact rfl; exact rfl; exact rfl; exact rfl) | (apply p_not; exact rfl; exact rfl; exact rfl) | (apply p_sliceH; exact slA rfl; exact tyA rfl; exact rfl; exact rfl; exact rfl; exact (by omega); exact (by omega); exact rfl; exact rfl)))
        refine planL_nil (by kernel_rfl) ?_
        refine run_cond rfl (fun hb => ?_) (fun hb => ?_)
        · have hb : bb = true := hb
          subst hb
          obtain rfl := hbad hoi
          (repeat (first | (apply v_move; exact rfl; exact rfl) | (apply v_assign; exact rfl; exact rfl) | refine run_seq ?_ | refine run_region ?_ | refine runL_nil ?_))
          exact run_ret idN _ Try.func121 ⟨_, _, rfl, rfl, _, _, rfl, rfl, rfl⟩ rfl trivial trivial rfl
        · have hb : bb = false := hb
          subst hb
          (repeat (first | (apply v_move; exact rfl; exact rfl) | (apply v_assign; exact rfl; exact rfl) | refine run_region ?_ | refine runL_nil ?_ | refine run_skip ?_ | refine run_inBlock ?_ | (apply v_add; exact rfl; exact rfl; exact rfl; exact (by omega))))
          exact v_again ih (i + 1) idN trivial (by repeat (first | exact trivial | refine ⟨rfl, ?_⟩)) (by repeat (first | exact trivial | refine ⟨rfl, ?_⟩)) rfl ⟨by omega, fun j hj => if e : j = i then (by subst e; exact hoi) else hok j (by omega)⟩ (by omega)
    · have hge : i = ks.length := by have : ¬ i < ks.length := (by simpa using hb); omega
      have hall : ∀ j, j < ks.length → argOk l ks j = true := fun j hj => hok j (by omega)
      have hall2 : (List.range ks.length).all (argOk l ks) = true := List.all_eq_true.2 fun j hj => hall j (List.mem_range.1 hj)
      rw [hall2, if_neg (by simp)] at hr
      clear hok ih
      have hsome : ∀ j (hj : j < ks.length), ∃ y, nodeAt l ks[j] = some y := fun j hj => by
        have := hall j hj
        rw [argOk, show ks.getD j 0 = ks[j] by simp [hj], Bool.and_eq_true] at this
        exact Option.isSome_iff_exists.1 this.1
      (repeat (first | (apply v_cx; exact rfl; exact cbA rfl; (first | exact hov); exact rfl; exact rfl) | (apply v_move; exact rfl; exact rfl) | (apply v_assign; exact rfl; exact rfl) | refine run_seq ?_ | refine run_region ?_ | refine runL_nil ?_ | refine run_block ?_ | (apply run_exit; exact rfl)))
      refine v_loop (fun i : Nat => ⟨[(0, .sem (listS nodeE l)), (1, .v (.int .i64 p)), (2, .sem (listS intE ks)), (9, .sem (listS intE (ch l upX p))), (10, .v (.int .i64 i))], []⟩) (fun i => i ≤ ks.length ∧ ∀ j (hj : j < ks.length), j < i → putOk l p ks[j] = true) (fun i => ks.length - i) 0 idN trivial (by repeat (first | exact trivial | refine ⟨rfl, ?_⟩)) (by repeat (first | exact trivial | refine ⟨rfl, ?_⟩)) rfl ⟨by omega, fun j _ hj => by omega⟩ fun i ⟨hi, hok⟩ ih => ?_
      (repeat (first | (apply v_move; exact rfl; exact rfl) | refine run_seq ?_ | refine run_region ?_ | refine runL_nil ?_ | (apply v_lss; exact rfl; exact rfl; exact rfl) | (apply v_lenL; exact slA rfl; exact rfl; exact rfl)))
      refine run_cond rfl (fun hb => ?_) (fun hb => ?_)
      · have hlt : i < ks.length := by simpa using hb
        have hx : ks[((i : Int)).toNat]? = some ks[i] := by simp [hlt]
        obtain ⟨y, hq⟩ := hsome i hlt
        obtain ⟨y1, y2, y3⟩ := nodeAt_some hq
        have hha := has_r (xs := ch l upX p) ks[i] (by omega)
        have hpo : putOk l p ks[i] = (!(rootedB y) && (!(decide (ks[i] ∈ ch l upX p)) && (y.parent == 0 || y.parent == p))) := by
          have : aboveB l ks[i] p = decide (ks[i] ∈ ch l upX p) := by rw [Bool.eq_iff_iff, aboveB_true, decide_eq_true_iff, mem_over h]
          simp only [putOk, hq, this]
        generalize decide (ks[i] ∈ ch l upX p) = bb at *
        rw [rootedB] at hpo
        (repeat' (first | (apply v_idxL; exact slA rfl; exact tyA rfl; exact rfl; exact rfl; exact rfl; exact rfl; exact (by omega); (first | exact hx | exact y3); exact rfl) | (apply v_cx; exact rfl; exact cbA rfl; (first | exact hha); exact rfl; exact rfl) | (apply v_move; exact rfl; exact rfl) | (apply v_assign; exact rfl; exact rfl) | refine run_seq ?_ | refine run_region ?_ | refine runL_nil ?_ | refine run_skip ?_ | refine run_block ?_ | refine run_inBlock ?_ | (apply v_fldA; exact flA rfl; exact rfl; exact rfl; exact rfl) | (apply v_loadA; exact tyA rfl; exact rfl; exact rfl; exact rfl; exact rfl; exact rfl; exact rfl) | (apply v_on; exact rfl) | (apply v_off; exact rfl; exact rfl) | (apply v_pick_t; exact rfl; exact rfl; exact rfl) | (apply v_pick_f; exact rfl; exact rfl; exact rfl) | (apply run_cond; exact rfl; rotate_left; (focus (intro hb; cases hb; done)); intro hb; clear hb) | (apply run_cond; exact rfl; (focus (intro hb; cases hb; done)); intro hb; clear hb) | (apply v_eql; exact rfl; exact rfl; exact rfl) | (apply v_neq; exact rfl; exact rfl; exact rfl) | (apply v_add; exact rfl; exact rfl; exact rfl; exact (by omega)) | (apply v_sub; exact rfl; exact rfl; exact rfl; exact (by omega)) | (apply v_gsplit; exact rfl; exact rfl; exact rfl; all_goals intro hb) | (apply run_cond; exact rfl; all_goals intro hb)))
        all_goals first
          | (refine via (p := putOk l p ks[i] = false) ?_ ?_; (focus (rw [hpo]; simp_all; done)); intro hbad; have hT2 : T = (l, 3) := (hr.trans (if_pos (all_false hlt hbad))); clear hr; subst hT2; exact run_ret idN _ Try.func121 ⟨_, _, rfl, rfl, _, _, rfl, rfl, rfl⟩ rfl trivial trivial rfl)
          | (refine via (p := putOk l p ks[i] = true) ?_ ?_; (focus (rw [hpo]; simp_all; done)); intro hgood; exact v_again ih (i + 1) idN trivial (by repeat (first | exact trivial | refine ⟨rfl, ?_⟩)) (by repeat (first | exact trivial | refine ⟨rfl, ?_⟩)) rfl ⟨by omega, fun j hj' hj => if e : j = i then (by subst e; exact hgood) else hok j hj' (by omega)⟩ (by omega))
      · have hge : i = ks.length := by have : ¬ i < ks.length := (by simpa using hb); omega
        have hall3 : ks.all (putOk l p) = true := List.all_eq_true.2 fun k hk => by
          obtain ⟨j, hj, rfl⟩ := List.getElem_of_mem hk
          exact hok j hj (by omega)
        rw [hall3, if_neg (by simp)] at hr
        subst hr
        rw [← put_ref h hp]
        clear hok ih hall2 hall3
        (repeat (first | (apply v_cOx; exact rfl; exact cbA rfl; (first | exact hcp); exact rfl; exact rfl; exact rfl; exact rfl; exact rfl) | (apply v_move; exact rfl; exact rfl) | (apply v_assign; exact rfl; exact rfl) | refine run_seq ?_ | refine run_region ?_ | refine runL_nil ?_ | refine run_block ?_ | (apply run_exit; exact rfl)))
        refine v_loop (fun i : Nat => ⟨[(1, .v (.int .i64 p)), (2, .sem (listS intE ks)), (13, .res 97), (14, .v (.int .i64 i))], [(97, .obj (ownS 33 nodeE ((l.map (zeroP p)).take i ++ l.drop i)))]⟩) (fun i => i ≤ l.length) (fun i => l.length - i) 0 idN trivial (by repeat (first | exact trivial | refine ⟨rfl, ?_⟩)) (by repeat (first | exact trivial | refine ⟨rfl, ?_⟩)) rfl (by omega) fun i hi ih => ?_
        have hml := mapTo_len (g := zeroP p) (l := l) (i := i)
        (repeat (first | (apply v_move; exact rfl; exact rfl) | refine run_seq ?_ | refine run_region ?_ | refine runL_nil ?_ | (apply v_lss; exact rfl; exact rfl; exact rfl) | (apply v_lenO; exact slA rfl; exact rfl; exact rfl; exact rfl)))
        refine run_cond rfl (fun hb => ?_) (fun hb => ?_)
        · have hlt : i < l.length := by have := (by simpa using hb : (i : Int) < ((l.map (zeroP p)).take i ++ l.drop i).length); omega
          have hx0 : l[i]? = some l[i] := List.getElem?_eq_getElem hlt
          have hx : ((l.map (zeroP p)).take i ++ l.drop i)[((i : Int)).toNat]? = some l[i] := by rw [show ((i : Int)).toNat = i by omega]; exact mapTo_get hx0
          have hnx := mapTo_next (g := zeroP p) hx0
          have hsm := mapTo_same (g := zeroP p) hx0
          generalize hM : (l.map (zeroP p)).take i ++ l.drop i = M at *
          have hz : zeroP p l[i] = if l[i].parent = p then { l[i] with parent := 0 } else l[i] := rfl
          generalize l[i] = y at *
          (repeat (first | (apply v_idxO; exact slA rfl; exact tyA rfl; exact rfl; exact rfl; exact rfl; exact rfl; exact (by omega); exact (by omega); exact rfl) | (apply v_loadO; exact tyA rfl; exact rfl; exact rfl; exact rfl; exact rfl; (first | exact hx); exact (by decide); exact rfl; exact rfl) | (apply v_move; exact rfl; exact rfl) | refine run_seq ?_ | refine run_region ?_ | refine runL_nil ?_ | refine run_skip ?_ | refine run_block ?_ | (apply v_fldP; exact flA rfl; exact rfl; exact rfl; exact rfl) | (apply v_eql; exact rfl; exact rfl; exact rfl)))
          refine run_cond rfl (fun hb => ?_) (fun hb => ?_)
          · have e : y.parent = p := by simpa using hb
            rw [if_pos e] at hz
            (repeat (first | (apply v_idxO; exact slA rfl; exact tyA rfl; exact rfl; exact rfl; exact rfl; exact rfl; exact (by omega); exact (by omega); exact rfl) | (apply v_move; exact rfl; exact rfl) | refine run_region ?_ | (apply v_fldP; exact flA rfl; exact rfl; exact rfl; exact rfl)))
            refine v_storeO { y with parent := 0 } (tyA rfl) rfl rfl rfl rfl hx rfl rfl (by decide) rfl rfl ?_
            (repeat (first | (apply v_move; exact rfl; exact rfl) | (apply v_assign; exact rfl; exact rfl) | refine run_region ?_ | refine runL_nil ?_ | refine run_inBlock ?_ | (apply v_add; exact rfl; exact rfl; exact rfl; exact (by omega))))
            exact v_again ih (i + 1) idN trivial (by repeat (first | exact trivial | refine ⟨rfl, ?_⟩)) ⟨by rw [← hnx, hz, show ((i : Int)).toNat = i by omega]; rfl, trivial⟩ rfl (by omega) (by omega)
          · have e : y.parent ≠ p := by simpa using hb
            rw [if_neg e] at hz
            (repeat (first | (apply v_move; exact rfl; exact rfl) | (apply v_assign; exact rfl; exact rfl) | refine run_region ?_ | refine runL_nil ?_ | refine run_skip ?_ | refine run_inBlock ?_ | (apply v_add; exact rfl; exact rfl; exact rfl; exact (by omega))))
            exact v_again ih (i + 1) idN trivial (by repeat (first | exact trivial | refine ⟨rfl, ?_⟩)) ⟨by rw [← hsm hz]; rfl, trivial⟩ rfl (by omega) (by omega)
        · have hge : i = l.length := by have : ¬ ((i : Int) < ((l.map (zeroP p)).take i ++ l.drop i).length) := (by simpa using hb); omega
          rw [hge, mapTo_end]
          clear ih
          obtain ⟨l1, hl1e⟩ : ∃ l1, l1 = l.map (zeroP p) := ⟨_, rfl⟩
          have hl1 : l1.length = l.length := by rw [hl1e, List.length_map]
          rw [← hl1e]
          (repeat (first | (apply v_assign; exact rfl; exact rfl) | refine run_seq ?_ | refine run_region ?_ | refine runL_nil ?_ | refine run_block ?_ | (apply run_exit; exact rfl)))
          refine v_loop (fun i : Nat => ⟨[(1, .v (.int .i64 p)), (2, .sem (listS intE ks)), (13, .res 97), (15, .v (.int .i64 i))], [(97, .obj (ownS 33 nodeE (parAll l1 (ks.take i) p)))]⟩) (fun i => i ≤ ks.length) (fun i => ks.length - i) 0 idN trivial (by repeat (first | exact trivial | refine ⟨rfl, ?_⟩)) (by repeat (first | exact trivial | refine ⟨rfl, ?_⟩)) rfl (by omega) fun i hi ih => ?_
          (repeat (first | (apply v_move; exact rfl; exact rfl) | refine run_seq ?_ | refine run_region ?_ | refine runL_nil ?_ | (apply v_lss; exact rfl; exact rfl; exact rfl) | (apply v_lenL; exact slA rfl; exact rfl; exact rfl)))
          refine run_cond rfl (fun hb => ?_) (fun hb => ?_)
          · have hlt : i < ks.length := by simpa using hb
            have hx : ks[((i : Int)).toNat]? = some ks[i] := by simp [hlt]
            have hLl := len_parAll (ks.take i) p l1
            obtain ⟨y, hq⟩ := Option.isSome_iff_exists.1 ((nodeAt_len hLl ks[i]).trans (by obtain ⟨y, hy⟩ := hsome i hlt; rw [nodeAt_len hl1, hy]; rfl))
            obtain ⟨y1, y2, y3⟩ := nodeAt_some hq
            have hstep : parAll l1 (ks.take (i + 1)) p = (parAll l1 (ks.take i) p).set (ks[i] - 1).toNat { y with parent := p } := by
              rw [parAll_take (k := ks[i]) (by simp [hlt]), setPar, hq]
              rfl
            (repeat (first | (apply v_idxL; exact slA rfl; exact tyA rfl; exact rfl; exact rfl; exact rfl; exact rfl; exact (by omega); (first | exact hx); exact rfl) | (apply v_idxO; exact slA rfl; exact tyA rfl; exact rfl; exact rfl; exact rfl; exact rfl; exact (by omega); exact (by omega); exact rfl) | (apply v_move; exact rfl; exact rfl) | refine run_seq ?_ | refine run_region ?_ | refine run_skip ?_ | refine run_block ?_ | (apply v_fldP; exact flA rfl; exact rfl; exact rfl; exact rfl) | (apply v_loadA; exact tyA rfl; exact rfl; exact rfl; exact rfl; exact rfl; exact rfl; exact rfl) | (apply v_sub; exact rfl; exact rfl; exact rfl; exact (by omega))))
            refine v_storeO { y with parent := p } (tyA rfl) rfl rfl rfl rfl y3 rfl rfl (by decide) rfl rfl ?_
            (repeat (first | (apply v_move; exact rfl; exact rfl) | (apply v_assign; exact rfl; exact rfl) | refine run_region ?_ | refine runL_nil ?_ | refine run_inBlock ?_ | (apply v_add; exact rfl; exact rfl; exact rfl; exact (by omega))))
            exact v_again ih (i + 1) idN trivial (by repeat (first | exact trivial | refine ⟨rfl, ?_⟩)) ⟨by rw [hstep]; rfl, trivial⟩ rfl (by omega) (by omega)
          · have hge : i = ks.length := by have : ¬ i < ks.length := (by simpa using hb); omega
            rw [hge, List.take_length]
            clear ih
            obtain ⟨l2, hl2e⟩ : ∃ l2, l2 = parAll l1 ks p := ⟨_, rfl⟩
            have hl2 : l2.length = l.length := by rw [hl2e, len_parAll, hl1]
            rw [← hl2e]
            obtain ⟨q2, hp2⟩ := Option.isSome_iff_exists.1 ((nodeAt_len hl2 p).trans (by rw [hp]; rfl))
            have hj2 := (nodeAt_some hp2).2.2
            have hres : setKids l2 p ks = l2.set (p - 1).toNat { q2 with kids := ks } := by rw [setKids, hp2]; rfl
            rw [hres]
            (repeat (first | (apply v_move; exact rfl; exact rfl) | refine run_seq ?_ | refine run_region ?_ | (apply run_exit; exact rfl) | (apply v_sub; exact rfl; exact rfl; exact rfl; exact (by omega))))
            refine v_lO intE [] (slA rfl) (tyA rfl) rfl rfl rfl rfl rfl rfl rfl rfl rfl rfl rfl rfl rfl rfl ?_
            (repeat (first | (apply v_move; exact rfl; exact rfl)))
            refine v_appendD (slA rfl) (tyA rfl) rfl rfl rfl rfl rfl rfl rfl (by simp; omega) rfl rfl rfl rfl ?_
            refine runL_freeze 135 135 rfl rfl ?_
            (repeat (first | (apply v_idxO; exact slA rfl; exact tyA rfl; exact rfl; exact rfl; exact rfl; exact rfl; exact (by omega); exact (by omega); exact rfl) | (apply v_fldP; exact flA rfl; exact rfl; exact rfl; exact rfl)))
            refine v_storeO { q2 with kids := ks } (tyA rfl) rfl rfl rfl rfl hj2 rfl rfl (by decide) rfl rfl ?_
            (repeat (first | (apply v_move; exact rfl; exact rfl) | (apply v_assign; exact rfl; exact rfl) | refine run_seq ?_ | refine run_region ?_ | refine runL_nil ?_))
            refine run_freeze 6 97 rfl rfl ?_
            exact run_ret idN _ Try.func121 ⟨_, _, rfl, rfl, _, _, rfl, rfl, rfl⟩ rfl trivial trivial rfl
end Go.Proofs.Ytjkidecaciomgaa
/- The reference's nodes: Do, Nodes, One, Same. -/
namespace Go.Proofs.Ytjkidecaciomgaa
set_option linter.unusedVariables false
set_option linter.unusedSimpArgs false
set_option maxRecDepth 100000
open Go.RowKit

/-- A call: the nodes, a number, an error. -/
noncomputable def doM (l : List Nd) (x : Ac) : List Nd × Int × Int :=
  if x.kind = 0 then makeM l x.n
  else if x.kind = 1 then ((putM l x.a x.l).1, 0, (putM l x.a x.l).2)
  else if x.kind = 2 then ((tieM l x.a x.b).1, 0, (tieM l x.a x.b).2)
  else if x.kind = 3 then ((nameM l x.a x.s).1, 0, (nameM l x.a x.s).2)
  else if x.kind = 4 then ((wantM l x.a x.s).1, 0, (wantM l x.a x.s).2)
  else (l, 0, 0)
theorem do_act (l : List Nd) (x : Ac) : (doM l x).1 = actM l x := by
  unfold doM actM
  repeat' split
  all_goals rfl
theorem do_r {l : List Nd} (h : WF l) {x : Ac} (hx : AcOk x) : Fun Try.prog 36 [.sem (listS nodeE l), .agg (acE.f x)] [] (.tup [.sem (listS nodeE (doM l x).1), .v (.int .i64 (doM l x).2.1), .v (.int .i64 (doM l x).2.2)]) [] := by
  have h0 := make_r (l := l) (x := x.n) hx.name hx.want h.len (kids_all h)
  have h1 := put_r h x.a x.l hx.l
  have h2 := tie_r h x.a x.b
  have h3 := name_r h x.a hx.s
  have h4 := want_r h x.a hx.s
  have hd : doM l x = if x.kind = 0 then makeM l x.n else if x.kind = 1 then ((putM l x.a x.l).1, 0, (putM l x.a x.l).2) else if x.kind = 2 then ((tieM l x.a x.b).1, 0, (tieM l x.a x.b).2) else if x.kind = 3 then ((nameM l x.a x.s).1, 0, (nameM l x.a x.s).2) else if x.kind = 4 then ((wantM l x.a x.s).1, 0, (wantM l x.a x.s).2) else (l, 0, 0) := rfl
  generalize doM l x = D at *
  refine fun_intro 65 Try.func36 rfl rfl rfl (fun ι F S w => ?_)
  (repeat (first | (apply v_assign; exact rfl; exact rfl) | refine run_seq ?_ | refine run_region ?_ | refine runL_nil ?_ | refine run_block ?_ | (apply v_fldP; exact flA rfl; exact rfl; exact rfl; exact rfl) | (apply v_loadB; exact tyA rfl; exact rfl; exact rfl; exact rfl; exact rfl; exact rfl; exact rfl) | (apply v_eql; exact rfl; exact rfl; exact rfl) | (apply v_boxD; exact rfl; exact rfl; exact rfl; exact rfl; exact rfl; exact rfl; exact rfl)))
  refine run_cond rfl (fun hb => ?_) (fun hb => ?_)
  · have hk : x.kind = 0 := by simpa using hb
    rw [if_pos hk] at hd
    subst hd
    (repeat (first | (apply v_cx; exact rfl; exact cbA rfl; (first | exact h0); exact rfl; exact rfl) | (apply v_move; exact rfl; exact rfl) | (apply v_assign; exact rfl; exact rfl) | refine run_seq ?_ | refine run_region ?_ | refine runL_nil ?_ | (apply v_extract; exact rfl; exact rfl; exact rfl) | (apply v_fldP; exact flA rfl; exact rfl; exact rfl; exact rfl) | (apply v_loadB; exact tyA rfl; exact rfl; exact rfl; exact rfl; exact rfl; exact rfl; exact rfl)))
    exact run_ret idN _ Try.func36 ⟨_, _, rfl, rfl, _, _, rfl, rfl, _, _, rfl, rfl, rfl⟩ rfl trivial trivial rfl
  have hk0 : ¬ x.kind = 0 := by simpa using hb
  clear hb
  rw [if_neg hk0] at hd
  (repeat (first | (apply v_assign; exact rfl; exact rfl) | refine run_seq ?_ | refine run_region ?_ | refine runL_nil ?_ | (apply v_eql; exact rfl; exact rfl; exact rfl)))
  refine run_cond rfl (fun hb => ?_) (fun hb => ?_)
  · have hk : x.kind = 1 := by simpa using hb
    rw [if_pos hk] at hd
    subst hd
    (repeat (first | (apply v_cx; exact rfl; exact cbA rfl; (first | exact h1); exact rfl; exact rfl) | (apply v_move; exact rfl; exact rfl) | (apply v_assign; exact rfl; exact rfl) | refine run_seq ?_ | refine run_region ?_ | refine runL_nil ?_ | refine run_inBlock ?_ | (apply v_extract; exact rfl; exact rfl; exact rfl) | (apply v_fldP; exact flA rfl; exact rfl; exact rfl; exact rfl) | (apply v_loadB; exact tyA rfl; exact rfl; exact rfl; exact rfl; exact rfl; exact rfl; exact rfl)))
    exact run_ret idN _ Try.func36 ⟨_, _, rfl, rfl, _, _, rfl, rfl, _, _, rfl, rfl, rfl⟩ rfl trivial trivial rfl
  have hk1 : ¬ x.kind = 1 := by simpa using hb
  clear hb
  rw [if_neg hk1] at hd
  (repeat (first | (apply v_assign; exact rfl; exact rfl) | refine run_seq ?_ | refine run_region ?_ | refine runL_nil ?_ | (apply v_eql; exact rfl; exact rfl; exact rfl)))
  refine run_cond rfl (fun hb => ?_) (fun hb => ?_)
  · have hk : x.kind = 2 := by simpa using hb
    rw [if_pos hk] at hd
    subst hd
    (repeat (first | (apply v_cx; exact rfl; exact cbA rfl; (first | exact h2); exact rfl; exact rfl) | (apply v_move; exact rfl; exact rfl) | (apply v_assign; exact rfl; exact rfl) | refine run_seq ?_ | refine run_region ?_ | refine runL_nil ?_ | refine run_inBlock ?_ | (apply v_extract; exact rfl; exact rfl; exact rfl) | (apply v_fldP; exact flA rfl; exact rfl; exact rfl; exact rfl) | (apply v_loadB; exact tyA rfl; exact rfl; exact rfl; exact rfl; exact rfl; exact rfl; exact rfl)))
    exact run_ret idN _ Try.func36 ⟨_, _, rfl, rfl, _, _, rfl, rfl, _, _, rfl, rfl, rfl⟩ rfl trivial trivial rfl
  have hk2 : ¬ x.kind = 2 := by simpa using hb
  clear hb
  rw [if_neg hk2] at hd
  (repeat (first | (apply v_assign; exact rfl; exact rfl) | refine run_seq ?_ | refine run_region ?_ | refine runL_nil ?_ | (apply v_eql; exact rfl; exact rfl; exact rfl)))
  refine run_cond rfl (fun hb => ?_) (fun hb => ?_)
  · have hk : x.kind = 3 := by simpa using hb
    rw [if_pos hk] at hd
    subst hd
    (repeat (first | (apply v_cx; exact rfl; exact cbA rfl; (first | exact h3); exact rfl; exact rfl) | (apply v_move; exact rfl; exact rfl) | (apply v_assign; exact rfl; exact rfl) | refine run_seq ?_ | refine run_region ?_ | refine runL_nil ?_ | refine run_inBlock ?_ | (apply v_extract; exact rfl; exact rfl; exact rfl) | (apply v_fldP; exact flA rfl; exact rfl; exact rfl; exact rfl) | (apply v_loadB; exact tyA rfl; exact rfl; exact rfl; exact rfl; exact rfl; exact rfl; exact rfl)))
    exact run_ret idN _ Try.func36 ⟨_, _, rfl, rfl, _, _, rfl, rfl, _, _, rfl, rfl, rfl⟩ rfl trivial trivial rfl
  have hk3 : ¬ x.kind = 3 := by simpa using hb
  clear hb
  rw [if_neg hk3] at hd
  (repeat (first | (apply v_assign; exact rfl; exact rfl) | refine run_seq ?_ | refine run_region ?_ | refine runL_nil ?_ | (apply v_eql; exact rfl; exact rfl; exact rfl)))
  refine run_cond rfl (fun hb => ?_) (fun hb => ?_)
  · have hk : x.kind = 4 := by simpa using hb
    rw [if_pos hk] at hd
    subst hd
    (repeat (first | (apply v_cx; exact rfl; exact cbA rfl; (first | exact h4); exact rfl; exact rfl) | (apply v_move; exact rfl; exact rfl) | (apply v_assign; exact rfl; exact rfl) | refine run_seq ?_ | refine run_region ?_ | refine runL_nil ?_ | refine run_inBlock ?_ | (apply v_extract; exact rfl; exact rfl; exact rfl) | (apply v_fldP; exact flA rfl; exact rfl; exact rfl; exact rfl) | (apply v_loadB; exact tyA rfl; exact rfl; exact rfl; exact rfl; exact rfl; exact rfl; exact rfl)))
    exact run_ret idN _ Try.func36 ⟨_, _, rfl, rfl, _, _, rfl, rfl, _, _, rfl, rfl, rfl⟩ rfl trivial trivial rfl
  have hk4 : ¬ x.kind = 4 := by simpa using hb
  clear hb
  rw [if_neg hk4] at hd
  subst hd
  (repeat (first | (apply v_move; exact rfl; exact rfl) | (apply v_assign; exact rfl; exact rfl) | refine run_seq ?_ | refine run_region ?_ | refine runL_nil ?_ | refine run_skip ?_ | refine run_inBlock ?_))
  exact run_ret idN _ Try.func36 ⟨_, _, rfl, rfl, _, _, rfl, rfl, _, _, rfl, rfl, rfl⟩ rfl trivial trivial rfl
theorem nodes_r {xs : List Ac} (hl : xs.length ≤ 300) (hx : ∀ x ∈ xs, AcOk x) : Fun Try.prog 59 [.sem (listS acE xs)] [] (.sem (listS nodeE (nodesM xs))) [] := by
  refine fun_intro 22 Try.func59 rfl rfl rfl (fun ι F S w => ?_)
  (repeat (first | (apply v_assign; exact rfl; exact rfl) | refine run_seq ?_ | refine run_region ?_ | refine runL_nil ?_ | refine run_block ?_))
  refine run_le 3 rfl (y := .sem (listS nodeE [])) Le.nil ?_
  refine v_loop (fun i : Nat => ⟨[(0, .sem (listS acE xs)), (3, .sem (listS nodeE (nodesM (xs.take i)))), (4, .v (.int .i64 i))], []⟩) (fun i => i ≤ xs.length) (fun i => xs.length - i) 0 idN trivial (by repeat (first | exact trivial | refine ⟨rfl, ?_⟩)) (by repeat (first | exact trivial | refine ⟨rfl, ?_⟩)) rfl (by omega) fun i hi ih => ?_
  have hw : WF (nodesM (xs.take i)) := wf_nodes fun x h => hx x (List.mem_of_mem_take h)
  (repeat (first | (apply v_move; exact rfl; exact rfl) | refine run_seq ?_ | refine run_region ?_ | refine runL_nil ?_ | (apply v_lss; exact rfl; exact rfl; exact rfl) | (apply v_lenL; exact slA rfl; exact rfl; exact rfl)))
  refine run_cond rfl (fun hb => ?_) (fun hb => ?_)
  · have hlt : i < xs.length := by simpa using hb
    have hx2 : xs[((i : Int)).toNat]? = some xs[i] := by simp [hlt]
    have hd := do_r hw (hx _ (List.getElem_mem hlt))
    have hst : nodesM (xs.take (i + 1)) = (doM (nodesM (xs.take i)) xs[i]).1 := by rw [nodes_take hlt, do_act]
    generalize doM (nodesM (xs.take i)) xs[i] = D at *
    (repeat (first | (apply v_idxL; exact slA rfl; exact tyA rfl; exact rfl; exact rfl; exact rfl; exact rfl; exact (by omega); (first | exact hx2); exact rfl) | (apply v_cx; exact rfl; exact cbA rfl; (first | exact hd); exact rfl; exact rfl) | (apply v_move; exact rfl; exact rfl) | (apply v_assign; exact rfl; exact rfl) | refine run_seq ?_ | refine run_region ?_ | refine runL_nil ?_ | refine run_skip ?_ | refine run_block ?_ | refine run_inBlock ?_ | (apply v_extract; exact rfl; exact rfl; exact rfl) | (apply v_loadA; exact tyA rfl; exact rfl; exact rfl; exact rfl; exact rfl; exact rfl; exact rfl) | (apply v_add; exact rfl; exact rfl; exact rfl; exact (by omega))))
    exact v_again ih (i + 1) idN trivial ⟨rfl, by rw [hst]; rfl, rfl, trivial⟩ trivial rfl (by omega) (by omega)
  · have hge : i = xs.length := by have : ¬ i < xs.length := (by simpa using hb); omega
    rw [show nodesM xs = nodesM (xs.take i) by rw [hge, List.take_length]]
    (repeat (first | (apply v_move; exact rfl; exact rfl) | (apply v_assign; exact rfl; exact rfl) | refine run_seq ?_ | refine run_region ?_ | refine runL_nil ?_ | (apply run_exit; exact rfl)))
    exact run_ret idN _ Try.func59 ⟨_, _, rfl, rfl, rfl⟩ rfl trivial trivial rfl
theorem one_r {x y : Nd} (hk : x.kids.length ≤ 1000000) : Fun Try.prog 40 [.agg (nodeL x), .agg (nodeL y)] [] (.v (.bool (decide (x = y)))) [] := by
  obtain ⟨a1, a2, a3, a4, a5, a6, a7, a8, a9⟩ := x
  obtain ⟨b1, b2, b3, b4, b5, b6, b7, b8, b9⟩ := y
  have hi := ints_f (xs := a9) (ys := b9) hk
  refine fun_intro 66 Try.func40 rfl rfl rfl (fun ι F S w => ?_)
  (repeat' (first | (apply v_cx; exact rfl; exact cbA rfl; (first | exact hi); exact rfl; exact rfl) | (apply v_move; exact rfl; exact rfl) | (apply v_assign; exact rfl; exact rfl) | refine run_seq ?_ | refine run_region ?_ | refine runL_nil ?_ | (apply v_fldP; exact flA rfl; exact rfl; exact rfl; exact rfl) | (apply v_loadB; exact tyA rfl; exact rfl; exact rfl; exact rfl; exact rfl; exact rfl; exact rfl) | (apply v_on; exact rfl) | (apply v_off; exact rfl; exact rfl) | (apply v_pick_t; exact rfl; exact rfl; exact rfl) | (apply v_pick_f; exact rfl; exact rfl; exact rfl) | (apply v_eql; exact rfl; exact rfl; exact rfl) | (apply v_boxD; exact rfl; exact rfl; exact rfl; exact rfl; exact rfl; exact rfl; exact rfl) | (apply v_eqlS; exact rfl; exact rfl; exact rfl) | (apply v_eqlB; exact boA rfl; exact rfl; exact rfl; exact rfl) | (apply v_gsplit; exact rfl; exact rfl; exact rfl; all_goals intro hb)))
  all_goals exact run_ret idN _ Try.func40 ⟨_, _, rfl, rfl, rfl⟩ (by simp_all [AV.ren, oneA]) trivial trivial rfl
theorem same_r {l m : List Nd} (hm : l.length ≤ 1000000) (hk : ∀ x ∈ l, x.kids.length ≤ 1000000) : Fun Try.prog 42 [.sem (listS nodeE l), .sem (listS nodeE m)] [] (.v (.bool (decide (l = m)))) [] := by
  refine fun_intro 27 Try.func42 rfl rfl rfl (fun ι F S w => ?_)
  (repeat (first | (apply v_move; exact rfl; exact rfl) | (apply v_assign; exact rfl; exact rfl) | refine run_seq ?_ | refine run_region ?_ | refine runL_nil ?_ | (apply v_neq; exact rfl; exact rfl; exact rfl) | (apply v_lenL; exact slA rfl; exact rfl; exact rfl)))
  refine run_cond rfl (fun h => ?_) (fun h => ?_)
  · have hne : l.length ≠ m.length := by
      have : (l.length : Int) ≠ m.length := by simpa using h
      omega
    have hf : decide (l = m) = false := by simp; intro e; exact hne (by rw [e])
    rw [hf]
    (repeat (first | (apply v_assign; exact rfl; exact rfl) | refine run_seq ?_ | refine run_region ?_ | refine runL_nil ?_))
    exact run_ret idN _ Try.func42 ⟨_, _, rfl, rfl, rfl⟩ rfl trivial trivial rfl
  · have hle : l.length = m.length := by
      have : (l.length : Int) = m.length := by simpa using h
      omega
    (repeat (first | (apply v_assign; exact rfl; exact rfl) | refine run_seq ?_ | refine run_region ?_ | refine runL_nil ?_ | refine run_skip ?_ | refine run_block ?_))
    refine v_loop (fun i : Nat => ⟨[(0, .sem (listS nodeE l)), (1, .sem (listS nodeE m)), (5, .v (.int .i64 i))], []⟩) (fun i => i ≤ l.length ∧ ∀ j, j < i → l[j]? = m[j]?) (fun i => l.length - i) 0 idN trivial (by repeat (first | exact trivial | refine ⟨rfl, ?_⟩)) (by repeat (first | exact trivial | refine ⟨rfl, ?_⟩)) rfl ⟨by omega, fun j hj => by omega⟩ fun i ⟨hi, hp⟩ ih => ?_
    (repeat (first | (apply v_move; exact rfl; exact rfl) | refine run_seq ?_ | refine run_region ?_ | refine runL_nil ?_ | (apply v_lss; exact rfl; exact rfl; exact rfl) | (apply v_lenL; exact slA rfl; exact rfl; exact rfl)))
    refine run_cond rfl (fun h => ?_) (fun h => ?_)
    · have hlt : i < l.length := by simpa using h
      have hx : l[((i : Int)).toNat]? = some l[i] := by simp [hlt]
      have hy : m[((i : Int)).toNat]? = some (m[i]'(by omega)) := by simp [show i < m.length by omega]
      have ho := one_r (x := l[i]) (y := m[i]'(by omega)) (hk _ (List.getElem_mem hlt))
      (repeat (first | refine run_seq ?_ | refine run_skip ?_ | refine run_block ?_))
      refine run_draws (by kernel_rfl) (by kernel_rfl) ?_
      (repeat (first | (apply p_idxL; exact slA rfl; exact tyA rfl; exact rfl; exact rfl; exact rfl; exact rfl; exact (by omega); (first | exact hx | exact hy); exact rfl; exact rfl) | (apply p_cx; exact rfl; exact cbA rfl; (first | exact ho); exact rfl; exact rfl; exact rfl) | (apply p_move; exact rfl; exact rfl; exact rfl) | (apply p_loadA; exact tyA rfl; exact rfl; exact rfl; exact rfl; exact rfl; exact rfl; exact rfl; exact rfl) | (apply p_not; exact rfl; exact rfl; exact rfl)))
      refine planL_nil (by kernel_rfl) ?_
      refine run_cond rfl (fun h => ?_) (fun h => ?_)
      · have he : l[i] ≠ m[i]'(by omega) := by simpa using h
        have hf : decide (l = m) = false := by
          simp
          intro e
          subst e
          exact he rfl
        rw [hf]
        (repeat (first | (apply v_assign; exact rfl; exact rfl) | refine run_seq ?_ | refine run_region ?_ | refine runL_nil ?_))
        exact run_ret idN _ Try.func42 ⟨_, _, rfl, rfl, rfl⟩ rfl trivial trivial rfl
      · have he : l[i] = m[i]'(by omega) := by simpa using h
        (repeat (first | (apply v_move; exact rfl; exact rfl) | (apply v_assign; exact rfl; exact rfl) | refine run_region ?_ | refine runL_nil ?_ | refine run_skip ?_ | refine run_inBlock ?_ | (apply v_add; exact rfl; exact rfl; exact rfl; exact (by omega))))
        exact v_again ih (i + 1) idN trivial (by repeat (first | exact trivial | refine ⟨rfl, ?_⟩)) (by repeat (first | exact trivial | refine ⟨rfl, ?_⟩)) rfl ⟨by omega, fun j hj => by
          by_cases e : j = i
          · subst e
            rw [List.getElem?_eq_getElem hlt, List.getElem?_eq_getElem (by omega), he]
          · exact hp j (by omega)⟩ (by omega)
    · have hge : i = l.length := by have : ¬ i < l.length := (by simpa using h); omega
      have hf : decide (l = m) = true := by
        rw [decide_eq_true_iff]
        apply List.ext_getElem?
        intro j
        by_cases hj : j < i
        · exact hp j hj
        · rw [List.getElem?_eq_none (by omega), List.getElem?_eq_none (by omega)]
      rw [hf]
      (repeat (first | (apply v_assign; exact rfl; exact rfl) | refine run_seq ?_ | refine run_region ?_ | refine runL_nil ?_ | (apply run_exit; exact rfl)))
      exact run_ret idN _ Try.func42 ⟨_, _, rfl, rfl, rfl⟩ rfl trivial trivial rfl
end Go.Proofs.Ytjkidecaciomgaa
