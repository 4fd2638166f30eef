/- The reference 07: without, leave, Before, Remove. -/
import Derived.Test.YtjkidecaciomgaaBQ
import Derived.Test.YtjkidecaciomgaaBE
import Derived.Test.YtjkidecaciomgaaLa5t
import Derived.Test.YtjkidecaciomgaaVa3
namespace Go.Proofs.Ytjkidecaciomgaa
set_option linter.unusedVariables false
set_option linter.unusedSimpArgs false
set_option maxRecDepth 100000
open Go.RowKit

theorem without7 {xs : List Int} (v : Int) (hm : xs.length ≤ 1000) : Fun Try.prog 186 [.sem (listS intE xs), .v (.int .i64 v)] [] (.sem (listS intE (xs.filter fun x => x != v))) [] := by
  refine fun_intro 27 Try.func186 rfl rfl rfl (fun ι F S w => ?_)
  (repeat (first | (apply v_assign; exact rfl; exact rfl) | refine run_seq ?_ | refine run_region ?_ | refine runL_nil ?_ | refine run_block ?_))
  refine run_own 5 5 3 intE rfl rfl rfl rfl ?_
  refine v_loop (fun q : Nat × List Int => ⟨[(0, .sem (listS intE xs)), (1, .v (.int .i64 v)), (5, .res 5), (6, .v (.int .i64 q.1))], [(5, .obj (ownS 3 intE q.2))]⟩) (fun q => q.1 ≤ xs.length ∧ q.2 = (xs.take q.1).filter fun x => x != v) (fun q => xs.length - q.1) (0, []) idN trivial (by repeat (first | exact trivial | refine ⟨rfl, ?_⟩)) (by repeat (first | exact trivial | refine ⟨rfl, ?_⟩)) rfl ⟨by simp, rfl⟩ fun ⟨i, W⟩ ⟨hi, hW⟩ ih => ?_
  dsimp only at hi hW ⊢
  have hWl : W.length ≤ xs.length := by rw [hW]; exact Nat.le_trans (List.length_filter_le _ _) (by rw [List.length_take]; omega)
  (repeat (first | (apply v_move; exact rfl; exact rfl) | refine run_seq ?_ | refine run_region ?_ | refine runL_nil ?_ | (apply v_lss; exact rfl; exact rfl; exact rfl) | (apply v_lenL; exact slA rfl; exact rfl; exact rfl)))
  refine run_cond rfl (fun hb => ?_) (fun hb => ?_)
  · have hlt : i < xs.length := by simpa using hb
    have hx2 : xs[((i : Int)).toNat]? = some xs[i] := by simp [hlt]
    have hst : (xs.take (i + 1)).filter (fun x => x != v) = W ++ if (xs[i] != v) = true then [xs[i]] else [] := by
      rw [List.take_add_one, List.getElem?_eq_getElem hlt, Option.toList_some, List.filter_append, ← hW, List.filter_cons]
      rfl
    generalize xs[i] = x at *
    (repeat (first | (apply v_idxL; exact slA rfl; exact tyA rfl; exact rfl; exact rfl; exact rfl; exact rfl; exact (by omega); (first | exact hx2); exact rfl) | (apply v_move; exact rfl; exact rfl) | refine run_seq ?_ | refine run_region ?_ | refine runL_nil ?_ | refine run_skip ?_ | refine run_block ?_ | (apply v_loadA; exact tyA rfl; exact rfl; exact rfl; exact rfl; exact rfl; exact rfl; exact rfl) | (apply v_neq; exact rfl; exact rfl; exact rfl)))
    refine run_cond rfl (fun h2 => ?_) (fun h2 => ?_)
    · rw [if_pos h2] at hst
      (repeat (first | (apply v_idxL; exact slA rfl; exact tyA rfl; exact rfl; exact rfl; exact rfl; exact rfl; exact (by omega); (first | exact hx2); exact rfl) | (apply v_move; exact rfl; exact rfl) | refine run_region ?_ | (apply v_loadA; exact tyA rfl; exact rfl; exact rfl; exact rfl; exact rfl; exact rfl; exact rfl)))
      refine v_l intE [x] (slA rfl) (tyA rfl) rfl rfl rfl rfl rfl rfl rfl rfl rfl rfl ?_
      refine v_appendD (slA rfl) (tyA rfl) rfl rfl rfl rfl rfl rfl rfl (by simp only [List.length_singleton]; omega) rfl rfl rfl rfl ?_
      (repeat (first | (apply v_move; exact rfl; exact rfl) | (apply v_assign; exact rfl; exact rfl) | refine run_region ?_ | refine runL_nil ?_ | refine run_inBlock ?_ | (apply v_add; exact rfl; exact rfl; exact rfl; exact (by omega))))
      exact v_again ih (i + 1, W ++ [x]) (mp [(5, 25)]) trivial (by repeat (first | exact trivial | refine ⟨rfl, ?_⟩)) (by repeat (first | exact trivial | refine ⟨rfl, ?_⟩)) rfl ⟨by dsimp only; omega, hst.symm⟩ (by dsimp only; omega)
    · rw [if_neg (by rw [h2]; simp), List.append_nil] at hst
      (repeat (first | (apply v_move; exact rfl; exact rfl) | (apply v_assign; exact rfl; exact rfl) | refine run_region ?_ | refine runL_nil ?_ | refine run_skip ?_ | refine run_inBlock ?_ | (apply v_add; exact rfl; exact rfl; exact rfl; exact (by omega))))
      exact v_again ih (i + 1, W) idN trivial (by repeat (first | exact trivial | refine ⟨rfl, ?_⟩)) (by repeat (first | exact trivial | refine ⟨rfl, ?_⟩)) rfl ⟨by dsimp only; omega, hst.symm⟩ (by dsimp only; omega)
  · have hge : i = xs.length := by have : ¬ i < xs.length := (by simpa using hb); omega
    rw [hge, List.take_length] at hW
    clear ih
    subst hW
    (repeat (first | (apply v_move; exact rfl; exact rfl) | (apply v_assign; exact rfl; exact rfl) | refine run_seq ?_ | refine run_region ?_ | refine runL_nil ?_ | (apply run_exit; exact rfl)))
    refine run_freeze 4 5 rfl rfl ?_
    exact run_ret idN _ Try.func186 ⟨_, _, rfl, rfl, rfl⟩ rfl trivial trivial rfl
theorem setN_len (l : List Nd) (k : Int) (x : Nd) : (setN l k x).length = l.length := by rw [setN, List.length_set]
/-- Leaving, as it is written. -/
theorem leave_set0 {l : List Nd} (h : WF l) {a : Int} {n : Nd} (ha : nodeAt l a = some n) (h0 : n.parent = 0) : setN l a { n with parent := 0 } = leaveM l a := by
  refine nodes_ext fun x => ?_
  rw [leave_ok h, nodeAt_setN ha]
  by_cases e : x = a
  · subst e
    rw [if_pos rfl, ha, Option.map_some, leaveN, if_pos rfl]
    have : n.kids.erase x = n.kids := List.erase_of_not_mem fun hm => by
      obtain ⟨y, hy, e⟩ := h.kid ha hm
      rw [ha] at hy
      cases hy
      have := nodeAt_some ha
      omega
    rw [this]
  · rw [if_neg e]
    cases hx : nodeAt l x with
    | none => rfl
    | some z =>
      rw [Option.map_some, leaveN, if_neg e, List.erase_of_not_mem fun hm => ?_]
      have := (kid_of h hx ha).1 hm
      have := nodeAt_some hx
      omega
theorem leave_set {l : List Nd} (h : WF l) {a : Int} {n p : Nd} (ha : nodeAt l a = some n) (hp : nodeAt l n.parent = some p) : a ≠ n.parent ∧ setN (setN l n.parent { p with kids := p.kids.filter fun x => x != a }) a { n with parent := 0 } = leaveM l a := by
  have hp0 := nodeAt_some hp
  have hne : a ≠ n.parent := fun e => by
    have h1 := up_step h ha
    rw [show upX n = n.parent by rw [upX, if_neg (by omega)], ← e] at h1
    exact absurd (congrArg List.length h1) (by simp)
  refine ⟨hne, nodes_ext fun x => ?_⟩
  have ha2 : nodeAt (setN l n.parent { p with kids := p.kids.filter fun x => x != a }) a = some n := by rw [nodeAt_setN hp, if_neg hne, ha]
  rw [leave_ok h, nodeAt_setN ha2]
  by_cases e : x = a
  · subst e
    rw [if_pos rfl, ha, Option.map_some, leaveN, if_pos rfl]
    have : n.kids.erase x = n.kids := List.erase_of_not_mem fun hm => by
      obtain ⟨y, hy, e⟩ := h.kid ha hm
      rw [ha] at hy
      cases hy
      exact hne e.symm
    rw [this]
  · rw [if_neg e, nodeAt_setN hp]
    by_cases e2 : x = n.parent
    · subst e2
      rw [if_pos rfl, hp, Option.map_some, leaveN, if_neg e, (h.nod hp).erase_eq_filter]
    · rw [if_neg e2]
      cases hx : nodeAt l x with
      | none => rfl
      | some z =>
        rw [Option.map_some, leaveN, if_neg e, List.erase_of_not_mem fun hm => ?_]
        exact e2 ((kid_of h hx ha).1 hm).symm
theorem leave7 {l : List Nd} (h : WF l) {a : Int} {n : Nd} (ha : nodeAt l a = some n) : Fun Try.prog 167 [.res 0, .v (.int .i64 a)] [(0, .obj (ownS 33 nodeE l))] (.tup []) [(0, .obj (ownS 33 nodeE (leaveM l a)))] := by
  have ha0 := nodeAt_some ha
  have hja := ha0.2.2
  have hl := h.len
  by_cases h0 : n.parent = 0
  · have e1 := leave_set0 h ha h0
    rw [setN] at e1
    rw [← e1]
    refine fun_intro 31 Try.func167 rfl rfl rfl (fun ι F S w => ?_)
    (repeat (first | (apply v_idxO; exact slA rfl; exact tyA rfl; exact rfl; exact rfl; exact rfl; exact rfl; exact (by omega); exact (by omega); exact rfl) | (apply v_loadO; exact tyA rfl; exact rfl; exact rfl; exact rfl; exact rfl; (first | exact hja); exact (by decide); exact rfl; exact rfl) | (apply v_move; exact rfl; exact rfl) | (apply v_assign; exact rfl; exact rfl) | refine run_seq ?_ | refine run_region ?_ | refine runL_nil ?_ | (apply v_fldP; exact flA rfl; exact rfl; exact rfl; exact rfl) | (apply v_neq; exact rfl; exact rfl; exact rfl) | (apply v_sub; exact rfl; exact rfl; exact rfl; exact (by omega))))
    refine run_condN rfl (by simpa using h0) ?_
    (repeat (first | (apply v_idxO; exact slA rfl; exact tyA rfl; exact rfl; exact rfl; exact rfl; exact rfl; exact (by omega); exact (by omega); exact rfl) | (apply v_move; exact rfl; exact rfl) | refine run_region ?_ | refine run_skip ?_ | (apply v_fldP; exact flA rfl; exact rfl; exact rfl; exact rfl) | (apply v_sub; exact rfl; exact rfl; exact rfl; exact (by omega))))
    refine v_storeO { n with parent := 0 } (tyA rfl) rfl rfl rfl rfl hja rfl rfl (by decide) rfl rfl ?_
    (repeat (first | refine runL_nil ?_))
    exact run_end idN _ Try.func167 rfl rfl ⟨rfl, trivial⟩ ⟨rfl, trivial⟩ rfl
  · obtain ⟨p, hp, _⟩ := (h.par ha).resolve_left h0
    obtain ⟨hne, e1⟩ := leave_set h ha hp
    have hp0 := nodeAt_some hp
    have hjp := hp0.2.2
    have hk := kids_128 h n.parent
    rw [nodeR_some hp] at hk
    have hwo := without7 (xs := p.kids) a (by omega)
    have hja2 : (l.set (n.parent - 1).toNat { p with kids := p.kids.filter fun x => x != a })[(a - 1).toNat]? = some n := by
      rw [List.getElem?_set, if_neg (by omega)]
      exact hja
    rw [setN, setN] at e1
    rw [← e1]
    refine fun_intro 31 Try.func167 rfl rfl rfl (fun ι F S w => ?_)
    (repeat (first | (apply v_idxO; exact slA rfl; exact tyA rfl; exact rfl; exact rfl; exact rfl; exact rfl; exact (by omega); exact (by omega); exact rfl) | (apply v_loadO; exact tyA rfl; exact rfl; exact rfl; exact rfl; exact rfl; (first | exact hja); exact (by decide); exact rfl; exact rfl) | (apply v_move; exact rfl; exact rfl) | (apply v_assign; exact rfl; exact rfl) | refine run_seq ?_ | refine run_region ?_ | refine runL_nil ?_ | (apply v_fldP; exact flA rfl; exact rfl; exact rfl; exact rfl) | (apply v_neq; exact rfl; exact rfl; exact rfl) | (apply v_sub; exact rfl; exact rfl; exact rfl; exact (by omega))))
    refine run_condY rfl (by simpa using h0) ?_
    (repeat (first | (apply v_idxO; exact slA rfl; exact tyA rfl; exact rfl; exact rfl; exact rfl; exact rfl; exact (by omega); exact (by omega); exact rfl) | (apply v_loadO; exact tyA rfl; exact rfl; exact rfl; exact rfl; exact rfl; (first | exact hjp); exact (by decide); exact rfl; exact rfl) | (apply v_cx; exact rfl; exact cbA rfl; (first | exact hwo); exact rfl; exact rfl) | (apply v_move; exact rfl; exact rfl) | refine run_region ?_ | (apply v_fldP; exact flA rfl; exact rfl; exact rfl; exact rfl) | (apply v_sub; exact rfl; exact rfl; exact rfl; exact (by omega))))
    refine v_storeO { p with kids := p.kids.filter fun x => x != a } (tyA rfl) rfl rfl rfl rfl hjp rfl rfl (by decide) rfl rfl ?_
    have hl2 : (l.set (n.parent - 1).toNat { p with kids := p.kids.filter fun x => x != a }).length = l.length := List.length_set
    generalize l.set (n.parent - 1).toNat { p with kids := p.kids.filter fun x => x != a } = l2 at *
    (repeat (first | (apply v_idxO; exact slA rfl; exact tyA rfl; exact rfl; exact rfl; exact rfl; exact rfl; exact (by omega); exact (by omega); exact rfl) | (apply v_move; exact rfl; exact rfl) | refine run_region ?_ | refine runL_nil ?_ | (apply v_fldP; exact flA rfl; exact rfl; exact rfl; exact rfl) | (apply v_sub; exact rfl; exact rfl; exact rfl; exact (by omega))))
    refine v_storeO { n with parent := 0 } (tyA rfl) rfl rfl rfl rfl hja2 rfl rfl (by decide) rfl rfl ?_
    (repeat (first | refine runL_nil ?_))
    exact run_end idN _ Try.func167 rfl rfl ⟨rfl, trivial⟩ ⟨rfl, trivial⟩ rfl
theorem remove7 {l : List Nd} (h : WF l) (a b : Int) : Fun Try.prog 119 [.sem (listS nodeE l), .v (.int .i64 a), .v (.int .i64 b)] [] (.tup [.sem (listS nodeE (removeM l a b).1), .v (.int .i64 (removeM l a b).2)]) [] := by
  cases ha : nodeAt l a with
  | none =>
    have e1 : removeM l a b = (l, 1) := by rw [removeM, ha]
    rw [e1]
    refine fun_intro 35 Try.func119 rfl rfl rfl (fun ι F S w => ?_)
    (repeat (first | (apply v_cx; exact rfl; exact cbA rfl; (first | exact there_n ha); exact rfl; exact rfl) | (apply v_move; exact rfl; exact rfl) | (apply v_assign; exact rfl; exact rfl) | refine run_seq ?_ | refine run_region ?_ | refine runL_nil ?_ | (apply v_off; exact rfl; exact rfl) | (apply v_pick_t; exact rfl; exact rfl; exact rfl) | (apply run_cond; exact rfl; rotate_left; (focus (intro hb; cases hb; done)); intro hb; clear hb) | (apply v_not; exact rfl; exact rfl)))
    exact run_ret idN _ Try.func119 ⟨_, _, rfl, rfl, _, _, rfl, rfl, rfl⟩ rfl trivial trivial rfl
  | some n =>
    cases hb : nodeAt l b with
    | none =>
      have e1 : removeM l a b = (l, 1) := by rw [removeM, ha, hb]
      rw [e1]
      refine fun_intro 35 Try.func119 rfl rfl rfl (fun ι F S w => ?_)
      (repeat (first | (apply v_cx; exact rfl; exact cbA rfl; (first | exact there_s ha | exact there_n hb); exact rfl; exact rfl) | (apply v_move; exact rfl; exact rfl) | (apply v_assign; exact rfl; exact rfl) | refine run_seq ?_ | refine run_region ?_ | refine runL_nil ?_ | (apply v_on; exact rfl) | (apply v_pick_f; exact rfl; exact rfl; exact rfl) | (apply run_cond; exact rfl; rotate_left; (focus (intro hb; cases hb; done)); intro hb; clear hb) | (apply v_not; exact rfl; exact rfl)))
      exact run_ret idN _ Try.func119 ⟨_, _, rfl, rfl, _, _, rfl, rfl, rfl⟩ rfl trivial trivial rfl
    | some q =>
      have e1 : removeM l a b = if n.parent ≠ b then (l, 4) else (leaveM l a, 0) := by rw [removeM, ha, hb]
      have hlv := leave7 h ha
      have ha0 := nodeAt_some ha
      have hja := ha0.2.2
      have hcp := copy_w h
      have hl := h.len
      rw [e1]
      generalize leaveM l a = ll at *
      by_cases hp : n.parent ≠ b
      · rw [if_pos hp]
        refine fun_intro 35 Try.func119 rfl rfl rfl (fun ι F S w => ?_)
        (repeat (first | (apply v_cx; exact rfl; exact cbA rfl; (first | exact there_s ha | exact there_s hb); exact rfl; exact rfl) | (apply v_idxL; exact slA rfl; exact tyA rfl; exact rfl; exact rfl; exact rfl; exact rfl; exact (by omega); (first | exact hja); exact rfl) | (apply v_move; exact rfl; exact rfl) | (apply v_assign; exact rfl; exact rfl) | refine run_seq ?_ | refine run_region ?_ | refine runL_nil ?_ | refine run_skip ?_ | (apply v_fldA; exact flA rfl; exact rfl; exact rfl; exact rfl) | (apply v_loadA; exact tyA rfl; exact rfl; exact rfl; exact rfl; exact rfl; exact rfl; exact rfl) | (apply v_on; exact rfl) | (apply v_pick_f; exact rfl; exact rfl; exact rfl) | (apply run_cond; exact rfl; (focus (intro hb; cases hb; done)); intro hb; clear hb) | (apply v_not; exact rfl; exact rfl) | (apply v_neq; exact rfl; exact rfl; exact rfl) | (apply v_sub; exact rfl; exact rfl; exact rfl; exact (by omega))))
        refine run_condY rfl (by simpa using hp) ?_
        (repeat (first | (apply v_move; exact rfl; exact rfl) | (apply v_assign; exact rfl; exact rfl) | refine run_seq ?_ | refine run_region ?_ | refine runL_nil ?_))
        exact run_ret idN _ Try.func119 ⟨_, _, rfl, rfl, _, _, rfl, rfl, rfl⟩ rfl trivial trivial rfl
      · rw [if_neg hp]
        refine fun_intro 35 Try.func119 rfl rfl rfl (fun ι F S w => ?_)
        (repeat (first | (apply v_cx; exact rfl; exact cbA rfl; (first | exact there_s ha | exact there_s hb); exact rfl; exact rfl) | (apply v_idxL; exact slA rfl; exact tyA rfl; exact rfl; exact rfl; exact rfl; exact rfl; exact (by omega); (first | exact hja); exact rfl) | (apply v_move; exact rfl; exact rfl) | (apply v_assign; exact rfl; exact rfl) | refine run_seq ?_ | refine run_region ?_ | refine runL_nil ?_ | refine run_skip ?_ | (apply v_fldA; exact flA rfl; exact rfl; exact rfl; exact rfl) | (apply v_loadA; exact tyA rfl; exact rfl; exact rfl; exact rfl; exact rfl; exact rfl; exact rfl) | (apply v_on; exact rfl) | (apply v_pick_f; exact rfl; exact rfl; exact rfl) | (apply run_cond; exact rfl; (focus (intro hb; cases hb; done)); intro hb; clear hb) | (apply v_not; exact rfl; exact rfl) | (apply v_neq; exact rfl; exact rfl; exact rfl) | (apply v_sub; exact rfl; exact rfl; exact rfl; exact (by omega))))
        refine run_condN rfl (by simpa using hp) ?_
        (repeat (first | (apply v_cOx; exact rfl; exact cbA rfl; (first | exact hcp); exact rfl; exact rfl; exact rfl; exact rfl; exact rfl) | (apply v_move; exact rfl; exact rfl) | (apply v_assign; exact rfl; exact rfl) | refine run_seq ?_ | refine run_region ?_ | refine runL_nil ?_ | refine run_skip ?_))
        refine v_cR (mp [(0, 30)]) hlv rfl (cbA rfl) ⟨rfl, trivial⟩ (by kernel_rfl) (by kernel_rfl) (by kernel_rfl) (by kernel_rfl) (by kernel_rfl) (by kernel_rfl) (by kernel_rfl) (by kernel_rfl) rfl ?_
        (repeat (first | (apply v_move; exact rfl; exact rfl) | (apply v_assign; exact rfl; exact rfl) | refine run_seq ?_ | refine run_region ?_ | refine runL_nil ?_))
        refine run_freeze 6 30 rfl rfl ?_
        exact run_ret idN _ Try.func119 ⟨_, _, rfl, rfl, _, _, rfl, rfl, rfl⟩ rfl trivial trivial rfl
end Go.Proofs.Ytjkidecaciomgaa
