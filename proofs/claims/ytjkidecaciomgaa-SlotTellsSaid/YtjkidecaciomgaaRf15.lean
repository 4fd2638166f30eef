/- The reference 09: Flat. -/
import Derived.Test.YtjkidecaciomgaaRf14
namespace Go.Proofs.Ytjkidecaciomgaa
set_option linter.unusedVariables false
set_option linter.unusedSimpArgs false
set_option maxRecDepth 100000
open Go.RowKit

section
variable {l : List Nd} (h : WF l)
include h
theorem vis_more : ∀ (n : Nat) (c : Int), deepM l c < n → visN l (n + 1) c = visN l n c
  | 0, c, hd => by omega
  | n + 1, c, hd => by
    have e : ∀ m, visN l (m + 1) c = c :: if shownB l c then (onceM l c).flatMap (visN l m) else [] := fun _ => rfl
    rw [e, e]
    congr 1
    split
    · rw [List.flatMap_def, List.flatMap_def]
      congr 1
      apply List.map_congr_left
      intro k hk
      exact vis_more n k (by have := deep_once h hk; omega)
    · rfl
theorem exp_more : ∀ (n : Nat) (c : Int), deepM l c < n → expN l (n + 1) c = expN l n c
  | 0, c, hd => by omega
  | n + 1, c, hd => by
    have e : ∀ m, expN l (m + 1) c = if shownB l c then (onceM l c).flatMap (expN l m) else [c] := fun _ => rfl
    rw [e, e]
    split
    · rw [List.flatMap_def, List.flatMap_def]
      congr 1
      apply List.map_congr_left
      intro k hk
      exact exp_more n k (by have := deep_once h hk; omega)
    · rfl
theorem vis_step {c : Int} {n : Nat} (hd : deepM l c ≤ n) (hs : shownB l c = true) : visN l (n + 1) c = c :: (onceM l c).flatMap (visN l (n + 1)) := by
  have e : visN l (n + 1) c = c :: if shownB l c then (onceM l c).flatMap (visN l n) else [] := rfl
  rw [e, if_pos hs, List.flatMap_def, List.flatMap_def]
  congr 2
  apply List.map_congr_left
  intro k hk
  have h1 := deep_once h hk
  exact (vis_more h n k (by omega)).symm
theorem exp_step {c : Int} {n : Nat} (hd : deepM l c ≤ n) (hs : shownB l c = true) : expN l (n + 1) c = (onceM l c).flatMap (expN l (n + 1)) := by
  have e : expN l (n + 1) c = if shownB l c then (onceM l c).flatMap (expN l n) else [c] := rfl
  rw [e, if_pos hs, List.flatMap_def, List.flatMap_def]
  congr 1
  apply List.map_congr_left
  intro k hk
  have h1 := deep_once h hk
  exact (exp_more h n k (by omega)).symm
end
theorem vis_pos (l : List Nd) : ∀ (n : Nat) (c : Int), 1 ≤ (visN l n c).length
  | 0, c => by simp [visN]
  | n + 1, c => by rw [visN, List.length_cons]; omega
theorem flat_pos {f : Int → List Int} (hf : ∀ c, 1 ≤ (f c).length) : ∀ (xs : List Int), xs.length ≤ (xs.flatMap f).length
  | [] => Nat.le_refl _
  | x :: xs => by
    have h1 := hf x
    have h2 := flat_pos hf xs
    simp only [List.flatMap_cons, List.length_append, List.length_cons]
    omega
theorem flat_same {f : Int → List Int} : ∀ (xs : List Int), (∀ c ∈ xs, f c = [c]) → xs.flatMap f = xs
  | [], _ => rfl
  | x :: xs, h => by
    rw [List.flatMap_cons, h x (by simp), flat_same xs fun c hc => h c (by simp [hc])]
    rfl
/-- A slot is put in the place of. -/
theorem put_place {l : List Nd} (h : WF l) {N : Nat} (hN : ∀ c, deepM l c ≤ N) {xs : List Int} {j : Nat} {c : Int} (hj : xs[j]? = some c) (hs : shownB l c = true) : (xs.take j ++ onceM l c ++ xs.drop (j + 1)).flatMap (expN l (N + 1)) = xs.flatMap (expN l (N + 1)) ∧ ((xs.take j ++ onceM l c ++ xs.drop (j + 1)).flatMap (visN l (N + 1))).length + 1 = (xs.flatMap (visN l (N + 1))).length := by
  obtain ⟨hlt, e⟩ := List.getElem?_eq_some_iff.1 hj
  have hx : xs = xs.take j ++ c :: xs.drop (j + 1) := by rw [← e, ← List.drop_eq_getElem_cons hlt, List.take_append_drop]
  constructor
  · conv => rhs; rw [hx]
    rw [List.flatMap_append, List.flatMap_append, List.flatMap_append, List.flatMap_cons, exp_step h (hN _) hs, List.append_assoc]
  · conv => rhs; rw [hx]
    rw [List.flatMap_append, List.flatMap_append, List.flatMap_append, List.flatMap_cons, vis_step h (hN _) hs]
    simp only [List.length_append, List.length_cons]
    omega
theorem flat9 {l : List Nd} (h : WF l) (id : Int) : Fun Try.prog 111 [.sem (listS nodeE l), .v (.int .i64 id)] [] (.sem (listS intE (flatM l id))) [] := by
  have hlen := h.len
  have hsh := shown9 h id
  obtain ⟨N, eN⟩ : ∃ N, 30000 = N + 1 := ⟨29999, rfl⟩
  have hN : ∀ c, deepM l c ≤ N := fun c => by have := deep_max h c; omega
  by_cases hs : shownB l id = true
  · rw [hs] at hsh
    obtain ⟨x, hx⟩ := shown_there hs
    have hon := (once9 h hx).freeze
    have hfl : flatM l id = (onceM l id).flatMap (expN l (N + 1)) := by rw [flatM, if_pos hs, eN, exp_step h (hN _) hs]
    have hvl := vis_len h (N + 1) ⟨x, hx⟩
    rw [vis_step h (hN _) hs, List.length_cons] at hvl
    have hth : ∀ c ∈ onceM l id, ∃ y, nodeAt l c = some y := fun c hc => once_there h hc
    generalize flatM l id = out at *
    generalize onceM l id = u0 at *
    have hs9 := fun c => shown9 h c
    refine fun_intro 61 Try.func111 rfl rfl rfl (fun ι F S w => ?_)
    (repeat (first | (apply v_cx; exact rfl; exact cbA rfl; (first | exact hsh | exact hon); exact rfl; exact rfl) | (apply v_move; exact rfl; exact rfl) | (apply v_assign; exact rfl; exact rfl) | refine run_seq ?_ | refine run_region ?_ | refine runL_nil ?_ | refine run_skip ?_ | refine run_block ?_ | (apply run_cond; exact rfl; (focus (intro hb; cases hb; done)); intro hb; clear hb) | (apply v_not; exact rfl; exact rfl)))
    refine v_loop (fun q : Nat × List Int => ⟨[(0, .sem (listS nodeE l)), (5, .sem (listS intE q.2)), (6, .v (.int .i64 q.1))], []⟩) (fun q => q.1 + (q.2.flatMap (visN l (N + 1))).length ≤ 127 ∧ q.2.flatMap (expN l (N + 1)) = out ∧ ∀ c ∈ q.2, ∃ y, nodeAt l c = some y) (fun q => 128 - q.1) (0, u0) idN trivial (by repeat (first | exact trivial | refine ⟨rfl, ?_⟩)) (by repeat (first | exact trivial | refine ⟨rfl, ?_⟩)) rfl ⟨by simp only; omega, hfl.symm, hth⟩ fun ⟨t, u⟩ ⟨ht, hu, hin⟩ ih => ?_
    dsimp only at ht hu hin ⊢
    have hul := flat_pos (vis_pos l (N + 1)) u
    (repeat (first | (apply v_move; exact rfl; exact rfl) | refine run_seq ?_ | refine run_region ?_ | refine runL_nil ?_ | (apply v_lss; exact rfl; exact rfl; exact rfl)))
    refine run_condY rfl (by rw [decide_eq_true_iff]; omega) ?_
    (repeat (first | (apply v_assign; exact rfl; exact rfl) | refine run_seq ?_ | refine run_region ?_ | refine runL_nil ?_ | refine run_skip ?_ | refine run_block ?_))
    refine v_loop (fun q : Nat × Int => ⟨[(0, .sem (listS nodeE l)), (5, .sem (listS intE u)), (6, .v (.int .i64 t)), (7, .v (.int .i64 q.2)), (8, .v (.int .i64 q.1))], []⟩) (fun q => q.1 ≤ u.length ∧ (q.2 = -1 ∧ (∀ c ∈ u.take q.1, shownB l c = false) ∨ ∃ (j : Nat) (c : Int), q.2 = j ∧ u[j]? = some c ∧ shownB l c = true)) (fun q => u.length - q.1) (0, -1) idN trivial (by repeat (first | exact trivial | refine ⟨rfl, ?_⟩)) (by repeat (first | exact trivial | refine ⟨rfl, ?_⟩)) rfl ⟨by simp, .inl ⟨rfl, fun c hc => by simp at hc⟩⟩ fun ⟨i, a⟩ ⟨hi, ha⟩ ih2 => ?_
    dsimp only at hi ha ⊢
    (repeat (first | (apply v_move; exact rfl; exact rfl) | refine run_seq ?_ | refine run_region ?_ | (apply v_lss; exact rfl; exact rfl; exact rfl) | (apply v_lenL; exact slA rfl; exact rfl; exact rfl)))
    by_cases hlt : i < u.length
    · refine v_is 25 true rfl (by rw [decide_eq_true_iff]; omega) ?_
      (repeat (first | (apply v_move; exact rfl; exact rfl) | refine runL_nil ?_ | (apply v_on; exact rfl) | (apply v_pick_t; exact rfl; exact rfl; exact rfl) | (apply v_lss; exact rfl; exact rfl; exact rfl)))
      rcases ha with ⟨rfl, hno⟩ | ⟨j, c, rfl, hj, hjs⟩
      · refine run_condY rfl rfl ?_
        have hxu : u[((i : Int)).toNat]? = some u[i] := by simp [hlt]
        have hui : u[i]? = some u[i] := List.getElem?_eq_getElem hlt
        have hsc := hs9 u[i]
        have hst : u.take (i + 1) = u.take i ++ [u[i]] := by rw [List.take_add_one, List.getElem?_eq_getElem hlt]; rfl
        generalize u[i] = c at *
        (repeat (first | (apply v_idxL; exact slA rfl; exact tyA rfl; exact rfl; exact rfl; exact rfl; exact rfl; exact (by omega); (first | exact hxu); exact rfl) | (apply v_cx; exact rfl; exact cbA rfl; (first | exact hsc); exact rfl; exact rfl) | (apply v_move; exact rfl; exact rfl) | refine run_seq ?_ | refine run_region ?_ | refine runL_nil ?_ | refine run_skip ?_ | refine run_block ?_ | (apply v_loadA; exact tyA rfl; exact rfl; exact rfl; exact rfl; exact rfl; exact rfl; exact rfl)))
        refine run_cond rfl (fun hb => ?_) (fun hb => ?_)
        · (repeat (first | (apply v_move; exact rfl; exact rfl) | (apply v_assign; exact rfl; exact rfl) | refine run_region ?_ | refine runL_nil ?_ | refine run_inBlock ?_ | (apply v_add; exact rfl; exact rfl; exact rfl; exact (by omega))))
          exact v_again ih2 (i + 1, (i : Int)) idN trivial (by repeat (first | exact trivial | refine ⟨rfl, ?_⟩)) (by repeat (first | exact trivial | refine ⟨rfl, ?_⟩)) rfl ⟨by simp only; omega, .inr ⟨i, c, rfl, hui, hb⟩⟩ (by simp only; omega)
        · (repeat (first | (apply v_move; exact rfl; exact rfl) | (apply v_assign; exact rfl; exact rfl) | refine run_region ?_ | refine runL_nil ?_ | refine run_skip ?_ | refine run_inBlock ?_ | (apply v_add; exact rfl; exact rfl; exact rfl; exact (by omega))))
          exact v_again ih2 (i + 1, -1) idN trivial (by repeat (first | exact trivial | refine ⟨rfl, ?_⟩)) (by repeat (first | exact trivial | refine ⟨rfl, ?_⟩)) rfl ⟨by simp only; omega, .inl ⟨rfl, fun c' hc' => by
            dsimp only at hc'
            rw [hst] at hc'
            rcases List.mem_append.1 hc' with hc' | hc'
            · exact hno c' hc'
            · rw [List.mem_singleton] at hc'; rw [hc']; exact hb⟩⟩ (by simp only; omega)
      · refine run_condN rfl (by rw [decide_eq_false_iff_not]; omega) ?_
        clear ih2
        obtain ⟨hjl, _⟩ := List.getElem?_eq_some_iff.1 hj
        obtain ⟨y, hy⟩ := hin c (List.mem_of_getElem? hj)
        have hjx : u[((j : Int)).toNat]? = some c := by rw [show ((j : Int)).toNat = j by omega]; exact hj
        have hon2 := (once9 h hy).freeze
        have hol := once_len h c
        obtain ⟨hp1, hp2⟩ := put_place h hN hj hjs
        have hon3 : ∀ e ∈ onceM l c, ∃ y, nodeAt l e = some y := fun e he => once_there h he
        generalize onceM l c = o at *
        (repeat (first | (apply v_move; exact rfl; exact rfl) | refine run_seq ?_ | refine run_region ?_ | refine runL_nil ?_ | refine run_skip ?_ | (apply run_exit; exact rfl) | (apply run_cond; exact rfl; (focus (intro hb; cases hb; done)); intro hb; clear hb) | (apply v_lss; exact rfl; exact rfl; exact rfl)))
        refine v_lO intE [] (slA rfl) (tyA rfl) rfl rfl rfl rfl rfl rfl rfl rfl rfl rfl rfl rfl rfl rfl ?_
        (repeat (first | (apply v_move; exact rfl; exact rfl) | (apply v_sliceH; exact slA rfl; exact tyA rfl; exact rfl; exact rfl; exact rfl; exact (by omega); exact (by omega); exact rfl)))
        refine v_appendD (slA rfl) (tyA rfl) rfl rfl rfl rfl rfl rfl rfl (by simp only [List.length_append, List.length_take, List.length_drop, List.length_nil]; omega) rfl rfl rfl rfl ?_
        (repeat (first | (apply v_idxL; exact slA rfl; exact tyA rfl; exact rfl; exact rfl; exact rfl; exact rfl; exact (by omega); (first | exact hjx); exact rfl) | (apply v_cx; exact rfl; exact cbA rfl; (first | exact hon2); exact rfl; exact rfl) | (apply v_move; exact rfl; exact rfl) | (apply v_assign; exact rfl; exact rfl) | refine run_seq ?_ | refine run_region ?_ | refine runL_nil ?_ | (apply v_loadA; exact tyA rfl; exact rfl; exact rfl; exact rfl; exact rfl; exact rfl; exact rfl)))
        refine v_appendD (slA rfl) (tyA rfl) rfl rfl rfl rfl rfl rfl rfl (by simp only [List.length_append, List.length_take, List.length_drop, List.length_nil]; omega) rfl rfl rfl rfl ?_
        (repeat (first | (apply v_move; exact rfl; exact rfl) | (apply v_assign; exact rfl; exact rfl) | refine run_region ?_ | refine runL_nil ?_ | (apply v_sliceL; exact slA rfl; exact tyA rfl; exact rfl; exact rfl; exact rfl; exact (by omega); exact (by omega); exact rfl) | (apply v_add; exact rfl; exact rfl; exact rfl; exact (by omega))))
        refine v_appendD (slA rfl) (tyA rfl) rfl rfl rfl rfl rfl rfl rfl (by simp only [List.length_append, List.length_take, List.length_drop, List.length_nil]; omega) rfl rfl rfl rfl ?_
        (repeat (first | (apply v_move; exact rfl; exact rfl) | (apply v_assign; exact rfl; exact rfl) | refine run_region ?_ | refine runL_nil ?_ | refine run_inBlock ?_ | (apply v_add; exact rfl; exact rfl; exact rfl; exact (by omega))))
        refine run_freeze 5 59 rfl rfl ?_
        have hls : [] ++ u.take ((j : Int)).toNat ++ o ++ u.drop ((j : Int) + 1).toNat = u.take j ++ o ++ u.drop (j + 1) := by rw [show ((j : Int)).toNat = j by omega, show ((j : Int) + 1).toNat = j + 1 by omega]; rfl
        exact v_again ih (t + 1, [] ++ u.take ((j : Int)).toNat ++ o ++ u.drop ((j : Int) + 1).toNat) idN trivial (by repeat (first | exact trivial | refine ⟨rfl, ?_⟩)) (by repeat (first | exact trivial | refine ⟨rfl, ?_⟩)) rfl ⟨by dsimp only; rw [hls]; omega, by dsimp only; rw [hls, hp1]; exact hu, fun e he => by
          dsimp only at he
          rw [hls] at he
          rcases List.mem_append.1 he with he | he
          · rcases List.mem_append.1 he with he | he
            · exact hin e (List.mem_of_mem_take he)
            · exact hon3 e he
          · exact hin e (List.mem_of_mem_drop he)⟩ (by dsimp only; omega)
    · refine v_is 25 false rfl (by rw [decide_eq_false_iff_not]; omega) ?_
      clear ih2
      rcases ha with ⟨rfl, hno⟩ | ⟨j, c, rfl, hj, hjs⟩
      · have hno2 : u.flatMap (expN l (N + 1)) = u := flat_same u fun c hc => exp_not (hno c (by rw [show i = u.length by omega, List.take_length]; exact hc)) _
        rw [hno2] at hu
        subst hu
        (repeat (first | (apply v_move; exact rfl; exact rfl) | (apply v_assign; exact rfl; exact rfl) | refine run_seq ?_ | refine run_region ?_ | refine runL_nil ?_ | (apply run_exit; exact rfl) | (apply v_off; exact rfl; exact rfl) | (apply v_pick_f; exact rfl; exact rfl; exact rfl) | (apply run_cond; exact rfl; rotate_left; (focus (intro hb; cases hb; done)); intro hb; clear hb) | (apply run_cond; exact rfl; (focus (intro hb; cases hb; done)); intro hb; clear hb) | (apply v_lss; exact rfl; exact rfl; exact rfl)))
        exact run_ret idN _ Try.func111 ⟨_, _, rfl, rfl, rfl⟩ rfl trivial trivial rfl
      · (repeat (first | (apply v_move; exact rfl; exact rfl) | refine run_seq ?_ | refine run_region ?_ | refine runL_nil ?_ | refine run_skip ?_ | (apply run_exit; exact rfl) | (apply v_off; exact rfl; exact rfl) | (apply v_pick_f; exact rfl; exact rfl; exact rfl) | (apply run_cond; exact rfl; (focus (intro hb; cases hb; done)); intro hb; clear hb) | (apply v_lss; exact rfl; exact rfl; exact rfl)))
        obtain ⟨hjl, _⟩ := List.getElem?_eq_some_iff.1 hj
        obtain ⟨y, hy⟩ := hin c (List.mem_of_getElem? hj)
        have hjx : u[((j : Int)).toNat]? = some c := by rw [show ((j : Int)).toNat = j by omega]; exact hj
        have hon2 := (once9 h hy).freeze
        have hol := once_len h c
        obtain ⟨hp1, hp2⟩ := put_place h hN hj hjs
        have hon3 : ∀ e ∈ onceM l c, ∃ y, nodeAt l e = some y := fun e he => once_there h he
        generalize onceM l c = o at *
        skip
        refine v_lO intE [] (slA rfl) (tyA rfl) rfl rfl rfl rfl rfl rfl rfl rfl rfl rfl rfl rfl rfl rfl ?_
        (repeat (first | (apply v_move; exact rfl; exact rfl) | (apply v_sliceH; exact slA rfl; exact tyA rfl; exact rfl; exact rfl; exact rfl; exact (by omega); exact (by omega); exact rfl)))
        refine v_appendD (slA rfl) (tyA rfl) rfl rfl rfl rfl rfl rfl rfl (by simp only [List.length_append, List.length_take, List.length_drop, List.length_nil]; omega) rfl rfl rfl rfl ?_
        (repeat (first | (apply v_idxL; exact slA rfl; exact tyA rfl; exact rfl; exact rfl; exact rfl; exact rfl; exact (by omega); (first | exact hjx); exact rfl) | (apply v_cx; exact rfl; exact cbA rfl; (first | exact hon2); exact rfl; exact rfl) | (apply v_move; exact rfl; exact rfl) | (apply v_assign; exact rfl; exact rfl) | refine run_seq ?_ | refine run_region ?_ | refine runL_nil ?_ | (apply v_loadA; exact tyA rfl; exact rfl; exact rfl; exact rfl; exact rfl; exact rfl; exact rfl)))
        refine v_appendD (slA rfl) (tyA rfl) rfl rfl rfl rfl rfl rfl rfl (by simp only [List.length_append, List.length_take, List.length_drop, List.length_nil]; omega) rfl rfl rfl rfl ?_
        (repeat (first | (apply v_move; exact rfl; exact rfl) | (apply v_assign; exact rfl; exact rfl) | refine run_region ?_ | refine runL_nil ?_ | (apply v_sliceL; exact slA rfl; exact tyA rfl; exact rfl; exact rfl; exact rfl; exact (by omega); exact (by omega); exact rfl) | (apply v_add; exact rfl; exact rfl; exact rfl; exact (by omega))))
        refine v_appendD (slA rfl) (tyA rfl) rfl rfl rfl rfl rfl rfl rfl (by simp only [List.length_append, List.length_take, List.length_drop, List.length_nil]; omega) rfl rfl rfl rfl ?_
        (repeat (first | (apply v_move; exact rfl; exact rfl) | (apply v_assign; exact rfl; exact rfl) | refine run_region ?_ | refine runL_nil ?_ | refine run_inBlock ?_ | (apply v_add; exact rfl; exact rfl; exact rfl; exact (by omega))))
        refine run_freeze 5 59 rfl rfl ?_
        have hls : [] ++ u.take ((j : Int)).toNat ++ o ++ u.drop ((j : Int) + 1).toNat = u.take j ++ o ++ u.drop (j + 1) := by rw [show ((j : Int)).toNat = j by omega, show ((j : Int) + 1).toNat = j + 1 by omega]; rfl
        exact v_again ih (t + 1, [] ++ u.take ((j : Int)).toNat ++ o ++ u.drop ((j : Int) + 1).toNat) idN trivial (by repeat (first | exact trivial | refine ⟨rfl, ?_⟩)) (by repeat (first | exact trivial | refine ⟨rfl, ?_⟩)) rfl ⟨by dsimp only; rw [hls]; omega, by dsimp only; rw [hls, hp1]; exact hu, fun e he => by
          dsimp only at he
          rw [hls] at he
          rcases List.mem_append.1 he with he | he
          · rcases List.mem_append.1 he with he | he
            · exact hin e (List.mem_of_mem_take he)
            · exact hon3 e he
          · exact hin e (List.mem_of_mem_drop he)⟩ (by dsimp only; omega)
  · rw [show flatM l id = [] by rw [flatM, if_neg hs]]
    rw [Bool.eq_false_iff.2 hs] at hsh
    refine fun_intro 61 Try.func111 rfl rfl rfl (fun ι F S w => ?_)
    (repeat (first | (apply v_cx; exact rfl; exact cbA rfl; (first | exact hsh); exact rfl; exact rfl) | (apply v_move; exact rfl; exact rfl) | (apply v_assign; exact rfl; exact rfl) | refine run_seq ?_ | refine run_region ?_ | refine runL_nil ?_ | (apply run_cond; exact rfl; rotate_left; (focus (intro hb; cases hb; done)); intro hb; clear hb) | (apply v_not; exact rfl; exact rfl)))
    refine run_know 4 rfl (nil_list intE) ?_
    exact run_ret idN _ Try.func111 ⟨_, _, rfl, rfl, rfl⟩ rfl trivial trivial rfl
end Go.Proofs.Ytjkidecaciomgaa
