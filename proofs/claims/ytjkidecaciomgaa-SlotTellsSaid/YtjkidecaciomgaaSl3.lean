/- slot: Assigned, and the elements of a slot. -/
import Derived.Test.YtjkidecaciomgaaBP
namespace Go.Proofs.Ytjkidecaciomgaa
set_option linter.unusedVariables false
set_option linter.unusedSimpArgs false
set_option maxRecDepth 100000
open Go.RowKit

theorem idxfunc_b {l : List Nd} {s : Int} {xs : List Int} {p : Int → Bool} (hm : xs.length ≤ 1000000) (hcf : ∀ x ∈ xs, Fun Try.prog 184 [.v (.int .i64 x), .ptr 1 0, .ptr 2 0] ([(1, .box 25 [forA l]), (2, .box 123 [.fn 157 [.ptr 3 0, .ptr 4 0]]), (3, .box 25 [forA l]), (4, .box 3 [.v (.int .i64 s)])]) (.v (.bool (p x))) ([(1, .box 25 [forA l]), (2, .box 123 [.fn 157 [.ptr 3 0, .ptr 4 0]]), (3, .box 25 [forA l]), (4, .box 3 [.v (.int .i64 s)])])) : Fun Try.prog 190 [.res 0, .fn 184 [.ptr 1 0, .ptr 2 0]] ((0, .obj (ownS 3 intE (xs))) :: [(1, .box 25 [forA l]), (2, .box 123 [.fn 157 [.ptr 3 0, .ptr 4 0]]), (3, .box 25 [forA l]), (4, .box 3 [.v (.int .i64 s)])]) (.v (.int .i64 (idxP p xs))) ((0, .obj (ownS 3 intE (xs))) :: [(1, .box 25 [forA l]), (2, .box 123 [.fn 157 [.ptr 3 0, .ptr 4 0]]), (3, .box 25 [forA l]), (4, .box 3 [.v (.int .i64 s)])]) := by
  refine fun_intro 19 Try.func190 rfl rfl rfl (fun ι F S w => ?_)
  (repeat (first | (apply v_move; exact rfl; exact rfl) | (apply v_assign; exact rfl; exact rfl) | refine run_seq ?_ | refine run_region ?_ | refine runL_nil ?_ | refine run_block ?_ | (apply v_lenO; exact slA rfl; exact rfl; exact rfl; exact rfl)))
  refine v_loop (fun i : Nat => ⟨[(0, .res 0), (1, .fn 184 [.ptr 1 0, .ptr 2 0]), (7, .v (.int .i64 xs.length)), (8, .v (.int .i64 i))], ((0, .obj (ownS 3 intE (xs))) :: [(1, .box 25 [forA l]), (2, .box 123 [.fn 157 [.ptr 3 0, .ptr 4 0]]), (3, .box 25 [forA l]), (4, .box 3 [.v (.int .i64 s)])])⟩) (fun i => i ≤ xs.length ∧ ∀ x ∈ xs.take i, p x = false) (fun i => xs.length - i) 0 idN ⟨rfl, rfl, rfl, rfl, rfl, trivial⟩ (by repeat (first | exact trivial | refine ⟨rfl, ?_⟩)) ⟨rfl, rfl, rfl, rfl, rfl, trivial⟩ rfl ⟨by omega, fun x hx => by simp at hx⟩ fun i ⟨hi, hp⟩ ih => ?_
  (repeat (first | refine run_seq ?_ | refine run_region ?_ | refine runL_nil ?_ | (apply v_lss; exact rfl; exact rfl; exact rfl)))
  refine run_cond rfl (fun hb => ?_) (fun hb => ?_)
  · have hlt : i < xs.length := by simpa using hb
    have hx : xs[i]? = some xs[i] := List.getElem?_eq_getElem hlt
    have hc := hcf xs[i] (List.getElem_mem hlt)
    have hst : xs.take (i + 1) = xs.take i ++ [xs[i]] := by rw [List.take_add_one, hx]; rfl
    have hidx : p xs[i] = true → idxP p xs = (i : Int) := fun h => idxP_at hx h hp
    generalize xs[i] = v at *
    (repeat (first | (apply v_idxO; exact slA rfl; exact tyA rfl; exact rfl; exact rfl; exact rfl; exact rfl; exact (by omega); exact (by omega); exact rfl) | (apply v_move; exact rfl; exact rfl) | (apply v_assign; exact rfl; exact rfl) | refine run_seq ?_ | refine run_region ?_ | refine runL_nil ?_ | refine run_skip ?_ | refine run_block ?_))
    refine v_loadO (f := 0) (j := i) (tyA rfl) rfl rfl rfl rfl hx (by decide) rfl rfl ?_
    skip
    refine v_cC (l := [.v (.int .i64 v)]) (cap := [.ptr 1 0, .ptr 2 0]) idN hc rfl rfl (cbA rfl) ⟨rfl, rfl, rfl, rfl, trivial⟩ (by kernel_rfl) (by kernel_rfl) (by kernel_rfl) (by kernel_rfl) (by kernel_rfl) (by kernel_rfl) (by kernel_rfl) (by kernel_rfl) rfl ?_
    (repeat (first | refine runL_nil ?_))
    refine run_cond rfl (fun hb => ?_) (fun hb => ?_)
    · have hpv : p v = true := hb
      rw [hidx hpv]
      (repeat (first | (apply v_move; exact rfl; exact rfl) | (apply v_assign; exact rfl; exact rfl) | refine run_seq ?_ | refine run_region ?_ | refine runL_nil ?_))
      exact run_ret idN _ Try.func190 ⟨_, _, rfl, rfl, rfl⟩ rfl ⟨rfl, rfl, rfl, rfl, rfl, trivial⟩ ⟨rfl, rfl, rfl, rfl, rfl, trivial⟩ rfl
    · have hpv : p v = false := hb
      (repeat (first | (apply v_move; exact rfl; exact rfl) | refine run_region ?_ | refine runL_nil ?_ | refine run_skip ?_ | refine run_inBlock ?_ | (apply v_add; exact rfl; exact rfl; exact rfl; exact (by omega))))
      exact v_again ih (i + 1) idN ⟨rfl, rfl, rfl, rfl, rfl, trivial⟩ (by repeat (first | exact trivial | refine ⟨rfl, ?_⟩)) ⟨rfl, rfl, rfl, rfl, rfl, trivial⟩ rfl ⟨by omega, fun x hx => by
        rw [hst] at hx
        rcases List.mem_append.1 hx with hx | hx
        · exact hp x hx
        · rw [List.mem_singleton] at hx; rw [hx]; exact hpv⟩ (by omega)
  · have hge : i = xs.length := by have : ¬ i < xs.length := (by simpa using hb); omega
    rw [hge, List.take_length] at hp
    rw [idxP_none hp]
    (repeat (first | (apply v_assign; exact rfl; exact rfl) | refine run_seq ?_ | refine run_region ?_ | refine runL_nil ?_ | (apply run_exit; exact rfl)))
    exact run_ret idN _ Try.func190 ⟨_, _, rfl, rfl, rfl⟩ rfl ⟨rfl, rfl, rfl, rfl, rfl, trivial⟩ ⟨rfl, rfl, rfl, rfl, rfl, trivial⟩ rfl
theorem delfunc_b {l : List Nd} {s : Int} {xs : List Int} {p : Int → Bool} (hm : xs.length ≤ 1000000) (hcf : ∀ x ∈ xs, Fun Try.prog 184 [.v (.int .i64 x), .ptr 1 0, .ptr 2 0] ([(1, .box 25 [forA l]), (2, .box 123 [.fn 157 [.ptr 3 0, .ptr 4 0]]), (3, .box 25 [forA l]), (4, .box 3 [.v (.int .i64 s)])]) (.v (.bool (p x))) ([(1, .box 25 [forA l]), (2, .box 123 [.fn 157 [.ptr 3 0, .ptr 4 0]]), (3, .box 25 [forA l]), (4, .box 3 [.v (.int .i64 s)])])) : Fun Try.prog 183 [.res 0, .fn 184 [.ptr 1 0, .ptr 2 0]] ((0, .obj (ownS 3 intE (xs))) :: [(1, .box 25 [forA l]), (2, .box 123 [.fn 157 [.ptr 3 0, .ptr 4 0]]), (3, .box 25 [forA l]), (4, .box 3 [.v (.int .i64 s)])]) (.res 9) ((9, .obj (ownS 3 intE (xs.filter (fun x => !(p x))))) :: [(1, .box 25 [forA l]), (2, .box 123 [.fn 157 [.ptr 3 0, .ptr 4 0]]), (3, .box 25 [forA l]), (4, .box 3 [.v (.int .i64 s)])]) := by
  have hif := idxfunc_b (p := p) hm hcf
  rcases idxP_cases p xs with ⟨hi, hall⟩ | ⟨i0, hi, hlt0, hp0, hall⟩
  · rw [hi] at hif
    refine fun_intro 42 Try.func183 rfl rfl rfl (fun ι F S w => ?_)
    (repeat (first | (apply v_move; exact rfl; exact rfl) | (apply v_assign; exact rfl; exact rfl) | refine run_seq ?_ | refine run_region ?_ | refine runL_nil ?_))
    refine v_cR idN hif rfl (cbA rfl) ⟨rfl, rfl, rfl, rfl, rfl, trivial⟩ (by kernel_rfl) (by kernel_rfl) (by kernel_rfl) (by kernel_rfl) (by kernel_rfl) (by kernel_rfl) (by kernel_rfl) (by kernel_rfl) rfl ?_
    (repeat (first | (apply v_move; exact rfl; exact rfl) | (apply v_assign; exact rfl; exact rfl) | refine run_seq ?_ | refine run_region ?_ | refine runL_nil ?_ | (apply run_cond; exact rfl; rotate_left; (focus (intro hb; cases hb; done)); intro hb; clear hb) | (apply v_eql; exact rfl; exact rfl; exact rfl)))
    exact run_ret (mp [(9, 0)]) _ Try.func183 ⟨_, _, rfl, rfl, rfl⟩ rfl ⟨rfl, rfl, rfl, rfl, rfl, trivial⟩ ⟨by rw [filter_none hall]; rfl, rfl, rfl, rfl, rfl, trivial⟩ rfl
  · rw [hi] at hif
    refine fun_intro 42 Try.func183 rfl rfl rfl (fun ι F S w => ?_)
    (repeat (first | (apply v_move; exact rfl; exact rfl) | (apply v_assign; exact rfl; exact rfl) | refine run_seq ?_ | refine run_region ?_ | refine runL_nil ?_))
    refine v_cR idN hif rfl (cbA rfl) ⟨rfl, rfl, rfl, rfl, rfl, trivial⟩ (by kernel_rfl) (by kernel_rfl) (by kernel_rfl) (by kernel_rfl) (by kernel_rfl) (by kernel_rfl) (by kernel_rfl) (by kernel_rfl) rfl ?_
    (repeat (first | (apply v_move; exact rfl; exact rfl) | (apply v_assign; exact rfl; exact rfl) | refine run_seq ?_ | refine run_region ?_ | refine runL_nil ?_ | refine run_skip ?_ | refine run_block ?_ | (apply run_cond; exact rfl; (focus (intro hb; cases hb; done)); intro hb; clear hb) | (apply v_eql; exact rfl; exact rfl; exact rfl) | (apply v_add; exact rfl; exact rfl; exact rfl; exact (by omega))))
    refine v_loop (fun q : Nat × Nat × List Int => ⟨[(0, .res 0), (1, .fn 184 [.ptr 1 0, .ptr 2 0]), (5, .v (.int .i64 q.1)), (6, .v (.int .i64 q.2.1))], ((0, .obj (ownS 3 intE (q.2.2))) :: [(1, .box 25 [forA l]), (2, .box 123 [.fn 157 [.ptr 3 0, .ptr 4 0]]), (3, .box 25 [forA l]), (4, .box 3 [.v (.int .i64 s)])])⟩) (fun q => q.1 < q.2.1 ∧ q.2.1 ≤ xs.length ∧ q.2.2.length = xs.length ∧ q.2.2.take q.1 = (xs.take q.2.1).filter (fun x => !(p x)) ∧ q.2.2.drop q.2.1 = xs.drop q.2.1) (fun q => xs.length - q.2.1) (i0, i0 + 1, xs) idN ⟨rfl, rfl, rfl, rfl, rfl, trivial⟩ (by repeat (first | exact trivial | refine ⟨rfl, ?_⟩)) ⟨rfl, rfl, rfl, rfl, rfl, trivial⟩ rfl ⟨by dsimp only; omega, by dsimp only; omega, rfl, filter_first hlt0 hp0 hall, rfl⟩ fun ⟨i, j, B⟩ ⟨hij, hj, hB, hT, hD⟩ ih => ?_
    dsimp only at hij hj hB hT hD ⊢
    (repeat (first | (apply v_move; exact rfl; exact rfl) | refine run_seq ?_ | refine run_region ?_ | refine runL_nil ?_ | (apply v_lss; exact rfl; exact rfl; exact rfl) | (apply v_lenO; exact slA rfl; exact rfl; exact rfl; exact rfl)))
    refine run_cond rfl (fun hb => ?_) (fun hb => ?_)
    · have hlt : j < xs.length := by have := (by simpa using hb : j < B.length); omega
      have hBj : B[j]? = some xs[j] := by
        have : (B.drop j)[0]? = (xs.drop j)[0]? := by rw [hD]
        rw [List.getElem?_drop, List.getElem?_drop, Nat.add_zero] at this
        rw [this]
        exact List.getElem?_eq_getElem hlt
      have hc := hcf xs[j] (List.getElem_mem hlt)
      have hst : (xs.take (j + 1)).filter (fun x => !(p x)) = (xs.take j).filter (fun x => !(p x)) ++ (if p xs[j] = true then [] else [xs[j]]) := by
        rw [List.take_add_one, List.filter_append, List.getElem?_eq_getElem hlt]
        congr 1
        simp only [Option.toList_some, List.filter_cons, List.filter_nil]
        cases p xs[j] <;> rfl
      have hD2 : ∀ C : List Int, C.drop j = xs.drop j → C.drop (j + 1) = xs.drop (j + 1) := fun C hC => by
        have e : ∀ ys : List Int, ys.drop (j + 1) = (ys.drop j).drop 1 := fun ys => by rw [List.drop_drop]
        rw [e, e, hC]
      generalize xs[j] = v at *
      obtain ⟨bi, hBi⟩ : ∃ bi, B[i]? = some bi := ⟨_, List.getElem?_eq_getElem (show i < B.length by omega)⟩
      (repeat (first | (apply v_idxO; exact slA rfl; exact tyA rfl; exact rfl; exact rfl; exact rfl; exact rfl; exact (by omega); exact (by omega); exact rfl) | (apply v_move; exact rfl; exact rfl) | refine run_seq ?_ | refine run_region ?_ | refine run_skip ?_ | refine run_block ?_))
      refine v_loadO (f := 0) (j := j) (tyA rfl) rfl rfl rfl rfl hBj (by decide) rfl rfl ?_
      (repeat (first | (apply v_move; exact rfl; exact rfl) | (apply v_assign; exact rfl; exact rfl) | refine run_seq ?_ | refine run_region ?_ | refine runL_nil ?_))
      refine v_cC (l := [.v (.int .i64 v)]) (cap := [.ptr 1 0, .ptr 2 0]) idN hc rfl rfl (cbA rfl) ⟨rfl, rfl, rfl, rfl, trivial⟩ (by kernel_rfl) (by kernel_rfl) (by kernel_rfl) (by kernel_rfl) (by kernel_rfl) (by kernel_rfl) (by kernel_rfl) (by kernel_rfl) rfl ?_
      (repeat (first | refine runL_nil ?_ | (apply v_not; exact rfl; exact rfl)))
      refine run_cond rfl (fun hb => ?_) (fun hb => ?_)
      · have hpv : p v = false := by simpa using hb
        rw [hpv, if_neg (by simp)] at hst
        (repeat (first | (apply v_idxO; exact slA rfl; exact tyA rfl; exact rfl; exact rfl; exact rfl; exact rfl; exact (by omega); exact (by omega); exact rfl) | (apply v_move; exact rfl; exact rfl) | refine run_seq ?_ | refine run_region ?_))
        refine v_storeO (f := 0) (j := i) v (tyA rfl) rfl rfl rfl rfl hBi rfl rfl (by decide) rfl rfl ?_
        (repeat (first | (apply v_move; exact rfl; exact rfl) | (apply v_assign; exact rfl; exact rfl) | refine run_region ?_ | refine runL_nil ?_ | refine run_inBlock ?_ | (apply v_add; exact rfl; exact rfl; exact rfl; exact (by omega))))
        exact v_again ih (i + 1, j + 1, B.set i v) idN ⟨rfl, rfl, rfl, rfl, rfl, trivial⟩ (by repeat (first | exact trivial | refine ⟨rfl, ?_⟩)) ⟨rfl, rfl, rfl, rfl, rfl, trivial⟩ rfl ⟨by dsimp only; omega, by dsimp only; omega, by dsimp only; rw [List.length_set]; exact hB, by
          dsimp only
          rw [hst, ← hT]
          exact take_set (by omega), by
          dsimp only
          refine hD2 _ ?_
          rw [List.drop_set_of_lt (by omega)]
          exact hD⟩ (by dsimp only; omega)
      · have hpv : p v = true := by simpa using hb
        rw [hpv, if_pos rfl, List.append_nil] at hst
        (repeat (first | (apply v_move; exact rfl; exact rfl) | (apply v_assign; exact rfl; exact rfl) | refine run_region ?_ | refine runL_nil ?_ | refine run_skip ?_ | refine run_inBlock ?_ | (apply v_add; exact rfl; exact rfl; exact rfl; exact (by omega))))
        exact v_again ih (i, j + 1, B) idN ⟨rfl, rfl, rfl, rfl, rfl, trivial⟩ (by repeat (first | exact trivial | refine ⟨rfl, ?_⟩)) ⟨rfl, rfl, rfl, rfl, rfl, trivial⟩ rfl ⟨by dsimp only; omega, by dsimp only; omega, hB, by dsimp only; rw [hst]; exact hT, hD2 B hD⟩ (by dsimp only; omega)
    · have hge : j = xs.length := by have : ¬ j < B.length := (by simpa using hb); omega
      rw [hge, List.take_length] at hT
      have hne : B ≠ [] := fun e => by rw [e] at hB; simp at hB; omega
      clear ih
      (repeat (first | (apply v_move; exact rfl; exact rfl) | refine run_seq ?_ | refine run_region ?_ | (apply run_exit; exact rfl)))
      refine runL_row 36 0 rfl rfl hne fun b cap hcap => ?_
      refine v_fromV (slA rfl) (tyA rfl) rfl rfl rfl (by omega) (by omega) hcap rfl ?_
      refine v_clearU (g := 0) (cap := cap) (xs := B) (slA rfl) (by kernel_rfl) rfl rfl (tyA rfl) (by omega) (by omega) ?_
      (repeat (first | (apply v_move; exact rfl; exact rfl) | refine run_seq ?_ | refine run_region ?_ | refine runL_nil ?_))
      refine runL_row2 39 0 rfl rfl ?_
      refine v_toV (slA rfl) (tyA rfl) rfl rfl (by omega) (by omega) rfl ?_
      (repeat (first | (apply v_assign; exact rfl; exact rfl) | refine runL_nil ?_))
      have hz : (B.take (0 + ((i : Nat) : Int).toNat) ++ List.replicate (B.length - ((i : Nat) : Int).toNat) 0).length = B.length := by simp; omega
      refine run_unrow (xs := B.take (0 + ((i : Nat) : Int).toNat) ++ List.replicate (B.length - ((i : Nat) : Int).toNat) 0) 4 0 50 ((i : Nat) : Int).toNat rfl (by rw [hz]; rfl) (by intro e; rw [e] at hz; simp at hz; omega) (by rw [hz]; omega) rfl rfl rfl ?_
      have hfin : (B.take (0 + ((i : Nat) : Int).toNat) ++ List.replicate (B.length - ((i : Nat) : Int).toNat) 0).take ((i : Nat) : Int).toNat = xs.filter (fun x => !(p x)) := by
        rw [show 0 + ((i : Nat) : Int).toNat = i by omega, show ((i : Nat) : Int).toNat = i by omega, ← hT, List.take_append_of_le_length (by simp; omega), List.take_take, Nat.min_self]
      rw [hfin]
      exact run_ret (mp [(9, 50)]) _ Try.func183 ⟨_, _, rfl, rfl, rfl⟩ rfl ⟨rfl, rfl, rfl, rfl, rfl, trivial⟩ ⟨rfl, rfl, rfl, rfl, rfl, trivial⟩ rfl
theorem idxfunc_c {l : List Nd} {xs : List Int} {p : Int → Bool} (hm : xs.length ≤ 1000000) (hcf : ∀ x ∈ xs, Fun Try.prog 184 [.v (.int .i64 x), .ptr 1 0, .ptr 2 0] ([(1, .box 25 [forA l]), (2, .box 123 [.fn 160 []])]) (.v (.bool (p x))) ([(1, .box 25 [forA l]), (2, .box 123 [.fn 160 []])])) : Fun Try.prog 190 [.res 0, .fn 184 [.ptr 1 0, .ptr 2 0]] ((0, .obj (ownS 3 intE (xs))) :: [(1, .box 25 [forA l]), (2, .box 123 [.fn 160 []])]) (.v (.int .i64 (idxP p xs))) ((0, .obj (ownS 3 intE (xs))) :: [(1, .box 25 [forA l]), (2, .box 123 [.fn 160 []])]) := by
  refine fun_intro 19 Try.func190 rfl rfl rfl (fun ι F S w => ?_)
  (repeat (first | (apply v_move; exact rfl; exact rfl) | (apply v_assign; exact rfl; exact rfl) | refine run_seq ?_ | refine run_region ?_ | refine runL_nil ?_ | refine run_block ?_ | (apply v_lenO; exact slA rfl; exact rfl; exact rfl; exact rfl)))
  refine v_loop (fun i : Nat => ⟨[(0, .res 0), (1, .fn 184 [.ptr 1 0, .ptr 2 0]), (7, .v (.int .i64 xs.length)), (8, .v (.int .i64 i))], ((0, .obj (ownS 3 intE (xs))) :: [(1, .box 25 [forA l]), (2, .box 123 [.fn 160 []])])⟩) (fun i => i ≤ xs.length ∧ ∀ x ∈ xs.take i, p x = false) (fun i => xs.length - i) 0 idN ⟨rfl, rfl, rfl, trivial⟩ (by repeat (first | exact trivial | refine ⟨rfl, ?_⟩)) ⟨rfl, rfl, rfl, trivial⟩ rfl ⟨by omega, fun x hx => by simp at hx⟩ fun i ⟨hi, hp⟩ ih => ?_
  (repeat (first | refine run_seq ?_ | refine run_region ?_ | refine runL_nil ?_ | (apply v_lss; exact rfl; exact rfl; exact rfl)))
  refine run_cond rfl (fun hb => ?_) (fun hb => ?_)
  · have hlt : i < xs.length := by simpa using hb
    have hx : xs[i]? = some xs[i] := List.getElem?_eq_getElem hlt
    have hc := hcf xs[i] (List.getElem_mem hlt)
    have hst : xs.take (i + 1) = xs.take i ++ [xs[i]] := by rw [List.take_add_one, hx]; rfl
    have hidx : p xs[i] = true → idxP p xs = (i : Int) := fun h => idxP_at hx h hp
    generalize xs[i] = v at *
    (repeat (first | (apply v_idxO; exact slA rfl; exact tyA rfl; exact rfl; exact rfl; exact rfl; exact rfl; exact (by omega); exact (by omega); exact rfl) | (apply v_move; exact rfl; exact rfl) | (apply v_assign; exact rfl; exact rfl) | refine run_seq ?_ | refine run_region ?_ | refine runL_nil ?_ | refine run_skip ?_ | refine run_block ?_))
    refine v_loadO (f := 0) (j := i) (tyA rfl) rfl rfl rfl rfl hx (by decide) rfl rfl ?_
    skip
    refine v_cC (l := [.v (.int .i64 v)]) (cap := [.ptr 1 0, .ptr 2 0]) idN hc rfl rfl (cbA rfl) ⟨rfl, rfl, trivial⟩ (by kernel_rfl) (by kernel_rfl) (by kernel_rfl) (by kernel_rfl) (by kernel_rfl) (by kernel_rfl) (by kernel_rfl) (by kernel_rfl) rfl ?_
    (repeat (first | refine runL_nil ?_))
    refine run_cond rfl (fun hb => ?_) (fun hb => ?_)
    · have hpv : p v = true := hb
      rw [hidx hpv]
      (repeat (first | (apply v_move; exact rfl; exact rfl) | (apply v_assign; exact rfl; exact rfl) | refine run_seq ?_ | refine run_region ?_ | refine runL_nil ?_))
      exact run_ret idN _ Try.func190 ⟨_, _, rfl, rfl, rfl⟩ rfl ⟨rfl, rfl, rfl, trivial⟩ ⟨rfl, rfl, rfl, trivial⟩ rfl
    · have hpv : p v = false := hb
      (repeat (first | (apply v_move; exact rfl; exact rfl) | refine run_region ?_ | refine runL_nil ?_ | refine run_skip ?_ | refine run_inBlock ?_ | (apply v_add; exact rfl; exact rfl; exact rfl; exact (by omega))))
      exact v_again ih (i + 1) idN ⟨rfl, rfl, rfl, trivial⟩ (by repeat (first | exact trivial | refine ⟨rfl, ?_⟩)) ⟨rfl, rfl, rfl, trivial⟩ rfl ⟨by omega, fun x hx => by
        rw [hst] at hx
        rcases List.mem_append.1 hx with hx | hx
        · exact hp x hx
        · rw [List.mem_singleton] at hx; rw [hx]; exact hpv⟩ (by omega)
  · have hge : i = xs.length := by have : ¬ i < xs.length := (by simpa using hb); omega
    rw [hge, List.take_length] at hp
    rw [idxP_none hp]
    (repeat (first | (apply v_assign; exact rfl; exact rfl) | refine run_seq ?_ | refine run_region ?_ | refine runL_nil ?_ | (apply run_exit; exact rfl)))
    exact run_ret idN _ Try.func190 ⟨_, _, rfl, rfl, rfl⟩ rfl ⟨rfl, rfl, rfl, trivial⟩ ⟨rfl, rfl, rfl, trivial⟩ rfl
theorem delfunc_c {l : List Nd} {xs : List Int} {p : Int → Bool} (hm : xs.length ≤ 1000000) (hcf : ∀ x ∈ xs, Fun Try.prog 184 [.v (.int .i64 x), .ptr 1 0, .ptr 2 0] ([(1, .box 25 [forA l]), (2, .box 123 [.fn 160 []])]) (.v (.bool (p x))) ([(1, .box 25 [forA l]), (2, .box 123 [.fn 160 []])])) : Fun Try.prog 183 [.res 0, .fn 184 [.ptr 1 0, .ptr 2 0]] ((0, .obj (ownS 3 intE (xs))) :: [(1, .box 25 [forA l]), (2, .box 123 [.fn 160 []])]) (.res 9) ((9, .obj (ownS 3 intE (xs.filter (fun x => !(p x))))) :: [(1, .box 25 [forA l]), (2, .box 123 [.fn 160 []])]) := by
  have hif := idxfunc_c (p := p) hm hcf
  rcases idxP_cases p xs with ⟨hi, hall⟩ | ⟨i0, hi, hlt0, hp0, hall⟩
  · rw [hi] at hif
    refine fun_intro 42 Try.func183 rfl rfl rfl (fun ι F S w => ?_)
    (repeat (first | (apply v_move; exact rfl; exact rfl) | (apply v_assign; exact rfl; exact rfl) | refine run_seq ?_ | refine run_region ?_ | refine runL_nil ?_))
    refine v_cR idN hif rfl (cbA rfl) ⟨rfl, rfl, rfl, trivial⟩ (by kernel_rfl) (by kernel_rfl) (by kernel_rfl) (by kernel_rfl) (by kernel_rfl) (by kernel_rfl) (by kernel_rfl) (by kernel_rfl) rfl ?_
    (repeat (first | (apply v_move; exact rfl; exact rfl) | (apply v_assign; exact rfl; exact rfl) | refine run_seq ?_ | refine run_region ?_ | refine runL_nil ?_ | (apply run_cond; exact rfl; rotate_left; (focus (intro hb; cases hb; done)); intro hb; clear hb) | (apply v_eql; exact rfl; exact rfl; exact rfl)))
    exact run_ret (mp [(9, 0)]) _ Try.func183 ⟨_, _, rfl, rfl, rfl⟩ rfl ⟨rfl, rfl, rfl, trivial⟩ ⟨by rw [filter_none hall]; rfl, rfl, rfl, trivial⟩ rfl
  · rw [hi] at hif
    refine fun_intro 42 Try.func183 rfl rfl rfl (fun ι F S w => ?_)
    (repeat (first | (apply v_move; exact rfl; exact rfl) | (apply v_assign; exact rfl; exact rfl) | refine run_seq ?_ | refine run_region ?_ | refine runL_nil ?_))
    refine v_cR idN hif rfl (cbA rfl) ⟨rfl, rfl, rfl, trivial⟩ (by kernel_rfl) (by kernel_rfl) (by kernel_rfl) (by kernel_rfl) (by kernel_rfl) (by kernel_rfl) (by kernel_rfl) (by kernel_rfl) rfl ?_
    (repeat (first | (apply v_move; exact rfl; exact rfl) | (apply v_assign; exact rfl; exact rfl) | refine run_seq ?_ | refine run_region ?_ | refine runL_nil ?_ | refine run_skip ?_ | refine run_block ?_ | (apply run_cond; exact rfl; (focus (intro hb; cases hb; done)); intro hb; clear hb) | (apply v_eql; exact rfl; exact rfl; exact rfl) | (apply v_add; exact rfl; exact rfl; exact rfl; exact (by omega))))
    refine v_loop (fun q : Nat × Nat × List Int => ⟨[(0, .res 0), (1, .fn 184 [.ptr 1 0, .ptr 2 0]), (5, .v (.int .i64 q.1)), (6, .v (.int .i64 q.2.1))], ((0, .obj (ownS 3 intE (q.2.2))) :: [(1, .box 25 [forA l]), (2, .box 123 [.fn 160 []])])⟩) (fun q => q.1 < q.2.1 ∧ q.2.1 ≤ xs.length ∧ q.2.2.length = xs.length ∧ q.2.2.take q.1 = (xs.take q.2.1).filter (fun x => !(p x)) ∧ q.2.2.drop q.2.1 = xs.drop q.2.1) (fun q => xs.length - q.2.1) (i0, i0 + 1, xs) idN ⟨rfl, rfl, rfl, trivial⟩ (by repeat (first | exact trivial | refine ⟨rfl, ?_⟩)) ⟨rfl, rfl, rfl, trivial⟩ rfl ⟨by dsimp only; omega, by dsimp only; omega, rfl, filter_first hlt0 hp0 hall, rfl⟩ fun ⟨i, j, B⟩ ⟨hij, hj, hB, hT, hD⟩ ih => ?_
    dsimp only at hij hj hB hT hD ⊢
    (repeat (first | (apply v_move; exact rfl; exact rfl) | refine run_seq ?_ | refine run_region ?_ | refine runL_nil ?_ | (apply v_lss; exact rfl; exact rfl; exact rfl) | (apply v_lenO; exact slA rfl; exact rfl; exact rfl; exact rfl)))
    refine run_cond rfl (fun hb => ?_) (fun hb => ?_)
    · have hlt : j < xs.length := by have := (by simpa using hb : j < B.length); omega
      have hBj : B[j]? = some xs[j] := by
        have : (B.drop j)[0]? = (xs.drop j)[0]? := by rw [hD]
        rw [List.getElem?_drop, List.getElem?_drop, Nat.add_zero] at this
        rw [this]
        exact List.getElem?_eq_getElem hlt
      have hc := hcf xs[j] (List.getElem_mem hlt)
      have hst : (xs.take (j + 1)).filter (fun x => !(p x)) = (xs.take j).filter (fun x => !(p x)) ++ (if p xs[j] = true then [] else [xs[j]]) := by
        rw [List.take_add_one, List.filter_append, List.getElem?_eq_getElem hlt]
        congr 1
        simp only [Option.toList_some, List.filter_cons, List.filter_nil]
        cases p xs[j] <;> rfl
      have hD2 : ∀ C : List Int, C.drop j = xs.drop j → C.drop (j + 1) = xs.drop (j + 1) := fun C hC => by
        have e : ∀ ys : List Int, ys.drop (j + 1) = (ys.drop j).drop 1 := fun ys => by rw [List.drop_drop]
        rw [e, e, hC]
      generalize xs[j] = v at *
      obtain ⟨bi, hBi⟩ : ∃ bi, B[i]? = some bi := ⟨_, List.getElem?_eq_getElem (show i < B.length by omega)⟩
      (repeat (first | (apply v_idxO; exact slA rfl; exact tyA rfl; exact rfl; exact rfl; exact rfl; exact rfl; exact (by omega); exact (by omega); exact rfl) | (apply v_move; exact rfl; exact rfl) | refine run_seq ?_ | refine run_region ?_ | refine run_skip ?_ | refine run_block ?_))
      refine v_loadO (f := 0) (j := j) (tyA rfl) rfl rfl rfl rfl hBj (by decide) rfl rfl ?_
      (repeat (first | (apply v_move; exact rfl; exact rfl) | (apply v_assign; exact rfl; exact rfl) | refine run_seq ?_ | refine run_region ?_ | refine runL_nil ?_))
      refine v_cC (l := [.v (.int .i64 v)]) (cap := [.ptr 1 0, .ptr 2 0]) idN hc rfl rfl (cbA rfl) ⟨rfl, rfl, trivial⟩ (by kernel_rfl) (by kernel_rfl) (by kernel_rfl) (by kernel_rfl) (by kernel_rfl) (by kernel_rfl) (by kernel_rfl) (by kernel_rfl) rfl ?_
      (repeat (first | refine runL_nil ?_ | (apply v_not; exact rfl; exact rfl)))
      refine run_cond rfl (fun hb => ?_) (fun hb => ?_)
      · have hpv : p v = false := by simpa using hb
        rw [hpv, if_neg (by simp)] at hst
        (repeat (first | (apply v_idxO; exact slA rfl; exact tyA rfl; exact rfl; exact rfl; exact rfl; exact rfl; exact (by omega); exact (by omega); exact rfl) | (apply v_move; exact rfl; exact rfl) | refine run_seq ?_ | refine run_region ?_))
        refine v_storeO (f := 0) (j := i) v (tyA rfl) rfl rfl rfl rfl hBi rfl rfl (by decide) rfl rfl ?_
        (repeat (first | (apply v_move; exact rfl; exact rfl) | (apply v_assign; exact rfl; exact rfl) | refine run_region ?_ | refine runL_nil ?_ | refine run_inBlock ?_ | (apply v_add; exact rfl; exact rfl; exact rfl; exact (by omega))))
        exact v_again ih (i + 1, j + 1, B.set i v) idN ⟨rfl, rfl, rfl, trivial⟩ (by repeat (first | exact trivial | refine ⟨rfl, ?_⟩)) ⟨rfl, rfl, rfl, trivial⟩ rfl ⟨by dsimp only; omega, by dsimp only; omega, by dsimp only; rw [List.length_set]; exact hB, by
          dsimp only
          rw [hst, ← hT]
          exact take_set (by omega), by
          dsimp only
          refine hD2 _ ?_
          rw [List.drop_set_of_lt (by omega)]
          exact hD⟩ (by dsimp only; omega)
      · have hpv : p v = true := by simpa using hb
        rw [hpv, if_pos rfl, List.append_nil] at hst
        (repeat (first | (apply v_move; exact rfl; exact rfl) | (apply v_assign; exact rfl; exact rfl) | refine run_region ?_ | refine runL_nil ?_ | refine run_skip ?_ | refine run_inBlock ?_ | (apply v_add; exact rfl; exact rfl; exact rfl; exact (by omega))))
        exact v_again ih (i, j + 1, B) idN ⟨rfl, rfl, rfl, trivial⟩ (by repeat (first | exact trivial | refine ⟨rfl, ?_⟩)) ⟨rfl, rfl, rfl, trivial⟩ rfl ⟨by dsimp only; omega, by dsimp only; omega, hB, by dsimp only; rw [hst]; exact hT, hD2 B hD⟩ (by dsimp only; omega)
    · have hge : j = xs.length := by have : ¬ j < B.length := (by simpa using hb); omega
      rw [hge, List.take_length] at hT
      have hne : B ≠ [] := fun e => by rw [e] at hB; simp at hB; omega
      clear ih
      (repeat (first | (apply v_move; exact rfl; exact rfl) | refine run_seq ?_ | refine run_region ?_ | (apply run_exit; exact rfl)))
      refine runL_row 36 0 rfl rfl hne fun b cap hcap => ?_
      refine v_fromV (slA rfl) (tyA rfl) rfl rfl rfl (by omega) (by omega) hcap rfl ?_
      refine v_clearU (g := 0) (cap := cap) (xs := B) (slA rfl) (by kernel_rfl) rfl rfl (tyA rfl) (by omega) (by omega) ?_
      (repeat (first | (apply v_move; exact rfl; exact rfl) | refine run_seq ?_ | refine run_region ?_ | refine runL_nil ?_))
      refine runL_row2 39 0 rfl rfl ?_
      refine v_toV (slA rfl) (tyA rfl) rfl rfl (by omega) (by omega) rfl ?_
      (repeat (first | (apply v_assign; exact rfl; exact rfl) | refine runL_nil ?_))
      have hz : (B.take (0 + ((i : Nat) : Int).toNat) ++ List.replicate (B.length - ((i : Nat) : Int).toNat) 0).length = B.length := by simp; omega
      refine run_unrow (xs := B.take (0 + ((i : Nat) : Int).toNat) ++ List.replicate (B.length - ((i : Nat) : Int).toNat) 0) 4 0 50 ((i : Nat) : Int).toNat rfl (by rw [hz]; rfl) (by intro e; rw [e] at hz; simp at hz; omega) (by rw [hz]; omega) rfl rfl rfl ?_
      have hfin : (B.take (0 + ((i : Nat) : Int).toNat) ++ List.replicate (B.length - ((i : Nat) : Int).toNat) 0).take ((i : Nat) : Int).toNat = xs.filter (fun x => !(p x)) := by
        rw [show 0 + ((i : Nat) : Int).toNat = i by omega, show ((i : Nat) : Int).toNat = i by omega, ← hT, List.take_append_of_le_length (by simp; omega), List.take_take, Nat.min_self]
      rw [hfin]
      exact run_ret (mp [(9, 50)]) _ Try.func183 ⟨_, _, rfl, rfl, rfl⟩ rfl ⟨rfl, rfl, rfl, trivial⟩ ⟨rfl, rfl, rfl, trivial⟩ rfl
theorem asg1_f {l : List Nd} (h : WF l) (s x : Int) (n : Nd) : Fun Try.prog 157 [.v (.int .i64 x), .agg (nodeL n), .ptr 0 0, .ptr 1 0] [(0, .box 25 [forA l]), (1, .box 3 [.v (.int .i64 s)])] (.v (.bool (ofM l x == s))) [(0, .box 25 [forA l]), (1, .box 3 [.v (.int .i64 s)])] := by
  have ho := of_f h x
  refine fun_intro 12 Try.func157 rfl rfl rfl (fun ι F S w => ?_)
  (repeat (first | (apply v_assign; exact rfl; exact rfl) | refine run_seq ?_ | refine run_region ?_ | refine runL_nil ?_ | (apply v_boxD; exact rfl; exact rfl; exact rfl; exact rfl; exact rfl; exact rfl; exact rfl)))
  refine run_draws (by kernel_rfl) (by kernel_rfl) ?_
  (repeat (first | (apply p_cx; exact rfl; exact cbA rfl; (first | exact ho); exact rfl; exact rfl; exact rfl) | (apply p_move; exact rfl; exact rfl; exact rfl) | (apply p_assign; exact rfl; exact rfl; exact rfl) | (apply p_loadB; exact tyA rfl; exact rfl; exact rfl; exact rfl; exact rfl; exact rfl; exact rfl; exact rfl) | (apply p_eql; exact rfl; exact rfl; exact rfl; exact rfl)))
  refine planL_nil (by kernel_rfl) ?_
  skip
  exact run_ret idN _ Try.func157 ⟨_, _, rfl, rfl, rfl⟩ rfl ⟨rfl, rfl, trivial⟩ ⟨rfl, rfl, trivial⟩ rfl
theorem flat1_f (x : Int) (n : Nd) : Fun Try.prog 160 [.v (.int .i64 x), .agg (nodeL n)] [] (.v (.bool (n.kind == 2))) [] := by
  refine fun_intro 8 Try.func160 rfl rfl rfl (fun ι F S w => ?_)
  (repeat (first | (apply v_assign; exact rfl; exact rfl) | refine run_seq ?_ | refine run_region ?_ | refine runL_nil ?_ | (apply v_fldP; exact flA rfl; exact rfl; exact rfl; exact rfl) | (apply v_loadB; exact tyA rfl; exact rfl; exact rfl; exact rfl; exact rfl; exact rfl; exact rfl) | (apply v_eql; exact rfl; exact rfl; exact rfl) | (apply v_boxD; exact rfl; exact rfl; exact rfl; exact rfl; exact rfl; exact rfl; exact rfl)))
  exact run_ret idN _ Try.func160 ⟨_, _, rfl, rfl, rfl⟩ rfl trivial trivial rfl
def delC (l : List Nd) (s x : Int) : Bool := !((nodeAt l x).isSome && (ofM l x == s))
def delK (l : List Nd) (x : Int) : Bool := !((nodeAt l x).isSome && ((nodeR l x).kind == 2))
theorem pick1b_f {l : List Nd} (h : WF l) (s x : Int) : Fun Try.prog 184 [.v (.int .i64 x), .ptr 1 0, .ptr 2 0] [(1, .box 25 [forA l]), (2, .box 123 [.fn 157 [.ptr 3 0, .ptr 4 0]]), (3, .box 25 [forA l]), (4, .box 3 [.v (.int .i64 s)])] (.v (.bool (delC l s x))) [(1, .box 25 [forA l]), (2, .box 123 [.fn 157 [.ptr 3 0, .ptr 4 0]]), (3, .box 25 [forA l]), (4, .box 3 [.v (.int .i64 s)])] := by
  cases hx : nodeAt l x with
  | none =>
    rw [show delC l s x = true by rw [delC, hx]; rfl]
    refine fun_intro 22 Try.func184 rfl rfl rfl (fun ι F S w => ?_)
    (repeat (first | (apply v_cx; exact rfl; exact cbA rfl; (first | exact node_n h hx); exact rfl; exact rfl) | (apply v_move; exact rfl; exact rfl) | (apply v_assign; exact rfl; exact rfl) | refine run_seq ?_ | refine run_region ?_ | refine runL_nil ?_ | (apply v_extract; exact rfl; exact rfl; exact rfl) | (apply v_loadB; exact tyA rfl; exact rfl; exact rfl; exact rfl; exact rfl; exact rfl; exact rfl) | (apply v_off; exact rfl; exact rfl) | (apply v_pick_t; exact rfl; exact rfl; exact rfl) | (apply v_not; exact rfl; exact rfl) | (apply v_allocD; exact tyA rfl; exact rfl; exact rfl; exact rfl; exact rfl) | (apply v_storeW; exact tyA rfl; exact rfl; exact rfl; exact rfl; exact rfl; exact rfl; exact rfl; exact rfl)))
    exact run_ret idN _ Try.func184 ⟨_, _, rfl, rfl, rfl⟩ rfl ⟨rfl, rfl, rfl, rfl, trivial⟩ ⟨rfl, rfl, rfl, rfl, trivial⟩ rfl
  | some n =>
    rw [show delC l s x = !(ofM l x == s) by rw [delC, hx]; rfl]
    refine fun_intro 22 Try.func184 rfl rfl rfl (fun ι F S w => ?_)
    (repeat (first | (apply v_cx; exact rfl; exact cbA rfl; (first | exact node_s h hx); exact rfl; exact rfl) | (apply v_move; exact rfl; exact rfl) | (apply v_assign; exact rfl; exact rfl) | refine run_seq ?_ | refine run_region ?_ | refine runL_nil ?_ | (apply v_extract; exact rfl; exact rfl; exact rfl) | (apply v_loadB; exact tyA rfl; exact rfl; exact rfl; exact rfl; exact rfl; exact rfl; exact rfl) | (apply v_on; exact rfl) | (apply v_not; exact rfl; exact rfl) | (apply v_allocD; exact tyA rfl; exact rfl; exact rfl; exact rfl; exact rfl) | (apply v_storeW; exact tyA rfl; exact rfl; exact rfl; exact rfl; exact rfl; exact rfl; exact rfl; exact rfl)))
    refine v_cC (l := [.v (.int .i64 x), .agg (nodeL n)]) (cap := [.ptr 0 0, .ptr 1 0]) (mp [(0, 3), (1, 4)]) (asg1_f h s x n) rfl rfl (cbA rfl) ⟨rfl, rfl, trivial⟩ (by kernel_rfl) (by kernel_rfl) (by kernel_rfl) (by kernel_rfl) (by kernel_rfl) (by kernel_rfl) (by kernel_rfl) (by kernel_rfl) rfl ?_
    (repeat (first | (apply v_assign; exact rfl; exact rfl) | refine runL_nil ?_ | (apply v_on; exact rfl) | (apply v_pick_f; exact rfl; exact rfl; exact rfl) | (apply v_not; exact rfl; exact rfl)))
    exact run_ret idN _ Try.func184 ⟨_, _, rfl, rfl, rfl⟩ rfl ⟨rfl, rfl, rfl, rfl, trivial⟩ ⟨rfl, rfl, rfl, rfl, trivial⟩ rfl
theorem pick1c_f {l : List Nd} (h : WF l) (x : Int) : Fun Try.prog 184 [.v (.int .i64 x), .ptr 1 0, .ptr 2 0] [(1, .box 25 [forA l]), (2, .box 123 [.fn 160 []])] (.v (.bool (delK l x))) [(1, .box 25 [forA l]), (2, .box 123 [.fn 160 []])] := by
  cases hx : nodeAt l x with
  | none =>
    rw [show delK l x = true by rw [delK, hx]; rfl]
    refine fun_intro 22 Try.func184 rfl rfl rfl (fun ι F S w => ?_)
    (repeat (first | (apply v_cx; exact rfl; exact cbA rfl; (first | exact node_n h hx); exact rfl; exact rfl) | (apply v_move; exact rfl; exact rfl) | (apply v_assign; exact rfl; exact rfl) | refine run_seq ?_ | refine run_region ?_ | refine runL_nil ?_ | (apply v_extract; exact rfl; exact rfl; exact rfl) | (apply v_loadB; exact tyA rfl; exact rfl; exact rfl; exact rfl; exact rfl; exact rfl; exact rfl) | (apply v_off; exact rfl; exact rfl) | (apply v_pick_t; exact rfl; exact rfl; exact rfl) | (apply v_not; exact rfl; exact rfl) | (apply v_allocD; exact tyA rfl; exact rfl; exact rfl; exact rfl; exact rfl) | (apply v_storeW; exact tyA rfl; exact rfl; exact rfl; exact rfl; exact rfl; exact rfl; exact rfl; exact rfl)))
    exact run_ret idN _ Try.func184 ⟨_, _, rfl, rfl, rfl⟩ rfl ⟨rfl, rfl, trivial⟩ ⟨rfl, rfl, trivial⟩ rfl
  | some n =>
    rw [show delK l x = !(n.kind == 2) by rw [delK, hx, nodeR_some hx]; rfl]
    refine fun_intro 22 Try.func184 rfl rfl rfl (fun ι F S w => ?_)
    (repeat (first | (apply v_cx; exact rfl; exact cbA rfl; (first | exact node_s h hx); exact rfl; exact rfl) | (apply v_move; exact rfl; exact rfl) | (apply v_assign; exact rfl; exact rfl) | refine run_seq ?_ | refine run_region ?_ | refine runL_nil ?_ | (apply v_extract; exact rfl; exact rfl; exact rfl) | (apply v_loadB; exact tyA rfl; exact rfl; exact rfl; exact rfl; exact rfl; exact rfl; exact rfl) | (apply v_on; exact rfl) | (apply v_not; exact rfl; exact rfl) | (apply v_allocD; exact tyA rfl; exact rfl; exact rfl; exact rfl; exact rfl) | (apply v_storeW; exact tyA rfl; exact rfl; exact rfl; exact rfl; exact rfl; exact rfl; exact rfl; exact rfl)))
    refine v_cC (l := [.v (.int .i64 x), .agg (nodeL n)]) (cap := []) idN (flat1_f x n) rfl rfl (cbA rfl) trivial (by kernel_rfl) (by kernel_rfl) (by kernel_rfl) (by kernel_rfl) (by kernel_rfl) (by kernel_rfl) (by kernel_rfl) (by kernel_rfl) rfl ?_
    (repeat (first | (apply v_assign; exact rfl; exact rfl) | refine runL_nil ?_ | (apply v_on; exact rfl) | (apply v_pick_f; exact rfl; exact rfl; exact rfl) | (apply v_not; exact rfl; exact rfl)))
    exact run_ret idN _ Try.func184 ⟨_, _, rfl, rfl, rfl⟩ rfl ⟨rfl, rfl, trivial⟩ ⟨rfl, rfl, trivial⟩ rfl
theorem pickb_f {l : List Nd} (h : WF l) (s : Int) {xs : List Int} (hm : xs.length ≤ 1000000) : Fun Try.prog 156 [forA l, .sem (listS intE xs), .fn 157 [.ptr 50 0, .ptr 51 0]] [(50, .box 25 [forA l]), (51, .box 3 [.v (.int .i64 s)])] (.res 0) [(0, .obj (ownS 3 intE (xs.filter fun x => !(delC l s x)))), (50, .box 25 [forA l]), (51, .box 3 [.v (.int .i64 s)])] := by
  have hd := delfunc_b (l := l) (s := s) (p := delC l s) hm fun x _ => pick1b_f h s x
  refine fun_intro 11 Try.func156 rfl rfl rfl (fun ι F S w => ?_)
  (repeat (first | (apply v_cOx; exact rfl; exact cbA rfl; (first | exact clone_o hm); exact rfl; exact rfl; exact rfl; exact rfl; exact rfl) | (apply v_move; exact rfl; exact rfl) | (apply v_assign; exact rfl; exact rfl) | refine run_seq ?_ | refine run_region ?_ | refine runL_nil ?_ | (apply v_boxD; exact rfl; exact rfl; exact rfl; exact rfl; exact rfl; exact rfl; exact rfl) | (apply v_f; exact rfl; exact rfl)))
  refine v_cR (mp [(0, 8), (1, 3), (2, 5), (3, 50), (4, 51), (9, 60)]) hd rfl (cbA rfl) ⟨rfl, rfl, rfl, rfl, rfl, trivial⟩ (by kernel_rfl) (by kernel_rfl) (by kernel_rfl) (by kernel_rfl) (by kernel_rfl) (by kernel_rfl) (by kernel_rfl) (by kernel_rfl) rfl ?_
  (repeat (first | (apply v_assign; exact rfl; exact rfl) | refine runL_nil ?_))
  exact run_ret (mp [(0, 60)]) _ Try.func156 ⟨_, _, rfl, rfl, rfl⟩ rfl ⟨rfl, rfl, trivial⟩ ⟨rfl, rfl, rfl, trivial⟩ rfl
theorem pickc_f {l : List Nd} (h : WF l) {xs : List Int} (hm : xs.length ≤ 1000000) : Fun Try.prog 156 [forA l, .sem (listS intE xs), funV 160] [] (.res 0) [(0, .obj (ownS 3 intE (xs.filter fun x => !(delK l x))))] := by
  have hd := delfunc_c (l := l) (p := delK l) hm fun x _ => pick1c_f h x
  refine fun_intro 11 Try.func156 rfl rfl rfl (fun ι F S w => ?_)
  refine run_le 2 rfl (y := .fn 160 []) (le_fn _) ?_
  (repeat (first | (apply v_cOx; exact rfl; exact cbA rfl; (first | exact clone_o hm); exact rfl; exact rfl; exact rfl; exact rfl; exact rfl) | (apply v_move; exact rfl; exact rfl) | (apply v_assign; exact rfl; exact rfl) | refine run_seq ?_ | refine run_region ?_ | refine runL_nil ?_ | (apply v_boxD; exact rfl; exact rfl; exact rfl; exact rfl; exact rfl; exact rfl; exact rfl) | (apply v_f; exact rfl; exact rfl)))
  refine v_cR (mp [(0, 8), (1, 3), (2, 5), (9, 50)]) hd rfl (cbA rfl) ⟨rfl, rfl, rfl, trivial⟩ (by kernel_rfl) (by kernel_rfl) (by kernel_rfl) (by kernel_rfl) (by kernel_rfl) (by kernel_rfl) (by kernel_rfl) (by kernel_rfl) rfl ?_
  (repeat (first | (apply v_assign; exact rfl; exact rfl) | refine runL_nil ?_))
  exact run_ret (mp [(0, 50)]) _ Try.func156 ⟨_, _, rfl, rfl, rfl⟩ rfl trivial ⟨rfl, trivial⟩ rfl
def assignedM (l : List Nd) (s : Int) : List Int :=
  match nodeAt l (hostM l s) with
  | none => []
  | some h => h.kids.filter fun x => !(delC l s x)
theorem assigned_f {l : List Nd} (h : WF l) (s : Int) : Fun Try.prog 104 [forA l, .v (.int .i64 s)] [] (.res 0) [(0, .obj (ownS 3 intE (assignedM l s)))] := by
  have hr := root_f h s
  have hn := node_w h (rootM l s)
  have hh : hostM l s = (nodeR l (rootM l s)).host := rfl
  generalize nodeR l (rootM l s) = r at *
  generalize (nodeAt l (rootM l s)).isSome = ok at *
  generalize rootM l s = R at *
  cases hx : nodeAt l (hostM l s) with
  | none =>
    rw [show assignedM l s = [] by rw [assignedM, hx]]
    rw [hh] at hx
    refine fun_intro 31 Try.func104 rfl rfl rfl (fun ι F S w => ?_)
    (repeat (first | (apply v_assign; exact rfl; exact rfl) | refine run_seq ?_ | refine run_region ?_ | refine runL_nil ?_ | (apply v_boxD; exact rfl; exact rfl; exact rfl; exact rfl; exact rfl; exact rfl; exact rfl)))
    refine run_draws (by kernel_rfl) (by kernel_rfl) ?_
    (repeat (first | (apply p_cx; exact rfl; exact cbA rfl; (first | exact hr | exact hn); exact rfl; exact rfl; exact rfl) | (apply p_allocD; exact tyA rfl; exact rfl; exact rfl; exact rfl) | (apply p_move; exact rfl; exact rfl; exact rfl) | (apply p_assign; exact rfl; exact rfl; exact rfl) | (apply p_extract; exact rfl; exact rfl; exact rfl; exact rfl) | (apply p_loadB; exact tyA rfl; exact rfl; exact rfl; exact rfl; exact rfl; exact rfl; exact rfl; exact rfl) | (apply p_storeW; exact tyA rfl; exact rfl; exact rfl; exact rfl; exact rfl; exact rfl; exact rfl; exact rfl; exact rfl)))
    refine planL_nil (by kernel_rfl) ?_
    (repeat (first | (apply v_cx; exact rfl; exact cbA rfl; (first | exact node_n h hx); exact rfl; exact rfl) | (apply v_move; exact rfl; exact rfl) | (apply v_assign; exact rfl; exact rfl) | refine run_seq ?_ | refine run_region ?_ | refine runL_nil ?_ | (apply v_extract; exact rfl; exact rfl; exact rfl) | (apply v_fldP; exact flA rfl; exact rfl; exact rfl; exact rfl) | (apply v_loadB; exact tyA rfl; exact rfl; exact rfl; exact rfl; exact rfl; exact rfl; exact rfl) | (apply run_cond; exact rfl; rotate_left; (focus (intro hb; cases hb; done)); intro hb; clear hb) | (apply v_not; exact rfl; exact rfl) | (apply v_allocD; exact tyA rfl; exact rfl; exact rfl; exact rfl; exact rfl) | (apply v_storeW; exact tyA rfl; exact rfl; exact rfl; exact rfl; exact rfl; exact rfl; exact rfl; exact rfl)))
    refine run_own 4 4 3 intE rfl rfl rfl rfl ?_
    exact run_ret (mp [(0, 4)]) _ Try.func104 ⟨_, _, rfl, rfl, rfl⟩ rfl trivial ⟨rfl, trivial⟩ rfl
  | some n =>
    have ho : assignedM l s = n.kids.filter fun x => !(delC l s x) := by rw [assignedM, hx]
    have hkl := (kids_ok h _ n hx).1
    have hp := pickb_f h s hkl
    rw [ho]
    rw [hh] at hx
    refine fun_intro 31 Try.func104 rfl rfl rfl (fun ι F S w => ?_)
    (repeat (first | (apply v_assign; exact rfl; exact rfl) | refine run_seq ?_ | refine run_region ?_ | refine runL_nil ?_ | (apply v_boxD; exact rfl; exact rfl; exact rfl; exact rfl; exact rfl; exact rfl; exact rfl)))
    refine run_draws (by kernel_rfl) (by kernel_rfl) ?_
    (repeat (first | (apply p_cx; exact rfl; exact cbA rfl; (first | exact hr | exact hn); exact rfl; exact rfl; exact rfl) | (apply p_allocD; exact tyA rfl; exact rfl; exact rfl; exact rfl) | (apply p_move; exact rfl; exact rfl; exact rfl) | (apply p_assign; exact rfl; exact rfl; exact rfl) | (apply p_extract; exact rfl; exact rfl; exact rfl; exact rfl) | (apply p_loadB; exact tyA rfl; exact rfl; exact rfl; exact rfl; exact rfl; exact rfl; exact rfl; exact rfl) | (apply p_storeW; exact tyA rfl; exact rfl; exact rfl; exact rfl; exact rfl; exact rfl; exact rfl; exact rfl; exact rfl)))
    refine planL_nil (by kernel_rfl) ?_
    (repeat (first | (apply v_cx; exact rfl; exact cbA rfl; (first | exact node_s h hx); exact rfl; exact rfl) | (apply v_move; exact rfl; exact rfl) | (apply v_assign; exact rfl; exact rfl) | refine run_seq ?_ | refine run_region ?_ | refine runL_nil ?_ | refine run_skip ?_ | (apply v_extract; exact rfl; exact rfl; exact rfl) | (apply v_fldP; exact flA rfl; exact rfl; exact rfl; exact rfl) | (apply v_loadB; exact tyA rfl; exact rfl; exact rfl; exact rfl; exact rfl; exact rfl; exact rfl) | (apply run_cond; exact rfl; (focus (intro hb; cases hb; done)); intro hb; clear hb) | (apply v_not; exact rfl; exact rfl) | (apply v_allocD; exact tyA rfl; exact rfl; exact rfl; exact rfl; exact rfl) | (apply v_storeW; exact tyA rfl; exact rfl; exact rfl; exact rfl; exact rfl; exact rfl; exact rfl; exact rfl) | (apply v_f; exact rfl; exact rfl)))
    refine v_cR (mp [(50, 2), (51, 3), (0, 100)]) hp rfl (cbA rfl) ⟨rfl, rfl, trivial⟩ (by kernel_rfl) (by kernel_rfl) (by kernel_rfl) (by kernel_rfl) (by kernel_rfl) (by kernel_rfl) (by kernel_rfl) (by kernel_rfl) rfl ?_
    (repeat (first | (apply v_assign; exact rfl; exact rfl) | refine runL_nil ?_))
    exact run_ret (mp [(0, 100)]) _ Try.func104 ⟨_, _, rfl, rfl, rfl⟩ rfl trivial ⟨rfl, trivial⟩ rfl
theorem assigned_p {l : List Nd} (h : WF l) (s : Int) : Fun Try.prog 104 [forA l, .v (.int .i64 s)] [] (.sem (listS intE (assignedM l s))) [] := (assigned_f h s).freeze
end Go.Proofs.Ytjkidecaciomgaa
