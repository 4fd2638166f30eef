/- slices.IndexFunc, DeleteFunc; slot.Slots. -/
import Derived.Test.YtjkidecaciomgaaVL17
import Derived.Test.YtjkidecaciomgaaFoO
namespace Go.Proofs.Ytjkidecaciomgaa
set_option linter.unusedVariables false
set_option linter.unusedSimpArgs false
set_option maxRecDepth 100000
open Go.RowKit

def idxP (p : Int → Bool) (xs : List Int) : Int := if (xs.findIdx p) < xs.length then ((xs.findIdx p : Nat) : Int) else -1
theorem idxP_none {p : Int → Bool} {xs : List Int} (h : ∀ x ∈ xs, p x = false) : idxP p xs = -1 := by
  have : xs.findIdx p = xs.length := List.findIdx_eq_length.2 h
  rw [idxP, this, if_neg (by omega)]
theorem idxP_at {p : Int → Bool} {xs : List Int} {i : Nat} {v : Int} (hx : xs[i]? = some v) (h : p v = true) (hp : ∀ x ∈ xs.take i, p x = false) : idxP p xs = i := by
  obtain ⟨hi, e⟩ := List.getElem?_eq_some_iff.1 hx
  have : xs.findIdx p = i := by
    rw [List.findIdx_eq hi]
    refine ⟨by rw [e]; exact h, fun j hj => ?_⟩
    refine hp _ (List.mem_of_getElem? (i := j) ?_)
    rw [List.getElem?_take, if_pos hj]
    exact List.getElem?_eq_getElem _
  rw [idxP, this, if_pos hi]
theorem idxP_cases (p : Int → Bool) (xs : List Int) : (idxP p xs = -1 ∧ ∀ x ∈ xs, p x = false) ∨ ∃ i : Nat, idxP p xs = (i : Int) ∧ ∃ h : i < xs.length, p xs[i] = true ∧ ∀ x ∈ xs.take i, p x = false := by
  by_cases h : xs.findIdx p < xs.length
  · refine .inr ⟨xs.findIdx p, by rw [idxP, if_pos h], h, List.findIdx_getElem, fun x hx => ?_⟩
    obtain ⟨j, hj, e⟩ := List.getElem_of_mem hx
    rw [List.length_take] at hj
    rw [List.getElem_take] at e
    have := List.not_of_lt_findIdx (show j < xs.findIdx p by omega)
    rw [← e]
    simpa using this
  · refine .inl ⟨by rw [idxP, if_neg h], ?_⟩
    have : xs.findIdx p = xs.length := by have := List.findIdx_le_length (xs := xs) (p := p); omega
    exact List.findIdx_eq_length.1 this
theorem filter_none {p : Int → Bool} {xs : List Int} (h : ∀ x ∈ xs, p x = false) : xs.filter (fun x => !(p x)) = xs := List.filter_eq_self.2 fun x hx => by rw [h x hx]; rfl
theorem filter_first {p : Int → Bool} {xs : List Int} {i : Nat} (hi : i < xs.length) (h : p xs[i] = true) (hp : ∀ x ∈ xs.take i, p x = false) : xs.take i = (xs.take (i + 1)).filter (fun x => !(p x)) := by
  rw [List.take_add_one, List.filter_append, filter_none hp, List.getElem?_eq_getElem hi]
  simp [h]
theorem take_set {B : List Int} {i : Nat} {v : Int} (h : i < B.length) : (B.set i v).take (i + 1) = B.take i ++ [v] := by
  rw [List.take_add_one, List.getElem?_set, if_pos rfl, if_pos h]
  congr 1
  rw [List.take_set_of_le (Nat.le_refl _)]
theorem idxfunc_a {l : List Nd} {xs : List Int} {p : Int → Bool} (hm : xs.length ≤ 1000000) (hcf : ∀ x ∈ xs, Fun Try.prog 184 [.v (.int .i64 x), .ptr 1 0, .ptr 2 0] ([(1, .box 25 [forA l]), (2, .box 123 [.fn 158 []])]) (.v (.bool (p x))) ([(1, .box 25 [forA l]), (2, .box 123 [.fn 158 []])])) : Fun Try.prog 190 [.res 0, .fn 184 [.ptr 1 0, .ptr 2 0]] ((0, .obj (ownS 3 intE (xs))) :: [(1, .box 25 [forA l]), (2, .box 123 [.fn 158 []])]) (.v (.int .i64 (idxP p xs))) ((0, .obj (ownS 3 intE (xs))) :: [(1, .box 25 [forA l]), (2, .box 123 [.fn 158 []])]) := by
  refine fun_intro 19 Try.func190 rfl rfl rfl (fun ι F S w => ?_)
  (repeat (first | (apply v_move; exact rfl; exact rfl) | (apply v_assign; exact rfl; exact rfl) | refine run_seq ?_ | refine run_region ?_ | refine runL_nil ?_ | refine run_block ?_ | (apply v_lenO; exact slA rfl; exact rfl; exact rfl; exact rfl)))
  refine v_loop (fun i : Nat => ⟨[(0, .res 0), (1, .fn 184 [.ptr 1 0, .ptr 2 0]), (7, .v (.int .i64 xs.length)), (8, .v (.int .i64 i))], ((0, .obj (ownS 3 intE (xs))) :: [(1, .box 25 [forA l]), (2, .box 123 [.fn 158 []])])⟩) (fun i => i ≤ xs.length ∧ ∀ x ∈ xs.take i, p x = false) (fun i => xs.length - i) 0 idN ⟨rfl, rfl, rfl, trivial⟩ (by repeat (first | exact trivial | refine ⟨rfl, ?_⟩)) ⟨rfl, rfl, rfl, trivial⟩ rfl ⟨by omega, fun x hx => by simp at hx⟩ fun i ⟨hi, hp⟩ ih => ?_
  (repeat (first | refine run_seq ?_ | refine run_region ?_ | refine runL_nil ?_ | (apply v_lss; exact rfl; exact rfl; exact rfl)))
  refine run_cond rfl (fun hb => ?_) (fun hb => ?_)
  · have hlt : i < xs.length := by simpa using hb
    have hx : xs[i]? = some xs[i] := List.getElem?_eq_getElem hlt
    have hc := hcf xs[i] (List.getElem_mem hlt)
    have hst : xs.take (i + 1) = xs.take i ++ [xs[i]] := by rw [List.take_add_one, hx]; rfl
    have hidx : p xs[i] = true → idxP p xs = (i : Int) := fun h => idxP_at hx h hp
    generalize xs[i] = v at *
    (repeat (first | (apply v_idxO; exact slA rfl; exact tyA rfl; exact rfl; exact rfl; exact rfl; exact rfl; exact (by omega); exact (by omega); exact rfl) | (apply v_move; exact rfl; exact rfl) | (apply v_assign; exact rfl; exact rfl) | refine run_seq ?_ | refine run_region ?_ | refine runL_nil ?_ | refine run_skip ?_ | refine run_block ?_))
    refine v_loadO (f := 0) (j := i) (tyA rfl) rfl rfl rfl rfl hx (by decide) rfl rfl ?_
    skip
    refine v_cC (l := [.v (.int .i64 v)]) (cap := [.ptr 1 0, .ptr 2 0]) idN hc rfl rfl (cbA rfl) ⟨rfl, rfl, trivial⟩ (by kernel_rfl) (by kernel_rfl) (by kernel_rfl) (by kernel_rfl) (by kernel_rfl) (by kernel_rfl) (by kernel_rfl) (by kernel_rfl) rfl ?_
    (repeat (first | refine runL_nil ?_))
    refine run_cond rfl (fun hb => ?_) (fun hb => ?_)
    · have hpv : p v = true := hb
      rw [hidx hpv]
      (repeat (first | (apply v_move; exact rfl; exact rfl) | (apply v_assign; exact rfl; exact rfl) | refine run_seq ?_ | refine run_region ?_ | refine runL_nil ?_))
      exact run_ret idN _ Try.func190 ⟨_, _, rfl, rfl, rfl⟩ rfl ⟨rfl, rfl, rfl, trivial⟩ ⟨rfl, rfl, rfl, trivial⟩ rfl
    · have hpv : p v = false := hb
      (repeat (first | (apply v_move; exact rfl; exact rfl) | refine run_region ?_ | refine runL_nil ?_ | refine run_skip ?_ | refine run_inBlock ?_ | (apply v_add; exact rfl; exact rfl; exact rfl; exact (by omega))))
      exact v_again ih (i + 1) idN ⟨rfl, rfl, rfl, trivial⟩ (by repeat (first | exact trivial | refine ⟨rfl, ?_⟩)) ⟨rfl, rfl, rfl, trivial⟩ rfl ⟨by omega, fun x hx => by
        rw [hst] at hx
        rcases List.mem_append.1 hx with hx | hx
        · exact hp x hx
        · rw [List.mem_singleton] at hx; rw [hx]; exact hpv⟩ (by omega)
  · have hge : i = xs.length := by have : ¬ i < xs.length := (by simpa using hb); omega
    rw [hge, List.take_length] at hp
    rw [idxP_none hp]
    (repeat (first | (apply v_assign; exact rfl; exact rfl) | refine run_seq ?_ | refine run_region ?_ | refine runL_nil ?_ | (apply run_exit; exact rfl)))
    exact run_ret idN _ Try.func190 ⟨_, _, rfl, rfl, rfl⟩ rfl ⟨rfl, rfl, rfl, trivial⟩ ⟨rfl, rfl, rfl, trivial⟩ rfl
theorem delfunc_a {l : List Nd} {xs : List Int} {p : Int → Bool} (hm : xs.length ≤ 1000000) (hcf : ∀ x ∈ xs, Fun Try.prog 184 [.v (.int .i64 x), .ptr 1 0, .ptr 2 0] ([(1, .box 25 [forA l]), (2, .box 123 [.fn 158 []])]) (.v (.bool (p x))) ([(1, .box 25 [forA l]), (2, .box 123 [.fn 158 []])])) : Fun Try.prog 183 [.res 0, .fn 184 [.ptr 1 0, .ptr 2 0]] ((0, .obj (ownS 3 intE (xs))) :: [(1, .box 25 [forA l]), (2, .box 123 [.fn 158 []])]) (.res 9) ((9, .obj (ownS 3 intE (xs.filter (fun x => !(p x))))) :: [(1, .box 25 [forA l]), (2, .box 123 [.fn 158 []])]) := by
  have hif := idxfunc_a (p := p) hm hcf
  rcases idxP_cases p xs with ⟨hi, hall⟩ | ⟨i0, hi, hlt0, hp0, hall⟩
  · rw [hi] at hif
    refine fun_intro 42 Try.func183 rfl rfl rfl (fun ι F S w => ?_)
    (repeat (first | (apply v_move; exact rfl; exact rfl) | (apply v_assign; exact rfl; exact rfl) | refine run_seq ?_ | refine run_region ?_ | refine runL_nil ?_))
    refine v_cR idN hif rfl (cbA rfl) ⟨rfl, rfl, rfl, trivial⟩ (by kernel_rfl) (by kernel_rfl) (by kernel_rfl) (by kernel_rfl) (by kernel_rfl) (by kernel_rfl) (by kernel_rfl) (by kernel_rfl) rfl ?_
    (repeat (first | (apply v_move; exact rfl; exact rfl) | (apply v_assign; exact rfl; exact rfl) | refine run_seq ?_ | refine run_region ?_ | refine runL_nil ?_ | (apply run_cond; exact rfl; rotate_left; (focus (intro hb; cases hb; done)); intro hb; clear hb) | (apply v_eql; exact rfl; exact rfl; exact rfl)))
    exact run_ret (mp [(9, 0)]) _ Try.func183 ⟨_, _, rfl, rfl, rfl⟩ rfl ⟨rfl, rfl, rfl, trivial⟩ ⟨by rw [filter_none hall]; rfl, rfl, rfl, trivial⟩ rfl
  · rw [hi] at hif
    refine fun_intro 42 Try.func183 rfl rfl rfl (fun ι F S w => ?_)
    (repeat (first | (apply v_move; exact rfl; exact rfl) | (apply v_assign; exact rfl; exact rfl) | refine run_seq ?_ | refine run_region ?_ | refine runL_nil ?_))
    refine v_cR idN hif rfl (cbA rfl) ⟨rfl, rfl, rfl, trivial⟩ (by kernel_rfl) (by kernel_rfl) (by kernel_rfl) (by kernel_rfl) (by kernel_rfl) (by kernel_rfl) (by kernel_rfl) (by kernel_rfl) rfl ?_
    (repeat (first | (apply v_move; exact rfl; exact rfl) | (apply v_assign; exact rfl; exact rfl) | refine run_seq ?_ | refine run_region ?_ | refine runL_nil ?_ | refine run_skip ?_ | refine run_block ?_ | (apply run_cond; exact rfl; (focus (intro hb; cases hb; done)); intro hb; clear hb) | (apply v_eql; exact rfl; exact rfl; exact rfl) | (apply v_add; exact rfl; exact rfl; exact rfl; exact (by omega))))
    refine v_loop (fun q : Nat × Nat × List Int => ⟨[(0, .res 0), (1, .fn 184 [.ptr 1 0, .ptr 2 0]), (5, .v (.int .i64 q.1)), (6, .v (.int .i64 q.2.1))], ((0, .obj (ownS 3 intE (q.2.2))) :: [(1, .box 25 [forA l]), (2, .box 123 [.fn 158 []])])⟩) (fun q => q.1 < q.2.1 ∧ q.2.1 ≤ xs.length ∧ q.2.2.length = xs.length ∧ q.2.2.take q.1 = (xs.take q.2.1).filter (fun x => !(p x)) ∧ q.2.2.drop q.2.1 = xs.drop q.2.1) (fun q => xs.length - q.2.1) (i0, i0 + 1, xs) idN ⟨rfl, rfl, rfl, trivial⟩ (by repeat (first | exact trivial | refine ⟨rfl, ?_⟩)) ⟨rfl, rfl, rfl, trivial⟩ rfl ⟨by dsimp only; omega, by dsimp only; omega, rfl, filter_first hlt0 hp0 hall, rfl⟩ fun ⟨i, j, B⟩ ⟨hij, hj, hB, hT, hD⟩ ih => ?_
    dsimp only at hij hj hB hT hD ⊢
    (repeat (first | (apply v_move; exact rfl; exact rfl) | refine run_seq ?_ | refine run_region ?_ | refine runL_nil ?_ | (apply v_lss; exact rfl; exact rfl; exact rfl) | (apply v_lenO; exact slA rfl; exact rfl; exact rfl; exact rfl)))
    refine run_cond rfl (fun hb => ?_) (fun hb => ?_)
    · have hlt : j < xs.length := by have := (by simpa using hb : j < B.length); omega
      have hBj : B[j]? = some xs[j] := by
        have : (B.drop j)[0]? = (xs.drop j)[0]? := by rw [hD]
        rw [List.getElem?_drop, List.getElem?_drop, Nat.add_zero] at this
        rw [this]
        exact List.getElem?_eq_getElem hlt
      have hc := hcf xs[j] (List.getElem_mem hlt)
      have hst : (xs.take (j + 1)).filter (fun x => !(p x)) = (xs.take j).filter (fun x => !(p x)) ++ (if p xs[j] = true then [] else [xs[j]]) := by
        rw [List.take_add_one, List.filter_append, List.getElem?_eq_getElem hlt]
        congr 1
        simp only [Option.toList_some, List.filter_cons, List.filter_nil]
        cases p xs[j] <;> rfl
      have hD2 : ∀ C : List Int, C.drop j = xs.drop j → C.drop (j + 1) = xs.drop (j + 1) := fun C hC => by
        have e : ∀ ys : List Int, ys.drop (j + 1) = (ys.drop j).drop 1 := fun ys => by rw [List.drop_drop]
        rw [e, e, hC]
      generalize xs[j] = v at *
      obtain ⟨bi, hBi⟩ : ∃ bi, B[i]? = some bi := ⟨_, List.getElem?_eq_getElem (show i < B.length by omega)⟩
      (repeat (first | (apply v_idxO; exact slA rfl; exact tyA rfl; exact rfl; exact rfl; exact rfl; exact rfl; exact (by omega); exact (by omega); exact rfl) | (apply v_move; exact rfl; exact rfl) | refine run_seq ?_ | refine run_region ?_ | refine run_skip ?_ | refine run_block ?_))
      refine v_loadO (f := 0) (j := j) (tyA rfl) rfl rfl rfl rfl hBj (by decide) rfl rfl ?_
      (repeat (first | (apply v_move; exact rfl; exact rfl) | (apply v_assign; exact rfl; exact rfl) | refine run_seq ?_ | refine run_region ?_ | refine runL_nil ?_))
      refine v_cC (l := [.v (.int .i64 v)]) (cap := [.ptr 1 0, .ptr 2 0]) idN hc rfl rfl (cbA rfl) ⟨rfl, rfl, trivial⟩ (by kernel_rfl) (by kernel_rfl) (by kernel_rfl) (by kernel_rfl) (by kernel_rfl) (by kernel_rfl) (by kernel_rfl) (by kernel_rfl) rfl ?_
      (repeat (first | refine runL_nil ?_ | (apply v_not; exact rfl; exact rfl)))
      refine run_cond rfl (fun hb => ?_) (fun hb => ?_)
      · have hpv : p v = false := by simpa using hb
        rw [hpv, if_neg (by simp)] at hst
        (repeat (first | (apply v_idxO; exact slA rfl; exact tyA rfl; exact rfl; exact rfl; exact rfl; exact rfl; exact (by omega); exact (by omega); exact rfl) | (apply v_move; exact rfl; exact rfl) | refine run_seq ?_ | refine run_region ?_))
        refine v_storeO (f := 0) (j := i) v (tyA rfl) rfl rfl rfl rfl hBi rfl rfl (by decide) rfl rfl ?_
        (repeat (first | (apply v_move; exact rfl; exact rfl) | (apply v_assign; exact rfl; exact rfl) | refine run_region ?_ | refine runL_nil ?_ | refine run_inBlock ?_ | (apply v_add; exact rfl; exact rfl; exact rfl; exact (by omega))))
        exact v_again ih (i + 1, j + 1, B.set i v) idN ⟨rfl, rfl, rfl, trivial⟩ (by repeat (first | exact trivial | refine ⟨rfl, ?_⟩)) ⟨rfl, rfl, rfl, trivial⟩ rfl ⟨by dsimp only; omega, by dsimp only; omega, by dsimp only; rw [List.length_set]; exact hB, by
          dsimp only
          rw [hst, ← hT]
          exact take_set (by omega), by
          dsimp only
          refine hD2 _ ?_
          rw [List.drop_set_of_lt (by omega)]
          exact hD⟩ (by dsimp only; omega)
      · have hpv : p v = true := by simpa using hb
        rw [hpv, if_pos rfl, List.append_nil] at hst
        (repeat (first | (apply v_move; exact rfl; exact rfl) | (apply v_assign; exact rfl; exact rfl) | refine run_region ?_ | refine runL_nil ?_ | refine run_skip ?_ | refine run_inBlock ?_ | (apply v_add; exact rfl; exact rfl; exact rfl; exact (by omega))))
        exact v_again ih (i, j + 1, B) idN ⟨rfl, rfl, rfl, trivial⟩ (by repeat (first | exact trivial | refine ⟨rfl, ?_⟩)) ⟨rfl, rfl, rfl, trivial⟩ rfl ⟨by dsimp only; omega, by dsimp only; omega, hB, by dsimp only; rw [hst]; exact hT, hD2 B hD⟩ (by dsimp only; omega)
    · have hge : j = xs.length := by have : ¬ j < B.length := (by simpa using hb); omega
      rw [hge, List.take_length] at hT
      have hne : B ≠ [] := fun e => by rw [e] at hB; simp at hB; omega
      clear ih
      (repeat (first | (apply v_move; exact rfl; exact rfl) | refine run_seq ?_ | refine run_region ?_ | (apply run_exit; exact rfl)))
      refine runL_row 36 0 rfl rfl hne fun b cap hcap => ?_
      refine v_fromV (slA rfl) (tyA rfl) rfl rfl rfl (by omega) (by omega) hcap rfl ?_
      refine v_clearU (g := 0) (cap := cap) (xs := B) (slA rfl) (by kernel_rfl) rfl rfl (tyA rfl) (by omega) (by omega) ?_
      (repeat (first | (apply v_move; exact rfl; exact rfl) | refine run_seq ?_ | refine run_region ?_ | refine runL_nil ?_))
      refine runL_row2 39 0 rfl rfl ?_
      refine v_toV (slA rfl) (tyA rfl) rfl rfl (by omega) (by omega) rfl ?_
      (repeat (first | (apply v_assign; exact rfl; exact rfl) | refine runL_nil ?_))
      have hz : (B.take (0 + ((i : Nat) : Int).toNat) ++ List.replicate (B.length - ((i : Nat) : Int).toNat) 0).length = B.length := by simp; omega
      refine run_unrow (xs := B.take (0 + ((i : Nat) : Int).toNat) ++ List.replicate (B.length - ((i : Nat) : Int).toNat) 0) 4 0 50 ((i : Nat) : Int).toNat rfl (by rw [hz]; rfl) (by intro e; rw [e] at hz; simp at hz; omega) (by rw [hz]; omega) rfl rfl rfl ?_
      have hfin : (B.take (0 + ((i : Nat) : Int).toNat) ++ List.replicate (B.length - ((i : Nat) : Int).toNat) 0).take ((i : Nat) : Int).toNat = xs.filter (fun x => !(p x)) := by
        rw [show 0 + ((i : Nat) : Int).toNat = i by omega, show ((i : Nat) : Int).toNat = i by omega, ← hT, List.take_append_of_le_length (by simp; omega), List.take_take, Nat.min_self]
      rw [hfin]
      exact run_ret (mp [(9, 50)]) _ Try.func183 ⟨_, _, rfl, rfl, rfl⟩ rfl ⟨rfl, rfl, rfl, trivial⟩ ⟨rfl, rfl, rfl, trivial⟩ rfl
end Go.Proofs.Ytjkidecaciomgaa
