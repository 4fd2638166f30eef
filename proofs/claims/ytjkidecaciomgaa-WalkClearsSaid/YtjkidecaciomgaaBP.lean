/- Sl1, Sl2, FoP, Pa1, Pa2, FoP2, FoP3. -/
import Derived.Test.YtjkidecaciomgaaVL17
import Derived.Test.YtjkidecaciomgaaFoO
import Derived.Test.YtjkidecaciomgaaSh2
/- slices.IndexFunc, DeleteFunc; slot.Slots. -/
namespace Go.Proofs.Ytjkidecaciomgaa
set_option linter.unusedVariables false
set_option linter.unusedSimpArgs false
set_option maxRecDepth 100000
open Go.RowKit

def idxP (p : Int → Bool) (xs : List Int) : Int := if (xs.findIdx p) < xs.length then ((xs.findIdx p : Nat) : Int) else -1
theorem idxP_none {p : Int → Bool} {xs : List Int} (h : ∀ x ∈ xs, p x = false) : idxP p xs = -1 := by
  have : xs.findIdx p = xs.length := List.findIdx_eq_length.2 h
  rw [idxP, this, if_neg (by omega)]
theorem idxP_at {p : Int → Bool} {xs : List Int} {i : Nat} {v : Int} (hx : xs[i]? = some v) (h : p v = true) (hp : ∀ x ∈ xs.take i, p x = false) : idxP p xs = i := by
  obtain ⟨hi, e⟩ := List.getElem?_eq_some_iff.1 hx
  have : xs.findIdx p = i := by
    rw [List.findIdx_eq hi]
    refine ⟨by rw [e]; exact h, fun j hj => ?_⟩
    refine hp _ (List.mem_of_getElem? (i := j) ?_)
    rw [List.getElem?_take, if_pos hj]
    exact List.getElem?_eq_getElem _
  rw [idxP, this, if_pos hi]
theorem idxP_cases (p : Int → Bool) (xs : List Int) : (idxP p xs = -1 ∧ ∀ x ∈ xs, p x = false) ∨ ∃ i : Nat, idxP p xs = (i : Int) ∧ ∃ h : i < xs.length, p xs[i] = true ∧ ∀ x ∈ xs.take i, p x = false := by
  by_cases h : xs.findIdx p < xs.length
  · refine .inr ⟨xs.findIdx p, by rw [idxP, if_pos h], h, List.findIdx_getElem, fun x hx => ?_⟩
    obtain ⟨j, hj, e⟩ := List.getElem_of_mem hx
    rw [List.length_take] at hj
    rw [List.getElem_take] at e
    have := List.not_of_lt_findIdx (show j < xs.findIdx p by omega)
    rw [← e]
    simpa using this
  · refine .inl ⟨by rw [idxP, if_neg h], ?_⟩
    have : xs.findIdx p = xs.length := by have := List.findIdx_le_length (xs := xs) (p := p); omega
    exact List.findIdx_eq_length.1 this
theorem filter_none {p : Int → Bool} {xs : List Int} (h : ∀ x ∈ xs, p x = false) : xs.filter (fun x => !(p x)) = xs := List.filter_eq_self.2 fun x hx => by rw [h x hx]; rfl
theorem filter_first {p : Int → Bool} {xs : List Int} {i : Nat} (hi : i < xs.length) (h : p xs[i] = true) (hp : ∀ x ∈ xs.take i, p x = false) : xs.take i = (xs.take (i + 1)).filter (fun x => !(p x)) := by
  rw [List.take_add_one, List.filter_append, filter_none hp, List.getElem?_eq_getElem hi]
  simp [h]
theorem take_set {B : List Int} {i : Nat} {v : Int} (h : i < B.length) : (B.set i v).take (i + 1) = B.take i ++ [v] := by
  rw [List.take_add_one, List.getElem?_set, if_pos rfl, if_pos h]
  congr 1
  rw [List.take_set_of_le (Nat.le_refl _)]
theorem idxfunc_a {l : List Nd} {xs : List Int} {p : Int → Bool} (hm : xs.length ≤ 1000000) (hcf : ∀ x ∈ xs, Fun Try.prog 184 [.v (.int .i64 x), .ptr 1 0, .ptr 2 0] ([(1, .box 25 [forA l]), (2, .box 123 [.fn 158 []])]) (.v (.bool (p x))) ([(1, .box 25 [forA l]), (2, .box 123 [.fn 158 []])])) : Fun Try.prog 190 [.res 0, .fn 184 [.ptr 1 0, .ptr 2 0]] ((0, .obj (ownS 3 intE (xs))) :: [(1, .box 25 [forA l]), (2, .box 123 [.fn 158 []])]) (.v (.int .i64 (idxP p xs))) ((0, .obj (ownS 3 intE (xs))) :: [(1, .box 25 [forA l]), (2, .box 123 [.fn 158 []])]) := by
  refine fun_intro 19 Try.func190 rfl rfl rfl (fun ι F S w => ?_)
  (repeat (first | (apply v_move; exact rfl; exact rfl) | (apply v_assign; exact rfl; exact rfl) | refine run_seq ?_ | refine run_region ?_ | refine runL_nil ?_ | refine run_block ?_ | (apply v_lenO; exact slA rfl; exact rfl; exact rfl; exact rfl)))
  refine v_loop (fun i : Nat => ⟨[(0, .res 0), (1, .fn 184 [.ptr 1 0, .ptr 2 0]), (7, .v (.int .i64 xs.length)), (8, .v (.int .i64 i))], ((0, .obj (ownS 3 intE (xs))) :: [(1, .box 25 [forA l]), (2, .box 123 [.fn 158 []])])⟩) (fun i => i ≤ xs.length ∧ ∀ x ∈ xs.take i, p x = false) (fun i => xs.length - i) 0 idN ⟨rfl, rfl, rfl, trivial⟩ (by repeat (first | exact trivial | refine ⟨rfl, ?_⟩)) ⟨rfl, rfl, rfl, trivial⟩ rfl ⟨by omega, fun x hx => by simp at hx⟩ fun i ⟨hi, hp⟩ ih => ?_
  (repeat (first | refine run_seq ?_ | refine run_region ?_ | refine runL_nil ?_ | (apply v_lss; exact rfl; exact rfl; exact rfl)))
  refine run_cond rfl (fun hb => ?_) (fun hb => ?_)
  · have hlt : i < xs.length := by simpa using hb
    have hx : xs[i]? = some xs[i] := List.getElem?_eq_getElem hlt
    have hc := hcf xs[i] (List.getElem_mem hlt)
    have hst : xs.take (i + 1) = xs.take i ++ [xs[i]] := by rw [List.take_add_one, hx]; rfl
    have hidx : p xs[i] = true → idxP p xs = (i : Int) := fun h => idxP_at hx h hp
    generalize xs[i] = v at *
    (repeat (first | (apply v_idxO; exact slA rfl; exact tyA rfl; exact rfl; exact rfl; exact rfl; exact rfl; exact (by omega); exact (by omega); exact rfl) | (apply v_move; exact rfl; exact rfl) | (apply v_assign; exact rfl; exact rfl) | refine run_seq ?_ | refine run_region ?_ | refine runL_nil ?_ | refine run_skip ?_ | refine run_block ?_))
    refine v_loadO (f := 0) (j := i) (tyA rfl) rfl rfl rfl rfl hx (by decide) rfl rfl ?_
    skip
    refine v_cC (l := [.v (.int .i64 v)]) (cap := [.ptr 1 0, .ptr 2 0]) idN hc rfl rfl (cbA rfl) ⟨rfl, rfl, trivial⟩ (by kernel_rfl) (by kernel_rfl) (by kernel_rfl) (by kernel_rfl) (by kernel_rfl) (by kernel_rfl) (by kernel_rfl) (by kernel_rfl) rfl ?_
    (repeat (first | refine runL_nil ?_))
    refine run_cond rfl (fun hb => ?_) (fun hb => ?_)
    · have hpv : p v = true := hb
      rw [hidx hpv]
      (repeat (first | (apply v_move; exact rfl; exact rfl) | (apply v_assign; exact rfl; exact rfl) | refine run_seq ?_ | refine run_region ?_ | refine runL_nil ?_))
      exact run_ret idN _ Try.func190 ⟨_, _, rfl, rfl, rfl⟩ rfl ⟨rfl, rfl, rfl, trivial⟩ ⟨rfl, rfl, rfl, trivial⟩ rfl
    · have hpv : p v = false := hb
      (repeat (first | (apply v_move; exact rfl; exact rfl) | refine run_region ?_ | refine runL_nil ?_ | refine run_skip ?_ | refine run_inBlock ?_ | (apply v_add; exact rfl; exact rfl; exact rfl; exact (by omega))))
      exact v_again ih (i + 1) idN ⟨rfl, rfl, rfl, trivial⟩ (by repeat (first | exact trivial | refine ⟨rfl, ?_⟩)) ⟨rfl, rfl, rfl, trivial⟩ rfl ⟨by omega, fun x hx => by
        rw [hst] at hx
        rcases List.mem_append.1 hx with hx | hx
        · exact hp x hx
        · rw [List.mem_singleton] at hx; rw [hx]; exact hpv⟩ (by omega)
  · have hge : i = xs.length := by have : ¬ i < xs.length := (by simpa using hb); omega
    rw [hge, List.take_length] at hp
    rw [idxP_none hp]
    (repeat (first | (apply v_assign; exact rfl; exact rfl) | refine run_seq ?_ | refine run_region ?_ | refine runL_nil ?_ | (apply run_exit; exact rfl)))
    exact run_ret idN _ Try.func190 ⟨_, _, rfl, rfl, rfl⟩ rfl ⟨rfl, rfl, rfl, trivial⟩ ⟨rfl, rfl, rfl, trivial⟩ rfl
theorem delfunc_a {l : List Nd} {xs : List Int} {p : Int → Bool} (hm : xs.length ≤ 1000000) (hcf : ∀ x ∈ xs, Fun Try.prog 184 [.v (.int .i64 x), .ptr 1 0, .ptr 2 0] ([(1, .box 25 [forA l]), (2, .box 123 [.fn 158 []])]) (.v (.bool (p x))) ([(1, .box 25 [forA l]), (2, .box 123 [.fn 158 []])])) : Fun Try.prog 183 [.res 0, .fn 184 [.ptr 1 0, .ptr 2 0]] ((0, .obj (ownS 3 intE (xs))) :: [(1, .box 25 [forA l]), (2, .box 123 [.fn 158 []])]) (.res 9) ((9, .obj (ownS 3 intE (xs.filter (fun x => !(p x))))) :: [(1, .box 25 [forA l]), (2, .box 123 [.fn 158 []])]) := by
  have hif := idxfunc_a (p := p) hm hcf
  rcases idxP_cases p xs with ⟨hi, hall⟩ | ⟨i0, hi, hlt0, hp0, hall⟩
  · rw [hi] at hif
    refine fun_intro 42 Try.func183 rfl rfl rfl (fun ι F S w => ?_)
    (repeat (first | (apply v_move; exact rfl; exact rfl) | (apply v_assign; exact rfl; exact rfl) | refine run_seq ?_ | refine run_region ?_ | refine runL_nil ?_))
    refine v_cR idN hif rfl (cbA rfl) ⟨rfl, rfl, rfl, trivial⟩ (by kernel_rfl) (by kernel_rfl) (by kernel_rfl) (by kernel_rfl) (by kernel_rfl) (by kernel_rfl) (by kernel_rfl) (by kernel_rfl) rfl ?_
    (repeat (first | (apply v_move; exact rfl; exact rfl) | (apply v_assign; exact rfl; exact rfl) | refine run_seq ?_ | refine run_region ?_ | refine runL_nil ?_ | (apply run_cond; exact rfl; rotate_left; (focus (intro hb; cases hb; done)); intro hb; clear hb) | (apply v_eql; exact rfl; exact rfl; exact rfl)))
    exact run_ret (mp [(9, 0)]) _ Try.func183 ⟨_, _, rfl, rfl, rfl⟩ rfl ⟨rfl, rfl, rfl, trivial⟩ ⟨by rw [filter_none hall]; rfl, rfl, rfl, trivial⟩ rfl
  · rw [hi] at hif
    refine fun_intro 42 Try.func183 rfl rfl rfl (fun ι F S w => ?_)
    (repeat (first | (apply v_move; exact rfl; exact rfl) | (apply v_assign; exact rfl; exact rfl) | refine run_seq ?_ | refine run_region ?_ | refine runL_nil ?_))
    refine v_cR idN hif rfl (cbA rfl) ⟨rfl, rfl, rfl, trivial⟩ (by kernel_rfl) (by kernel_rfl) (by kernel_rfl) (by kernel_rfl) (by kernel_rfl) (by kernel_rfl) (by kernel_rfl) (by kernel_rfl) rfl ?_
    (repeat (first | (apply v_move; exact rfl; exact rfl) | (apply v_assign; exact rfl; exact rfl) | refine run_seq ?_ | refine run_region ?_ | refine runL_nil ?_ | refine run_skip ?_ | refine run_block ?_ | (apply run_cond; exact rfl; (focus (intro hb; cases hb; done)); intro hb; clear hb) | (apply v_eql; exact rfl; exact rfl; exact rfl) | (apply v_add; exact rfl; exact rfl; exact rfl; exact (by omega))))
    refine v_loop (fun q : Nat × Nat × List Int => ⟨[(0, .res 0), (1, .fn 184 [.ptr 1 0, .ptr 2 0]), (5, .v (.int .i64 q.1)), (6, .v (.int .i64 q.2.1))], ((0, .obj (ownS 3 intE (q.2.2))) :: [(1, .box 25 [forA l]), (2, .box 123 [.fn 158 []])])⟩) (fun q => q.1 < q.2.1 ∧ q.2.1 ≤ xs.length ∧ q.2.2.length = xs.length ∧ q.2.2.take q.1 = (xs.take q.2.1).filter (fun x => !(p x)) ∧ q.2.2.drop q.2.1 = xs.drop q.2.1) (fun q => xs.length - q.2.1) (i0, i0 + 1, xs) idN ⟨rfl, rfl, rfl, trivial⟩ (by repeat (first | exact trivial | refine ⟨rfl, ?_⟩)) ⟨rfl, rfl, rfl, trivial⟩ rfl ⟨by dsimp only; omega, by dsimp only; omega, rfl, filter_first hlt0 hp0 hall, rfl⟩ fun ⟨i, j, B⟩ ⟨hij, hj, hB, hT, hD⟩ ih => ?_
    dsimp only at hij hj hB hT hD ⊢
    (repeat (first | (apply v_move; exact rfl; exact rfl) | refine run_seq ?_ | refine run_region ?_ | refine runL_nil ?_ | (apply v_lss; exact rfl; exact rfl; exact rfl) | (apply v_lenO; exact slA rfl; exact rfl; exact rfl; exact rfl)))
    refine run_cond rfl (fun hb => ?_) (fun hb => ?_)
    · have hlt : j < xs.length := by have := (by simpa using hb : j < B.length); omega
      have hBj : B[j]? = some xs[j] := by
        have : (B.drop j)[0]? = (xs.drop j)[0]? := by rw [hD]
        rw [List.getElem?_drop, List.getElem?_drop, Nat.add_zero] at this
        rw [this]
        exact List.getElem?_eq_getElem hlt
      have hc := hcf xs[j] (List.getElem_mem hlt)
      have hst : (xs.take (j + 1)).filter (fun x => !(p x)) = (xs.take j).filter (fun x => !(p x)) ++ (if p xs[j] = true then [] else [xs[j]]) := by
        rw [List.take_add_one, List.filter_append, List.getElem?_eq_getElem hlt]
        congr 1
        simp only [Option.toList_some, List.filter_cons, List.filter_nil]
        cases p xs[j] <;> rfl
      have hD2 : ∀ C : List Int, C.drop j = xs.drop j → C.drop (j + 1) = xs.drop (j + 1) := fun C hC => by
        have e : ∀ ys : List Int, ys.drop (j + 1) = (ys.drop j).drop 1 := fun ys => by rw [List.drop_drop]
        rw [e, e, hC]
      generalize xs[j] = v at *
      obtain ⟨bi, hBi⟩ : ∃ bi, B[i]? = some bi := ⟨_, List.getElem?_eq_getElem (show i < B.length by omega)⟩
      (repeat (first | (apply v_idxO; exact slA rfl; exact tyA rfl; exact rfl; exact rfl; exact rfl; exact rfl; exact (by omega); exact (by omega); exact rfl) | (apply v_move; exact rfl; exact rfl) | refine run_seq ?_ | refine run_region ?_ | refine run_skip ?_ | refine run_block ?_))
      refine v_loadO (f := 0) (j := j) (tyA rfl) rfl rfl rfl rfl hBj (by decide) rfl rfl ?_
      (repeat (first | (apply v_move; exact rfl; exact rfl) | (apply v_assign; exact rfl; exact rfl) | refine run_seq ?_ | refine run_region ?_ | refine runL_nil ?_))
      refine v_cC (l := [.v (.int .i64 v)]) (cap := [.ptr 1 0, .ptr 2 0]) idN hc rfl rfl (cbA rfl) ⟨rfl, rfl, trivial⟩ (by kernel_rfl) (by kernel_rfl) (by kernel_rfl) (by kernel_rfl) (by kernel_rfl) (by kernel_rfl) (by kernel_rfl) (by kernel_rfl) rfl ?_
      (repeat (first | refine runL_nil ?_ | (apply v_not; exact rfl; exact rfl)))
      refine run_cond rfl (fun hb => ?_) (fun hb => ?_)
      · have hpv : p v = false := by simpa using hb
        rw [hpv, if_neg (by simp)] at hst
        (repeat (first | (apply v_idxO; exact slA rfl; exact tyA rfl; exact rfl; exact rfl; exact rfl; exact rfl; exact (by omega); exact (by omega); exact rfl) | (apply v_move; exact rfl; exact rfl) | refine run_seq ?_ | refine run_region ?_))
        refine v_storeO (f := 0) (j := i) v (tyA rfl) rfl rfl rfl rfl hBi rfl rfl (by decide) rfl rfl ?_
        (repeat (first | (apply v_move; exact rfl; exact rfl) | (apply v_assign; exact rfl; exact rfl) | refine run_region ?_ | refine runL_nil ?_ | refine run_inBlock ?_ | (apply v_add; exact rfl; exact rfl; exact rfl; exact (by omega))))
        exact v_again ih (i + 1, j + 1, B.set i v) idN ⟨rfl, rfl, rfl, trivial⟩ (by repeat (first | exact trivial | refine ⟨rfl, ?_⟩)) ⟨rfl, rfl, rfl, trivial⟩ rfl ⟨by dsimp only; omega, by dsimp only; omega, by dsimp only; rw [List.length_set]; exact hB, by
          dsimp only
          rw [hst, ← hT]
          exact take_set (by omega), by
          dsimp only
          refine hD2 _ ?_
          rw [List.drop_set_of_lt (by omega)]
          exact hD⟩ (by dsimp only; omega)
      · have hpv : p v = true := by simpa using hb
        rw [hpv, if_pos rfl, List.append_nil] at hst
        (repeat (first | (apply v_move; exact rfl; exact rfl) | (apply v_assign; exact rfl; exact rfl) | refine run_region ?_ | refine runL_nil ?_ | refine run_skip ?_ | refine run_inBlock ?_ | (apply v_add; exact rfl; exact rfl; exact rfl; exact (by omega))))
        exact v_again ih (i, j + 1, B) idN ⟨rfl, rfl, rfl, trivial⟩ (by repeat (first | exact trivial | refine ⟨rfl, ?_⟩)) ⟨rfl, rfl, rfl, trivial⟩ rfl ⟨by dsimp only; omega, by dsimp only; omega, hB, by dsimp only; rw [hst]; exact hT, hD2 B hD⟩ (by dsimp only; omega)
    · have hge : j = xs.length := by have : ¬ j < B.length := (by simpa using hb); omega
      rw [hge, List.take_length] at hT
      have hne : B ≠ [] := fun e => by rw [e] at hB; simp at hB; omega
      clear ih
      (repeat (first | (apply v_move; exact rfl; exact rfl) | refine run_seq ?_ | refine run_region ?_ | (apply run_exit; exact rfl)))
      refine runL_row 36 0 rfl rfl hne fun b cap hcap => ?_
      refine v_fromV (slA rfl) (tyA rfl) rfl rfl rfl (by omega) (by omega) hcap rfl ?_
      refine v_clearU (g := 0) (cap := cap) (xs := B) (slA rfl) (by kernel_rfl) rfl rfl (tyA rfl) (by omega) (by omega) ?_
      (repeat (first | (apply v_move; exact rfl; exact rfl) | refine run_seq ?_ | refine run_region ?_ | refine runL_nil ?_))
      refine runL_row2 39 0 rfl rfl ?_
      refine v_toV (slA rfl) (tyA rfl) rfl rfl (by omega) (by omega) rfl ?_
      (repeat (first | (apply v_assign; exact rfl; exact rfl) | refine runL_nil ?_))
      have hz : (B.take (0 + ((i : Nat) : Int).toNat) ++ List.replicate (B.length - ((i : Nat) : Int).toNat) 0).length = B.length := by simp; omega
      refine run_unrow (xs := B.take (0 + ((i : Nat) : Int).toNat) ++ List.replicate (B.length - ((i : Nat) : Int).toNat) 0) 4 0 50 ((i : Nat) : Int).toNat rfl (by rw [hz]; rfl) (by intro e; rw [e] at hz; simp at hz; omega) (by rw [hz]; omega) rfl rfl rfl ?_
      have hfin : (B.take (0 + ((i : Nat) : Int).toNat) ++ List.replicate (B.length - ((i : Nat) : Int).toNat) 0).take ((i : Nat) : Int).toNat = xs.filter (fun x => !(p x)) := by
        rw [show 0 + ((i : Nat) : Int).toNat = i by omega, show ((i : Nat) : Int).toNat = i by omega, ← hT, List.take_append_of_le_length (by simp; omega), List.take_take, Nat.min_self]
      rw [hfin]
      exact run_ret (mp [(9, 50)]) _ Try.func183 ⟨_, _, rfl, rfl, rfl⟩ rfl ⟨rfl, rfl, rfl, trivial⟩ ⟨rfl, rfl, rfl, trivial⟩ rfl
end Go.Proofs.Ytjkidecaciomgaa
/- slot: pick, Slots, Of. -/
namespace Go.Proofs.Ytjkidecaciomgaa
set_option linter.unusedVariables false
set_option linter.unusedSimpArgs false
set_option maxRecDepth 100000
open Go.RowKit

abbrev funV (f : FuncId) : AV := .v (.func (.func f) #[] #[])
theorem le_fn (f : FuncId) : Le (funV f) (.fn f []) := fun ι S w u h => by
  simp only [AVR] at h ⊢
  exact ⟨[], by rw [h], rfl⟩
theorem clone_o {xs : List Int} (hm : xs.length ≤ 1000000) : Fun Try.prog 139 [.sem (listS intE xs)] [] (.res 0) [(0, .obj (ownS 3 intE xs))] := by
  refine fun_intro 8 Try.func139 rfl rfl rfl (fun ι F S w => ?_)
  (repeat (first | (apply v_move; exact rfl; exact rfl) | (apply v_assign; exact rfl; exact rfl) | refine run_seq ?_ | refine run_region ?_ | refine runL_nil ?_))
  refine v_sliceNil sl31 rfl rfl (by decide) fun b hb => ?_
  refine runL_nil ?_
  refine run_cond rfl (fun h => ?_) (fun h => ?_)
  · obtain rfl := hb h
    (repeat (first | (apply v_assign; exact rfl; exact rfl) | refine run_seq ?_ | refine run_region ?_ | refine runL_nil ?_))
    refine run_own 2 2 3 intE rfl rfl rfl rfl ?_
    exact run_ret (mp [(0, 2)]) _ Try.func139 ⟨_, _, rfl, rfl, rfl⟩ rfl trivial ⟨rfl, trivial⟩ rfl
  · (repeat (first | refine run_seq ?_ | refine run_region ?_ | refine run_skip ?_))
    refine v_lO intE [] (slA rfl) (tyA rfl) rfl rfl rfl rfl rfl rfl rfl rfl rfl rfl rfl rfl rfl rfl ?_
    (repeat (first | (apply v_move; exact rfl; exact rfl)))
    refine v_appendD (slA rfl) (tyA rfl) rfl rfl rfl rfl rfl rfl rfl (by simpa using hm) rfl rfl rfl rfl ?_
    (repeat (first | (apply v_assign; exact rfl; exact rfl) | refine runL_nil ?_))
    exact run_ret (mp [(0, 7)]) _ Try.func139 ⟨_, _, rfl, rfl, rfl⟩ rfl trivial ⟨rfl, trivial⟩ rfl
theorem slots1_f (x : Int) (n : Nd) : Fun Try.prog 158 [.v (.int .i64 x), .agg (nodeL n)] [] (.v (.bool n.slot)) [] := by
  refine fun_intro 7 Try.func158 rfl rfl rfl (fun ι F S w => ?_)
  (repeat (first | (apply v_assign; exact rfl; exact rfl) | refine run_seq ?_ | refine run_region ?_ | refine runL_nil ?_ | (apply v_fldP; exact flA rfl; exact rfl; exact rfl; exact rfl) | (apply v_loadB; exact tyA rfl; exact rfl; exact rfl; exact rfl; exact rfl; exact rfl; exact rfl) | (apply v_boxD; exact rfl; exact rfl; exact rfl; exact rfl; exact rfl; exact rfl; exact rfl)))
  exact run_ret idN _ Try.func158 ⟨_, _, rfl, rfl, rfl⟩ rfl trivial trivial rfl
def delB (l : List Nd) (x : Int) : Bool := !((nodeAt l x).isSome && (nodeR l x).slot)
theorem pick1a_f {l : List Nd} (h : WF l) (x : Int) : Fun Try.prog 184 [.v (.int .i64 x), .ptr 1 0, .ptr 2 0] [(1, .box 25 [forA l]), (2, .box 123 [.fn 158 []])] (.v (.bool (delB l x))) [(1, .box 25 [forA l]), (2, .box 123 [.fn 158 []])] := by
  cases hx : nodeAt l x with
  | none =>
    rw [show delB l x = true by rw [delB, hx]; rfl]
    refine fun_intro 22 Try.func184 rfl rfl rfl (fun ι F S w => ?_)
    (repeat (first | (apply v_cx; exact rfl; exact cbA rfl; (first | exact node_n h hx); exact rfl; exact rfl) | (apply v_move; exact rfl; exact rfl) | (apply v_assign; exact rfl; exact rfl) | refine run_seq ?_ | refine run_region ?_ | refine runL_nil ?_ | (apply v_extract; exact rfl; exact rfl; exact rfl) | (apply v_loadB; exact tyA rfl; exact rfl; exact rfl; exact rfl; exact rfl; exact rfl; exact rfl) | (apply v_off; exact rfl; exact rfl) | (apply v_pick_t; exact rfl; exact rfl; exact rfl) | (apply v_not; exact rfl; exact rfl) | (apply v_allocD; exact tyA rfl; exact rfl; exact rfl; exact rfl; exact rfl) | (apply v_storeW; exact tyA rfl; exact rfl; exact rfl; exact rfl; exact rfl; exact rfl; exact rfl; exact rfl)))
    exact run_ret idN _ Try.func184 ⟨_, _, rfl, rfl, rfl⟩ rfl ⟨rfl, rfl, trivial⟩ ⟨rfl, rfl, trivial⟩ rfl
  | some n =>
    rw [show delB l x = !n.slot by rw [delB, hx, nodeR_some hx]; rfl]
    refine fun_intro 22 Try.func184 rfl rfl rfl (fun ι F S w => ?_)
    (repeat (first | (apply v_cx; exact rfl; exact cbA rfl; (first | exact node_s h hx); exact rfl; exact rfl) | (apply v_move; exact rfl; exact rfl) | (apply v_assign; exact rfl; exact rfl) | refine run_seq ?_ | refine run_region ?_ | refine runL_nil ?_ | (apply v_extract; exact rfl; exact rfl; exact rfl) | (apply v_loadB; exact tyA rfl; exact rfl; exact rfl; exact rfl; exact rfl; exact rfl; exact rfl) | (apply v_on; exact rfl) | (apply v_not; exact rfl; exact rfl) | (apply v_allocD; exact tyA rfl; exact rfl; exact rfl; exact rfl; exact rfl) | (apply v_storeW; exact tyA rfl; exact rfl; exact rfl; exact rfl; exact rfl; exact rfl; exact rfl; exact rfl)))
    refine v_cC (l := [.v (.int .i64 x), .agg (nodeL n)]) (cap := []) idN (slots1_f x n) rfl rfl (cbA rfl) trivial (by kernel_rfl) (by kernel_rfl) (by kernel_rfl) (by kernel_rfl) (by kernel_rfl) (by kernel_rfl) (by kernel_rfl) (by kernel_rfl) rfl ?_
    (repeat (first | (apply v_assign; exact rfl; exact rfl) | refine runL_nil ?_ | (apply v_on; exact rfl) | (apply v_pick_f; exact rfl; exact rfl; exact rfl) | (apply v_not; exact rfl; exact rfl)))
    exact run_ret idN _ Try.func184 ⟨_, _, rfl, rfl, rfl⟩ rfl ⟨rfl, rfl, trivial⟩ ⟨rfl, rfl, trivial⟩ rfl
theorem picka_f {l : List Nd} (h : WF l) {xs : List Int} (hm : xs.length ≤ 1000000) : Fun Try.prog 156 [forA l, .sem (listS intE xs), funV 158] [] (.res 0) [(0, .obj (ownS 3 intE (xs.filter fun x => !(delB l x))))] := by
  have hd := delfunc_a (l := l) (p := delB l) hm fun x _ => pick1a_f h x
  refine fun_intro 11 Try.func156 rfl rfl rfl (fun ι F S w => ?_)
  refine run_le 2 rfl (y := .fn 158 []) (le_fn _) ?_
  (repeat (first | (apply v_cOx; exact rfl; exact cbA rfl; (first | exact clone_o hm); exact rfl; exact rfl; exact rfl; exact rfl; exact rfl) | (apply v_move; exact rfl; exact rfl) | (apply v_assign; exact rfl; exact rfl) | refine run_seq ?_ | refine run_region ?_ | refine runL_nil ?_ | (apply v_boxD; exact rfl; exact rfl; exact rfl; exact rfl; exact rfl; exact rfl; exact rfl) | (apply v_f; exact rfl; exact rfl)))
  refine v_cR (mp [(0, 8), (1, 3), (2, 5), (9, 50)]) hd rfl (cbA rfl) ⟨rfl, rfl, rfl, trivial⟩ (by kernel_rfl) (by kernel_rfl) (by kernel_rfl) (by kernel_rfl) (by kernel_rfl) (by kernel_rfl) (by kernel_rfl) (by kernel_rfl) rfl ?_
  (repeat (first | (apply v_assign; exact rfl; exact rfl) | refine runL_nil ?_))
  exact run_ret (mp [(0, 50)]) _ Try.func156 ⟨_, _, rfl, rfl, rfl⟩ rfl trivial ⟨rfl, trivial⟩ rfl
def slotsM (l : List Nd) (root : Int) : List Int := (orderM l root).filter fun x => !(delB l x)
theorem slots_f {l : List Nd} (h : WF l) (root : Int) : Fun Try.prog 108 [forA l, .v (.int .i64 root)] [] (.res 0) [(0, .obj (ownS 3 intE (slotsM l root)))] := by
  have ho := ord_len h root
  have hlen := h.len
  have hp := picka_f h (xs := orderM l root) (by omega)
  refine fun_intro 10 Try.func108 rfl rfl rfl (fun ι F S w => ?_)
  (repeat (first | (apply v_cx; exact rfl; exact cbA rfl; (first | exact order_p h root); exact rfl; exact rfl) | (apply v_cOx; exact rfl; exact cbA rfl; (first | exact hp); exact rfl; exact rfl; exact rfl; exact rfl; exact rfl) | (apply v_move; exact rfl; exact rfl) | (apply v_assign; exact rfl; exact rfl) | refine run_seq ?_ | refine run_region ?_ | refine runL_nil ?_))
  exact run_ret (mp [(0, 9)]) _ Try.func108 ⟨_, _, rfl, rfl, rfl⟩ rfl trivial ⟨rfl, trivial⟩ rfl
theorem slots_p {l : List Nd} (h : WF l) (root : Int) : Fun Try.prog 108 [forA l, .v (.int .i64 root)] [] (.sem (listS intE (slotsM l root))) [] := (slots_f h root).freeze
def named1 (l : List Nd) (w : ByteArray) (s : Int) : Bool := decide ((nodeR l s).name = w)
def ofM (l : List Nd) (id : Int) : Int :=
  match nodeAt l (nodeR l id).parent with
  | none => 0
  | some p => if (nodeR l id).kind ≠ 2 ∨ p.shadow = 0 then 0 else ((slotsM l p.shadow).find? (named1 l (nodeR l id).want)).getD 0
theorem slots_len {l : List Nd} (h : WF l) (root : Int) : (slotsM l root).length ≤ 128 := by
  have h1 := ord_len h root
  have h2 := h.len
  exact Nat.le_trans (List.length_filter_le _ _) (by omega)
theorem of_f {l : List Nd} (h : WF l) (id : Int) : Fun Try.prog 103 [forA l, .v (.int .i64 id)] [] (.v (.int .i64 (ofM l id))) [] := by
  have hn := node_w h id
  have ho : ofM l id = match nodeAt l (nodeR l id).parent with
    | none => 0
    | some p => if (nodeR l id).kind ≠ 2 ∨ p.shadow = 0 then 0 else ((slotsM l p.shadow).find? (named1 l (nodeR l id).want)).getD 0 := rfl
  generalize nodeR l id = n at *
  generalize (nodeAt l id).isSome = ok at *
  cases hp : nodeAt l n.parent with
  | none =>
    rw [hp] at ho
    rw [ho]
    refine fun_intro 60 Try.func103 rfl rfl rfl (fun ι F S w => ?_)
    (repeat (first | (apply v_cx; exact rfl; exact cbA rfl; (first | exact hn | exact node_n h hp); exact rfl; exact rfl) | (apply v_move; exact rfl; exact rfl) | (apply v_assign; exact rfl; exact rfl) | refine run_seq ?_ | refine run_region ?_ | refine runL_nil ?_ | (apply v_extract; exact rfl; exact rfl; exact rfl) | (apply v_fldP; exact flA rfl; exact rfl; exact rfl; exact rfl) | (apply v_loadB; exact tyA rfl; exact rfl; exact rfl; exact rfl; exact rfl; exact rfl; exact rfl) | (apply v_off; exact rfl; exact rfl) | (apply v_pick_t; exact rfl; exact rfl; exact rfl) | (apply run_cond; exact rfl; rotate_left; (focus (intro hb; cases hb; done)); intro hb; clear hb) | (apply v_not; exact rfl; exact rfl) | (apply v_allocD; exact tyA rfl; exact rfl; exact rfl; exact rfl; exact rfl) | (apply v_storeW; exact tyA rfl; exact rfl; exact rfl; exact rfl; exact rfl; exact rfl; exact rfl; exact rfl)))
    exact run_ret idN _ Try.func103 ⟨_, _, rfl, rfl, rfl⟩ rfl trivial trivial rfl
  | some p =>
    rw [hp] at ho
    dsimp only at ho
    by_cases hk : n.kind = 2
    · by_cases hs : p.shadow = 0
      · rw [if_pos (.inr hs)] at ho
        rw [ho]
        refine fun_intro 60 Try.func103 rfl rfl rfl (fun ι F S w => ?_)
        (repeat (first | (apply v_cx; exact rfl; exact cbA rfl; (first | exact hn | exact node_s h hp); exact rfl; exact rfl) | (apply v_move; exact rfl; exact rfl) | (apply v_assign; exact rfl; exact rfl) | refine run_seq ?_ | refine run_region ?_ | refine runL_nil ?_ | (apply v_extract; exact rfl; exact rfl; exact rfl) | (apply v_fldP; exact flA rfl; exact rfl; exact rfl; exact rfl) | (apply v_loadB; exact tyA rfl; exact rfl; exact rfl; exact rfl; exact rfl; exact rfl; exact rfl) | (apply v_on; exact rfl) | (apply v_pick_f; exact rfl; exact rfl; exact rfl) | (apply v_not; exact rfl; exact rfl) | (apply v_neq; exact rfl; exact rfl; exact rfl) | (apply v_allocD; exact tyA rfl; exact rfl; exact rfl; exact rfl; exact rfl) | (apply v_storeW; exact tyA rfl; exact rfl; exact rfl; exact rfl; exact rfl; exact rfl; exact rfl; exact rfl)))
        refine v_is 33 false rfl (by simpa using hk) ?_
        (repeat (first | refine runL_nil ?_ | (apply v_fldP; exact flA rfl; exact rfl; exact rfl; exact rfl) | (apply v_loadB; exact tyA rfl; exact rfl; exact rfl; exact rfl; exact rfl; exact rfl; exact rfl) | (apply v_on; exact rfl) | (apply v_pick_f; exact rfl; exact rfl; exact rfl) | (apply v_eql; exact rfl; exact rfl; exact rfl)))
        refine run_condY rfl (by simpa using hs) ?_
        (repeat (first | (apply v_assign; exact rfl; exact rfl) | refine run_seq ?_ | refine run_region ?_ | refine runL_nil ?_))
        exact run_ret idN _ Try.func103 ⟨_, _, rfl, rfl, rfl⟩ rfl trivial trivial rfl
      · rw [if_neg (fun e => e.elim (fun e => e hk) hs)] at ho
        have hsl := slots_p h p.shadow
        have hln := slots_len h p.shadow
        generalize slotsM l p.shadow = u at *
        rw [ho]
        clear ho
        refine fun_intro 60 Try.func103 rfl rfl rfl (fun ι F S w => ?_)
        (repeat (first | (apply v_cx; exact rfl; exact cbA rfl; (first | exact hn | exact node_s h hp); exact rfl; exact rfl) | (apply v_move; exact rfl; exact rfl) | (apply v_assign; exact rfl; exact rfl) | refine run_seq ?_ | refine run_region ?_ | refine runL_nil ?_ | (apply v_extract; exact rfl; exact rfl; exact rfl) | (apply v_fldP; exact flA rfl; exact rfl; exact rfl; exact rfl) | (apply v_loadB; exact tyA rfl; exact rfl; exact rfl; exact rfl; exact rfl; exact rfl; exact rfl) | (apply v_on; exact rfl) | (apply v_pick_f; exact rfl; exact rfl; exact rfl) | (apply v_not; exact rfl; exact rfl) | (apply v_neq; exact rfl; exact rfl; exact rfl) | (apply v_allocD; exact tyA rfl; exact rfl; exact rfl; exact rfl; exact rfl) | (apply v_storeW; exact tyA rfl; exact rfl; exact rfl; exact rfl; exact rfl; exact rfl; exact rfl; exact rfl)))
        refine v_is 33 false rfl (by simpa using hk) ?_
        (repeat (first | refine runL_nil ?_ | (apply v_fldP; exact flA rfl; exact rfl; exact rfl; exact rfl) | (apply v_loadB; exact tyA rfl; exact rfl; exact rfl; exact rfl; exact rfl; exact rfl; exact rfl) | (apply v_on; exact rfl) | (apply v_pick_f; exact rfl; exact rfl; exact rfl) | (apply v_eql; exact rfl; exact rfl; exact rfl)))
        refine run_condN rfl (by simpa using hs) ?_
        (repeat (first | (apply v_cx; exact rfl; exact cbA rfl; (first | exact hsl); exact rfl; exact rfl) | (apply v_move; exact rfl; exact rfl) | refine run_seq ?_ | refine run_region ?_ | refine runL_nil ?_ | refine run_skip ?_ | refine run_block ?_ | (apply v_fldP; exact flA rfl; exact rfl; exact rfl; exact rfl) | (apply v_loadB; exact tyA rfl; exact rfl; exact rfl; exact rfl; exact rfl; exact rfl; exact rfl) | (apply v_lenL; exact slA rfl; exact rfl; exact rfl)))
        refine v_loop (fun i : Nat => ⟨[(0, forA l), (5, .ptr 5 0), (41, .sem (listS intE u)), (42, .v (.int .i64 u.length)), (43, .v (.int .i64 i))], [(5, .box 33 (nodeL n))]⟩) (fun i => i ≤ u.length ∧ ∀ s ∈ u.take i, named1 l n.want s = false) (fun i => u.length - i) 0 idN trivial (by repeat (first | exact trivial | refine ⟨rfl, ?_⟩)) ⟨rfl, trivial⟩ rfl ⟨by omega, fun s hs => by simp at hs⟩ fun i ⟨hi, hq⟩ ih => ?_
        (repeat (first | refine run_seq ?_ | refine run_region ?_ | refine runL_nil ?_ | (apply v_lss; exact rfl; exact rfl; exact rfl)))
        refine run_cond rfl (fun hb => ?_) (fun hb => ?_)
        · have hlt : i < u.length := by simpa using hb
          have hx : u[((i : Int)).toNat]? = some u[i] := by simp [hlt]
          have hm := node_w h u[i]
          have hst : u.take (i + 1) = u.take i ++ [u[i]] := by rw [List.take_add_one, List.getElem?_eq_getElem hlt]; rfl
          have hfd : named1 l n.want u[i] = true → u.find? (named1 l n.want) = some u[i] := fun e => by
            rw [List.find?_eq_some_iff_append]
            refine ⟨e, u.take i, u.drop (i + 1), ?_, fun s hs => by rw [hq s hs]; rfl⟩
            rw [← List.drop_eq_getElem_cons hlt, List.take_append_drop]
          have hnm : named1 l n.want u[i] = decide ((nodeR l u[i]).name = n.want) := rfl
          generalize u[i] = s at *
          generalize nodeR l s = m at *
          generalize (nodeAt l s).isSome = ok2 at *
          (repeat (first | (apply v_idxL; exact slA rfl; exact tyA rfl; exact rfl; exact rfl; exact rfl; exact rfl; exact (by omega); (first | exact hx); exact rfl) | (apply v_cx; exact rfl; exact cbA rfl; (first | exact hm); exact rfl; exact rfl) | (apply v_move; exact rfl; exact rfl) | (apply v_assign; exact rfl; exact rfl) | refine run_seq ?_ | refine run_region ?_ | refine runL_nil ?_ | refine run_skip ?_ | refine run_block ?_ | (apply v_extract; exact rfl; exact rfl; exact rfl) | (apply v_fldP; exact flA rfl; exact rfl; exact rfl; exact rfl) | (apply v_loadB; exact tyA rfl; exact rfl; exact rfl; exact rfl; exact rfl; exact rfl; exact rfl) | (apply v_loadA; exact tyA rfl; exact rfl; exact rfl; exact rfl; exact rfl; exact rfl; exact rfl) | (apply v_allocD; exact tyA rfl; exact rfl; exact rfl; exact rfl; exact rfl) | (apply v_storeW; exact tyA rfl; exact rfl; exact rfl; exact rfl; exact rfl; exact rfl; exact rfl; exact rfl) | (apply v_eqlS; exact rfl; exact rfl; exact rfl)))
          refine run_cond rfl (fun hb => ?_) (fun hb => ?_)
          · have e : m.name = n.want := by simpa using hb
            rw [hfd (by rw [hnm]; exact decide_eq_true e)]
            (repeat (first | (apply v_move; exact rfl; exact rfl) | (apply v_assign; exact rfl; exact rfl) | refine run_seq ?_ | refine run_region ?_ | refine runL_nil ?_))
            exact run_ret idN _ Try.func103 ⟨_, _, rfl, rfl, rfl⟩ rfl trivial trivial rfl
          · have e : m.name ≠ n.want := by simpa using hb
            (repeat (first | (apply v_move; exact rfl; exact rfl) | refine run_region ?_ | refine runL_nil ?_ | refine run_skip ?_ | refine run_inBlock ?_ | (apply v_add; exact rfl; exact rfl; exact rfl; exact (by omega))))
            exact v_again ih (i + 1) idN trivial (by repeat (first | exact trivial | refine ⟨rfl, ?_⟩)) ⟨rfl, trivial⟩ rfl ⟨by omega, fun s' hs' => by
              rw [hst] at hs'
              rcases List.mem_append.1 hs' with hs' | hs'
              · exact hq s' hs'
              · rw [List.mem_singleton] at hs'
                rw [hs', hnm]
                exact decide_eq_false e⟩ (by omega)
        · have hge : i = u.length := by have : ¬ i < u.length := (by simpa using hb); omega
          rw [hge, List.take_length] at hq
          rw [List.find?_eq_none.2 fun s hs => by rw [hq s hs]; simp]
          (repeat (first | (apply v_assign; exact rfl; exact rfl) | refine run_seq ?_ | refine run_region ?_ | refine runL_nil ?_ | (apply run_exit; exact rfl)))
          exact run_ret idN _ Try.func103 ⟨_, _, rfl, rfl, rfl⟩ rfl trivial trivial rfl
    · rw [if_pos (.inl hk)] at ho
      rw [ho]
      refine fun_intro 60 Try.func103 rfl rfl rfl (fun ι F S w => ?_)
      (repeat (first | (apply v_cx; exact rfl; exact cbA rfl; (first | exact hn | exact node_s h hp); exact rfl; exact rfl) | (apply v_move; exact rfl; exact rfl) | (apply v_assign; exact rfl; exact rfl) | refine run_seq ?_ | refine run_region ?_ | refine runL_nil ?_ | (apply v_extract; exact rfl; exact rfl; exact rfl) | (apply v_fldP; exact flA rfl; exact rfl; exact rfl; exact rfl) | (apply v_loadB; exact tyA rfl; exact rfl; exact rfl; exact rfl; exact rfl; exact rfl; exact rfl) | (apply v_on; exact rfl) | (apply v_pick_f; exact rfl; exact rfl; exact rfl) | (apply v_not; exact rfl; exact rfl) | (apply v_neq; exact rfl; exact rfl; exact rfl) | (apply v_allocD; exact tyA rfl; exact rfl; exact rfl; exact rfl; exact rfl) | (apply v_storeW; exact tyA rfl; exact rfl; exact rfl; exact rfl; exact rfl; exact rfl; exact rfl; exact rfl)))
      refine v_is 33 true rfl (by simpa using hk) ?_
      (repeat (first | (apply v_assign; exact rfl; exact rfl) | refine run_seq ?_ | refine run_region ?_ | refine runL_nil ?_ | (apply v_off; exact rfl; exact rfl) | (apply v_pick_t; exact rfl; exact rfl; exact rfl) | (apply run_cond; exact rfl; rotate_left; (focus (intro hb; cases hb; done)); intro hb; clear hb)))
      exact run_ret idN _ Try.func103 ⟨_, _, rfl, rfl, rfl⟩ rfl trivial trivial rfl
end Go.Proofs.Ytjkidecaciomgaa
/- The parent for an event, plain: every way ends, and no node comes twice. -/
namespace Go.Proofs.Ytjkidecaciomgaa
set_option linter.unusedVariables false
set_option linter.unusedSimpArgs false
set_option maxRecDepth 100000
open Go.RowKit

/-- What a node's slot is. -/
theorem of_ok {l : List Nd} (h : WF l) {id : Int} (h0 : ofM l id ≠ 0) : ∃ n p, nodeAt l id = some n ∧ n.kind = 2 ∧ nodeAt l n.parent = some p ∧ p.shadow ≠ 0 ∧ p.shadow ∈ ch l Nd.parent (ofM l id) ∧ (nodeR l (ofM l id)).slot = true := by
  cases hn : nodeAt l id with
  | none =>
    exfalso
    apply h0
    rw [ofM, nodeR_none hn, show nd0.parent = 0 from rfl, nodeAt_zero]
  | some n =>
    have ho : ofM l id = match nodeAt l n.parent with
      | none => 0
      | some p => if n.kind ≠ 2 ∨ p.shadow = 0 then 0 else ((slotsM l p.shadow).find? (named1 l n.want)).getD 0 := by
      unfold ofM
      rw [nodeR_some hn]
      all_goals (cases nodeAt l n.parent <;> rfl)
    cases hp : nodeAt l n.parent with
    | none => rw [hp] at ho; exact absurd ho h0
    | some p =>
      rw [hp] at ho
      dsimp only at ho
      by_cases hc : n.kind ≠ 2 ∨ p.shadow = 0
      · rw [if_pos hc] at ho; exact absurd ho h0
      · rw [if_neg hc] at ho
        have hk : n.kind = 2 := Classical.byContradiction fun e => hc (.inl e)
        have hs : p.shadow ≠ 0 := fun e => hc (.inr e)
        cases hf : (slotsM l p.shadow).find? (named1 l n.want) with
        | none => rw [hf] at ho; exact absurd ho h0
        | some s =>
          rw [hf] at ho
          have hm := List.mem_of_find?_eq_some hf
          have es : ofM l id = s := ho
          rw [slotsM, List.mem_filter] at hm
          refine ⟨n, p, rfl, hk, hp, hs, by rw [es]; exact (ord_mem h _ _).1 hm.1, ?_⟩
          rw [es]
          have := hm.2
          rw [delB, Bool.not_not, Bool.and_eq_true] at this
          exact this.2
theorem of_kind {l : List Nd} (h : WF l) {id : Int} {n : Nd} (hn : nodeAt l id = some n) (hk : n.kind ≠ 2) : ofM l id = 0 := Classical.byContradiction fun h0 => by
  obtain ⟨m, _, hm, hk2, _⟩ := of_ok h h0
  rw [hn] at hm
  cases hm
  exact hk hk2
def evP (l : List Nd) (first : Int) (comp : Bool) (id : Int) : Int :=
  match nodeAt l id with
  | none => 0
  | some n => if ofM l id ≠ 0 then ofM l id else if n.kind ≠ 3 then n.parent else if comp = false ∧ rootM l first = id then 0 else n.host
section
variable {l : List Nd} (h : WF l) (first : Int) (comp : Bool)
include h
theorem ev_up {id : Int} {n : Nd} (hn : nodeAt l id = some n) (h0 : ofM l id = 0) : evP l first comp id = upX n ∨ evP l first comp id = 0 := by
  have e : evP l first comp id = if ofM l id ≠ 0 then ofM l id else if n.kind ≠ 3 then n.parent else if comp = false ∧ rootM l first = id then 0 else n.host := by rw [evP, hn]
  rw [if_neg (by rw [h0]; simp)] at e
  by_cases hk : n.kind ≠ 3
  · rw [if_pos hk] at e
    rw [e]
    by_cases hp : n.parent = 0
    · exact .inr hp
    · exact .inl (by simp [upX, hp])
  · rw [if_neg hk] at e
    split at e
    · exact .inr e
    · have hp := h.root hn (by simp [rootedB]; omega)
      exact .inl (by rw [e]; simp [upX, hp])
end
def itF (f : Int → Int) : Nat → Int → Int
  | 0, a => a
  | n + 1, a => itF f n (f a)
theorem itF_add (f : Int → Int) : ∀ (m n : Nat) (a : Int), itF f (m + n) a = itF f n (itF f m a)
  | 0, n, a => by rw [Nat.zero_add]; rfl
  | m + 1, n, a => by
    rw [show m + 1 + n = (m + n) + 1 by omega]
    exact itF_add f m n (f a)
def Rch (f : Int → Int) (a b : Int) : Prop := ∃ k, itF f k a = b
theorem Rch.refl {f : Int → Int} (a : Int) : Rch f a a := ⟨0, rfl⟩
theorem Rch.one {f : Int → Int} (a : Int) : Rch f a (f a) := ⟨1, rfl⟩
theorem Rch.trans {f : Int → Int} {a b c : Int} (h1 : Rch f a b) (h2 : Rch f b c) : Rch f a c := by
  obtain ⟨m, e1⟩ := h1
  obtain ⟨n, e2⟩ := h2
  exact ⟨m + n, by rw [itF_add, e1, e2]⟩
section
variable {l : List Nd} (h : WF l) (first : Int) (comp : Bool)
include h
/-- From a node one comes to what is above it, or to an end. -/
theorem ev_reach : ∀ (d : Nat) {id : Int} {n : Nd}, nodeAt l id = some n → 129 ≤ (ch l upX id).length + d → Rch (evP l first comp) id (upX n) ∨ Rch (evP l first comp) id 0
  | 0, id, n, hn, hd => by
    have := ch_len (desc_up h) id
    have := h.len
    omega
  | d + 1, id, n, hn, hd => by
    by_cases h0 : ofM l id = 0
    · rcases ev_up h first comp hn h0 with e | e
      · exact .inl (e ▸ Rch.one _)
      · exact .inr (e ▸ Rch.one _)
    · obtain ⟨n', p, hn', hk, hp, hs, hsr, _⟩ := of_ok h h0
      rw [hn] at hn'
      cases hn'
      have hpar : n.parent ≠ 0 := fun e => by rw [e, nodeAt_zero] at hp; cases hp
      have hux : upX n = n.parent := by simp [upX, hpar]
      obtain ⟨y, hy, hyh⟩ := ((h.shad hp).resolve_left hs).2
      have hpn := nodeAt_some hp
      have hyk : y.kind = 3 := ((h.host hy).resolve_left (by rw [hyh]; omega)).1
      have hyp : y.parent = 0 := h.root hy (by simp [rootedB, hyk])
      have hyu : upX y = n.parent := by simp [upX, hyp, hyh]
      have hlen : (ch l upX id).length = (ch l upX n.parent).length + 1 := by rw [up_step h hn, hux, List.length_cons]
      have hlen2 : (ch l upX p.shadow).length = (ch l upX n.parent).length + 1 := by rw [up_step h hy, hyu, List.length_cons]
      have hfs : evP l first comp id = ofM l id := by rw [evP, hn]; simp [h0]
      -- from anywhere in the shadow tree to its root
      have hin : ∀ c, p.shadow ∈ ch l Nd.parent c → Rch (evP l first comp) c p.shadow ∨ Rch (evP l first comp) c 0 := by
        refine desc_induct (desc_par h) (p := fun c => p.shadow ∈ ch l Nd.parent c → Rch (evP l first comp) c p.shadow ∨ Rch (evP l first comp) c 0) (fun c hc hm => ?_) fun c x hc ih hm => ?_
        · rw [ch_none hc] at hm; cases hm
        · by_cases e : p.shadow = c
          · exact .inl (e ▸ Rch.refl _)
          · rw [par_step h hc] at hm
            rcases List.mem_cons.1 hm with e' | hm
            · exact absurd e' e
            · have hcp : x.parent ≠ 0 := fun e0 => by rw [e0, ch_none nodeAt_zero] at hm; cases hm
              have hcu : upX x = x.parent := by simp [upX, hcp]
              have hle := up_le h (par_up h hm)
              have hcl : (ch l upX c).length = (ch l upX x.parent).length + 1 := by rw [up_step h hc, hcu, List.length_cons]
              have hge : (ch l upX p.shadow).length ≤ (ch l upX x.parent).length := by
                rcases hle with e2 | e2
                · rw [e2]; exact Nat.le_refl _
                · omega
              rcases ev_reach d hc (by omega) with h1 | h1
              · rw [hcu] at h1
                rcases ih hm with h2 | h2
                · exact .inl (h1.trans h2)
                · exact .inr (h1.trans h2)
              · exact .inr h1
      have h1 : Rch (evP l first comp) id (ofM l id) := hfs ▸ Rch.one _
      rcases hin _ hsr with h2 | h2
      · rcases ev_up h first comp hy (of_kind h hy (by omega)) with e | e
        · left
          rw [hux, ← hyu, ← e]
          exact (h1.trans h2).trans (Rch.one _)
        · right
          rw [← e]
          exact (h1.trans h2).trans (Rch.one _)
      · exact .inr (h1.trans h2)
/-- Every way ends. -/
theorem ev_ends (id : Int) : Rch (evP l first comp) id 0 := by
  refine desc_induct (desc_up h) (p := fun id => Rch (evP l first comp) id 0) (fun id hn => ?_) (fun id n hn ih => ?_) id
  · have : evP l first comp id = 0 := by rw [evP, hn]
    exact this ▸ Rch.one _
  · rcases ev_reach h first comp 129 hn (by omega) with h1 | h1
    · exact h1.trans ih
    · exact h1
end
/-- How many steps there are to the end. -/
theorem least_step {f : Int → Int} {a : Int} (h : Rch f a 0) : ∃ k, itF f k a = 0 ∧ ∀ j, j < k → itF f j a ≠ 0 := by
  obtain ⟨k, hk⟩ := h
  induction k using Nat.strongRecOn with
  | _ k ih =>
    by_cases hj : ∃ j, j < k ∧ itF f j a = 0
    · obtain ⟨j, hlt, hj⟩ := hj
      exact ih j hlt hj
    · exact ⟨k, hk, fun j hlt e => hj ⟨j, hlt, e⟩⟩
/-- The nodes on the way. -/
def wayN (f : Int → Int) : Nat → Int → List Int
  | 0, _ => []
  | n + 1, a => if a = 0 then [] else a :: wayN f n (f a)
theorem way_end {f : Int → Int} : ∀ (n : Nat) (a : Int), itF f n a = 0 → f 0 = 0 → wayN f (n + 1) a = wayN f n a
  | 0, a, h, hf => by
    have : a = 0 := h
    show (if a = 0 then [] else a :: wayN f 0 (f a)) = []
    rw [if_pos this]
  | n + 1, a, h, hf => by
    have e : ∀ m b, wayN f (m + 1) b = if b = 0 then [] else b :: wayN f m (f b) := fun _ _ => rfl
    rw [e (n + 1) a]
    refine Eq.trans ?_ (e n a).symm
    by_cases ha : a = 0
    · rw [if_pos ha, if_pos ha]
    · rw [if_neg ha, if_neg ha, way_end n (f a) h hf]
theorem way_nodup {f : Int → Int} (hf : f 0 = 0) : ∀ (n : Nat) (a : Int), Rch f a 0 → (wayN f n a).Nodup := by
  have hmem : ∀ (n : Nat) (a b : Int), b ∈ wayN f n a → Rch f a b ∧ b ≠ 0 := by
    intro n
    induction n with
    | zero => intro a b hb; cases hb
    | succ n ih =>
      intro a b hb
      rw [wayN] at hb
      by_cases ha : a = 0
      · rw [if_pos ha] at hb; cases hb
      · rw [if_neg ha] at hb
        rcases List.mem_cons.1 hb with rfl | hb
        · exact ⟨Rch.refl _, ha⟩
        · obtain ⟨h1, h2⟩ := ih _ _ hb
          exact ⟨(Rch.one _).trans h1, h2⟩
  intro n
  induction n with
  | zero => intro a _; simp [wayN]
  | succ n ih =>
    intro a hr
    rw [wayN]
    by_cases ha : a = 0
    · rw [if_pos ha]; simp
    · rw [if_neg ha, List.nodup_cons]
      obtain ⟨k, hk, hmin⟩ := least_step hr
      have hk0 : k ≠ 0 := fun e => ha (by rw [e] at hk; exact hk)
      refine ⟨fun hm => ?_, ih _ ⟨k - 1, by
        obtain ⟨m, rfl⟩ : ∃ m, k = m + 1 := ⟨k - 1, by omega⟩
        exact hk⟩⟩
      obtain ⟨⟨j, hj⟩, _⟩ := hmem _ _ _ hm
      -- f^(j+1) a = a: then it never ends
      have hcyc : itF f (j + 1) a = a := hj
      have hall : ∀ q, itF f (q * (j + 1)) a = a := fun q => by
        induction q with
        | zero => rw [Nat.zero_mul]; rfl
        | succ q ihq => rw [Nat.add_mul, Nat.one_mul, itF_add, ihq, hcyc]
      have hbig : ∀ m, itF f (k + m) a = 0 := fun m => by
        rw [itF_add, hk]
        induction m with
        | zero => rfl
        | succ m ihm => show itF f m (f 0) = 0; rw [hf]; exact ihm
      have h1 := hall k
      have h2 := hbig (k * (j + 1) - k)
      rw [show k + (k * (j + 1) - k) = k * (j + 1) by
        have : k ≤ k * (j + 1) := Nat.le_mul_of_pos_right k (by omega)
        omega] at h2
      exact ha (h1.symm.trans h2)
end Go.Proofs.Ytjkidecaciomgaa
/- path: Parent, closed, Make. -/
namespace Go.Proofs.Ytjkidecaciomgaa
set_option linter.unusedVariables false
set_option linter.unusedSimpArgs false
set_option maxRecDepth 100000
open Go.RowKit

theorem evp_f {l : List Nd} (h : WF l) (id first : Int) (comp : Bool) : Fun Try.prog 125 [forA l, .v (.int .i64 id), .v (.int .i64 first), .v (.bool comp)] [] (.v (.int .i64 (evP l first comp id))) [] := by
  cases hx : nodeAt l id with
  | none =>
    rw [show evP l first comp id = 0 by rw [evP, hx]]
    refine fun_intro 42 Try.func125 rfl rfl rfl (fun ι F S w => ?_)
    (repeat (first | (apply v_cx; exact rfl; exact cbA rfl; (first | exact node_n h hx); exact rfl; exact rfl) | (apply v_move; exact rfl; exact rfl) | (apply v_assign; exact rfl; exact rfl) | refine run_seq ?_ | refine run_region ?_ | refine runL_nil ?_ | (apply v_extract; exact rfl; exact rfl; exact rfl) | (apply run_cond; exact rfl; rotate_left; (focus (intro hb; cases hb; done)); intro hb; clear hb) | (apply v_not; exact rfl; exact rfl) | (apply v_allocD; exact tyA rfl; exact rfl; exact rfl; exact rfl; exact rfl) | (apply v_storeW; exact tyA rfl; exact rfl; exact rfl; exact rfl; exact rfl; exact rfl; exact rfl; exact rfl)))
    exact run_ret idN _ Try.func125 ⟨_, _, rfl, rfl, rfl⟩ rfl trivial trivial rfl
  | some n =>
    have ho : evP l first comp id = if ofM l id ≠ 0 then ofM l id else if n.kind ≠ 3 then n.parent else if comp = false ∧ rootM l first = id then 0 else n.host := by rw [evP, hx]
    have hof := of_f h id
    have hrt := root_f h first
    generalize ofM l id = s at *
    generalize rootM l first = r at *
    generalize evP l first comp id = v at *
    by_cases h0 : s ≠ 0
    · rw [if_pos h0] at ho
      subst ho
      refine fun_intro 42 Try.func125 rfl rfl rfl (fun ι F S w => ?_)
      (repeat (first | (apply v_cx; exact rfl; exact cbA rfl; (first | exact node_s h hx | exact hof); exact rfl; exact rfl) | (apply v_move; exact rfl; exact rfl) | (apply v_assign; exact rfl; exact rfl) | refine run_seq ?_ | refine run_region ?_ | refine runL_nil ?_ | refine run_skip ?_ | (apply v_extract; exact rfl; exact rfl; exact rfl) | (apply run_cond; exact rfl; (focus (intro hb; cases hb; done)); intro hb; clear hb) | (apply v_not; exact rfl; exact rfl) | (apply v_neq; exact rfl; exact rfl; exact rfl) | (apply v_allocD; exact tyA rfl; exact rfl; exact rfl; exact rfl; exact rfl) | (apply v_storeW; exact tyA rfl; exact rfl; exact rfl; exact rfl; exact rfl; exact rfl; exact rfl; exact rfl)))
      refine run_condY rfl (by simpa using h0) ?_
      (repeat (first | (apply v_move; exact rfl; exact rfl) | (apply v_assign; exact rfl; exact rfl) | refine run_seq ?_ | refine run_region ?_ | refine runL_nil ?_))
      exact run_ret idN _ Try.func125 ⟨_, _, rfl, rfl, rfl⟩ rfl trivial trivial rfl
    · rw [if_neg h0] at ho
      by_cases h1 : n.kind ≠ 3
      · rw [if_pos h1] at ho
        subst ho
        refine fun_intro 42 Try.func125 rfl rfl rfl (fun ι F S w => ?_)
        (repeat (first | (apply v_cx; exact rfl; exact cbA rfl; (first | exact node_s h hx | exact hof); exact rfl; exact rfl) | (apply v_move; exact rfl; exact rfl) | (apply v_assign; exact rfl; exact rfl) | refine run_seq ?_ | refine run_region ?_ | refine runL_nil ?_ | refine run_skip ?_ | (apply v_extract; exact rfl; exact rfl; exact rfl) | (apply run_cond; exact rfl; (focus (intro hb; cases hb; done)); intro hb; clear hb) | (apply v_not; exact rfl; exact rfl) | (apply v_neq; exact rfl; exact rfl; exact rfl) | (apply v_allocD; exact tyA rfl; exact rfl; exact rfl; exact rfl; exact rfl) | (apply v_storeW; exact tyA rfl; exact rfl; exact rfl; exact rfl; exact rfl; exact rfl; exact rfl; exact rfl)))
        refine run_condN rfl (by simpa using h0) ?_
        (repeat (first | refine run_seq ?_ | refine run_region ?_ | refine runL_nil ?_ | refine run_skip ?_ | (apply v_fldP; exact flA rfl; exact rfl; exact rfl; exact rfl) | (apply v_loadB; exact tyA rfl; exact rfl; exact rfl; exact rfl; exact rfl; exact rfl; exact rfl) | (apply v_neq; exact rfl; exact rfl; exact rfl)))
        refine run_condY rfl (by simpa using h1) ?_
        (repeat (first | (apply v_assign; exact rfl; exact rfl) | refine run_seq ?_ | refine run_region ?_ | refine runL_nil ?_ | (apply v_fldP; exact flA rfl; exact rfl; exact rfl; exact rfl) | (apply v_loadB; exact tyA rfl; exact rfl; exact rfl; exact rfl; exact rfl; exact rfl; exact rfl)))
        exact run_ret idN _ Try.func125 ⟨_, _, rfl, rfl, rfl⟩ rfl trivial trivial rfl
      · rw [if_neg h1] at ho
        cases comp with
        | true =>
          rw [if_neg (by simp)] at ho
          subst ho
          refine fun_intro 42 Try.func125 rfl rfl rfl (fun ι F S w => ?_)
          (repeat (first | (apply v_cx; exact rfl; exact cbA rfl; (first | exact node_s h hx | exact hof); exact rfl; exact rfl) | (apply v_move; exact rfl; exact rfl) | (apply v_assign; exact rfl; exact rfl) | refine run_seq ?_ | refine run_region ?_ | refine runL_nil ?_ | refine run_skip ?_ | (apply v_extract; exact rfl; exact rfl; exact rfl) | (apply run_cond; exact rfl; (focus (intro hb; cases hb; done)); intro hb; clear hb) | (apply v_not; exact rfl; exact rfl) | (apply v_neq; exact rfl; exact rfl; exact rfl) | (apply v_allocD; exact tyA rfl; exact rfl; exact rfl; exact rfl; exact rfl) | (apply v_storeW; exact tyA rfl; exact rfl; exact rfl; exact rfl; exact rfl; exact rfl; exact rfl; exact rfl)))
          refine run_condN rfl (by simpa using h0) ?_
          (repeat (first | refine run_seq ?_ | refine run_region ?_ | refine runL_nil ?_ | refine run_skip ?_ | (apply v_fldP; exact flA rfl; exact rfl; exact rfl; exact rfl) | (apply v_loadB; exact tyA rfl; exact rfl; exact rfl; exact rfl; exact rfl; exact rfl; exact rfl) | (apply v_neq; exact rfl; exact rfl; exact rfl)))
          refine run_condN rfl (by simpa using h1) ?_
          (repeat (first | (apply v_move; exact rfl; exact rfl) | (apply v_assign; exact rfl; exact rfl) | refine run_seq ?_ | refine run_region ?_ | refine runL_nil ?_ | refine run_skip ?_ | (apply v_fldP; exact flA rfl; exact rfl; exact rfl; exact rfl) | (apply v_loadB; exact tyA rfl; exact rfl; exact rfl; exact rfl; exact rfl; exact rfl; exact rfl) | (apply v_off; exact rfl; exact rfl) | (apply v_pick_f; exact rfl; exact rfl; exact rfl) | (apply run_cond; exact rfl; (focus (intro hb; cases hb; done)); intro hb; clear hb) | (apply v_not; exact rfl; exact rfl)))
          exact run_ret idN _ Try.func125 ⟨_, _, rfl, rfl, rfl⟩ rfl trivial trivial rfl
        | false =>
          by_cases h2 : r = id
          · rw [if_pos ⟨rfl, h2⟩] at ho
            subst ho
            refine fun_intro 42 Try.func125 rfl rfl rfl (fun ι F S w => ?_)
            (repeat (first | (apply v_cx; exact rfl; exact cbA rfl; (first | exact node_s h hx | exact hof); exact rfl; exact rfl) | (apply v_move; exact rfl; exact rfl) | (apply v_assign; exact rfl; exact rfl) | refine run_seq ?_ | refine run_region ?_ | refine runL_nil ?_ | refine run_skip ?_ | (apply v_extract; exact rfl; exact rfl; exact rfl) | (apply run_cond; exact rfl; (focus (intro hb; cases hb; done)); intro hb; clear hb) | (apply v_not; exact rfl; exact rfl) | (apply v_neq; exact rfl; exact rfl; exact rfl) | (apply v_allocD; exact tyA rfl; exact rfl; exact rfl; exact rfl; exact rfl) | (apply v_storeW; exact tyA rfl; exact rfl; exact rfl; exact rfl; exact rfl; exact rfl; exact rfl; exact rfl)))
            refine run_condN rfl (by simpa using h0) ?_
            (repeat (first | refine run_seq ?_ | refine run_region ?_ | refine runL_nil ?_ | refine run_skip ?_ | (apply v_fldP; exact flA rfl; exact rfl; exact rfl; exact rfl) | (apply v_loadB; exact tyA rfl; exact rfl; exact rfl; exact rfl; exact rfl; exact rfl; exact rfl) | (apply v_neq; exact rfl; exact rfl; exact rfl)))
            refine run_condN rfl (by simpa using h1) ?_
            (repeat (first | (apply v_cx; exact rfl; exact cbA rfl; (first | exact hrt); exact rfl; exact rfl) | (apply v_move; exact rfl; exact rfl) | refine run_seq ?_ | refine run_region ?_ | refine runL_nil ?_ | refine run_skip ?_ | (apply v_on; exact rfl) | (apply v_pick_t; exact rfl; exact rfl; exact rfl) | (apply v_not; exact rfl; exact rfl) | (apply v_eql; exact rfl; exact rfl; exact rfl)))
            refine run_condY rfl (by simpa using h2) ?_
            (repeat (first | (apply v_assign; exact rfl; exact rfl) | refine run_seq ?_ | refine run_region ?_ | refine runL_nil ?_))
            exact run_ret idN _ Try.func125 ⟨_, _, rfl, rfl, rfl⟩ rfl trivial trivial rfl
          · rw [if_neg (fun e => h2 e.2)] at ho
            subst ho
            refine fun_intro 42 Try.func125 rfl rfl rfl (fun ι F S w => ?_)
            (repeat (first | (apply v_cx; exact rfl; exact cbA rfl; (first | exact node_s h hx | exact hof); exact rfl; exact rfl) | (apply v_move; exact rfl; exact rfl) | (apply v_assign; exact rfl; exact rfl) | refine run_seq ?_ | refine run_region ?_ | refine runL_nil ?_ | refine run_skip ?_ | (apply v_extract; exact rfl; exact rfl; exact rfl) | (apply run_cond; exact rfl; (focus (intro hb; cases hb; done)); intro hb; clear hb) | (apply v_not; exact rfl; exact rfl) | (apply v_neq; exact rfl; exact rfl; exact rfl) | (apply v_allocD; exact tyA rfl; exact rfl; exact rfl; exact rfl; exact rfl) | (apply v_storeW; exact tyA rfl; exact rfl; exact rfl; exact rfl; exact rfl; exact rfl; exact rfl; exact rfl)))
            refine run_condN rfl (by simpa using h0) ?_
            (repeat (first | refine run_seq ?_ | refine run_region ?_ | refine runL_nil ?_ | refine run_skip ?_ | (apply v_fldP; exact flA rfl; exact rfl; exact rfl; exact rfl) | (apply v_loadB; exact tyA rfl; exact rfl; exact rfl; exact rfl; exact rfl; exact rfl; exact rfl) | (apply v_neq; exact rfl; exact rfl; exact rfl)))
            refine run_condN rfl (by simpa using h1) ?_
            (repeat (first | (apply v_cx; exact rfl; exact cbA rfl; (first | exact hrt); exact rfl; exact rfl) | (apply v_move; exact rfl; exact rfl) | refine run_seq ?_ | refine run_region ?_ | refine runL_nil ?_ | refine run_skip ?_ | (apply v_on; exact rfl) | (apply v_pick_t; exact rfl; exact rfl; exact rfl) | (apply v_not; exact rfl; exact rfl) | (apply v_eql; exact rfl; exact rfl; exact rfl)))
            refine run_condN rfl (by simpa using h2) ?_
            (repeat (first | (apply v_assign; exact rfl; exact rfl) | refine run_seq ?_ | refine run_region ?_ | refine runL_nil ?_ | refine run_skip ?_ | (apply v_fldP; exact flA rfl; exact rfl; exact rfl; exact rfl) | (apply v_loadB; exact tyA rfl; exact rfl; exact rfl; exact rfl; exact rfl; exact rfl; exact rfl)))
            exact run_ret idN _ Try.func125 ⟨_, _, rfl, rfl, rfl⟩ rfl trivial trivial rfl
theorem pclosed_f {l : List Nd} (h : WF l) (id : Int) : Fun Try.prog 169 [forA l, .v (.int .i64 id)] [] (.v (.bool (isClosed l id))) [] := by
  have hn := node_w h id
  have ho : isClosed l id = (decide ((nodeR l id).kind = 3) && decide ((nodeR l id).mode = 2)) := rfl
  generalize nodeR l id = n at *
  generalize (nodeAt l id).isSome = ok at *
  rw [ho]
  clear ho
  by_cases hk : n.kind = 3
  · rw [decide_eq_true hk, Bool.true_and]
    refine fun_intro 21 Try.func169 rfl rfl rfl (fun ι F S w => ?_)
    (repeat (first | (apply v_cx; exact rfl; exact cbA rfl; (first | exact hn); exact rfl; exact rfl) | (apply v_move; exact rfl; exact rfl) | (apply v_assign; exact rfl; exact rfl) | refine run_seq ?_ | refine run_region ?_ | refine runL_nil ?_ | (apply v_extract; exact rfl; exact rfl; exact rfl) | (apply v_fldP; exact flA rfl; exact rfl; exact rfl; exact rfl) | (apply v_loadB; exact tyA rfl; exact rfl; exact rfl; exact rfl; exact rfl; exact rfl; exact rfl) | (apply v_eql; exact rfl; exact rfl; exact rfl) | (apply v_allocD; exact tyA rfl; exact rfl; exact rfl; exact rfl; exact rfl) | (apply v_storeW; exact tyA rfl; exact rfl; exact rfl; exact rfl; exact rfl; exact rfl; exact rfl; exact rfl)))
    refine v_is 16 true rfl (by simpa using hk) ?_
    (repeat (first | (apply v_assign; exact rfl; exact rfl) | refine runL_nil ?_ | (apply v_fldP; exact flA rfl; exact rfl; exact rfl; exact rfl) | (apply v_loadB; exact tyA rfl; exact rfl; exact rfl; exact rfl; exact rfl; exact rfl; exact rfl) | (apply v_on; exact rfl) | (apply v_pick_t; exact rfl; exact rfl; exact rfl) | (apply v_eql; exact rfl; exact rfl; exact rfl)))
    exact run_ret idN _ Try.func169 ⟨_, _, rfl, rfl, rfl⟩ rfl trivial trivial rfl
  · rw [decide_eq_false hk, Bool.false_and]
    refine fun_intro 21 Try.func169 rfl rfl rfl (fun ι F S w => ?_)
    (repeat (first | (apply v_cx; exact rfl; exact cbA rfl; (first | exact hn); exact rfl; exact rfl) | (apply v_move; exact rfl; exact rfl) | (apply v_assign; exact rfl; exact rfl) | refine run_seq ?_ | refine run_region ?_ | refine runL_nil ?_ | (apply v_extract; exact rfl; exact rfl; exact rfl) | (apply v_fldP; exact flA rfl; exact rfl; exact rfl; exact rfl) | (apply v_loadB; exact tyA rfl; exact rfl; exact rfl; exact rfl; exact rfl; exact rfl; exact rfl) | (apply v_eql; exact rfl; exact rfl; exact rfl) | (apply v_allocD; exact tyA rfl; exact rfl; exact rfl; exact rfl; exact rfl) | (apply v_storeW; exact tyA rfl; exact rfl; exact rfl; exact rfl; exact rfl; exact rfl; exact rfl; exact rfl)))
    refine v_is 16 false rfl (by simpa using hk) ?_
    (repeat (first | (apply v_assign; exact rfl; exact rfl) | refine runL_nil ?_ | (apply v_off; exact rfl; exact rfl) | (apply v_pick_f; exact rfl; exact rfl; exact rfl)))
    exact run_ret idN _ Try.func169 ⟨_, _, rfl, rfl, rfl⟩ rfl trivial trivial rfl
structure St where
  node : Int
  target : Int
  related : Int
  cr : Bool
  cs : Bool
deriving DecidableEq
def stL (x : St) : List AV := [.v (.int .i64 x.node), .v (.int .i64 x.target), .v (.int .i64 x.related), .v (.bool x.cr), .v (.bool x.cs)]
def stE : Enc St where
  sz := 5
  f := stL
  len := fun _ => rfl
  leaf := fun _ => rfl
def stM (l : List Nd) (id target related : Int) (sl : Bool) : St := ⟨id, target, related, isClosed l id, sl && isClosed l (rootM l id)⟩
/-- What Make's closure has. -/
def addR (l : List Nd) (g : Nat) (out : List St) : List (Nat × RK) := [(0, .box 68 [.res g]), (1, .box 25 [forA l]), (g, .obj (ownS 94 stE out))]
theorem add_f {l : List Nd} (h : WF l) (id target related : Int) (sl : Bool) (out : List St) (hm : out.length ≤ 100000) : Fun Try.prog 168 [.v (.int .i64 id), .v (.int .i64 target), .v (.int .i64 related), .v (.bool sl), .ptr 0 0, .ptr 1 0] (addR l 3 out) (.tup []) (addR l 4 (out ++ [stM l id target related sl])) := by
  have hc := pclosed_f h id
  have hr := root_f h id
  have hc2 := pclosed_f h (rootM l id)
  have ho : stM l id target related sl = ⟨id, target, related, isClosed l id, sl && isClosed l (rootM l id)⟩ := rfl
  generalize stM l id target related sl = s at *
  generalize isClosed l id = c1 at *
  generalize isClosed l (rootM l id) = c2 at *
  generalize rootM l id = r at *
  cases sl with
  | true =>
    rw [Bool.true_and] at ho
    subst ho
    refine fun_intro 28 Try.func168 rfl rfl rfl (fun ι F S w => ?_)
    skip
    refine run_draws (by kernel_rfl) (by kernel_rfl) ?_
    (repeat (first | (apply p_cx; exact rfl; exact cbA rfl; (first | exact hc | exact hr | exact hc2); exact rfl; exact rfl; exact rfl) | (apply p_move; exact rfl; exact rfl; exact rfl) | (apply p_loadB; exact tyA rfl; exact rfl; exact rfl; exact rfl; exact rfl; exact rfl; exact rfl; exact rfl) | (apply p_pick_t; exact rfl; exact rfl; exact rfl; exact rfl) | (apply p_b; exact plA rfl; exact tyA rfl; exact rfl; exact rfl; exact rfl; exact rfl)))
    refine p_l stE [⟨id, target, related, c1, c2⟩] (slA rfl) (tyA rfl) rfl rfl rfl rfl rfl rfl rfl rfl rfl rfl rfl ?_
    refine p_appendD (slA rfl) (tyA rfl) rfl rfl rfl rfl rfl rfl rfl (by simp; omega) rfl rfl rfl ?_
    (repeat (first | (apply p_storeW; exact tyA rfl; exact rfl; exact rfl; exact rfl; exact rfl; exact rfl; exact rfl; exact rfl; exact rfl)))
    refine planL_nil (by kernel_rfl) ?_
    skip
    exact run_end (mp [(4, 27)]) _ Try.func168 rfl rfl ⟨rfl, rfl, rfl, trivial⟩ ⟨rfl, rfl, rfl, trivial⟩ rfl
  | false =>
    rw [Bool.false_and] at ho
    subst ho
    refine fun_intro 28 Try.func168 rfl rfl rfl (fun ι F S w => ?_)
    skip
    refine run_draws (by kernel_rfl) (by kernel_rfl) ?_
    (repeat (first | (apply p_cx; exact rfl; exact cbA rfl; (first | exact hc | exact hr | exact hc2); exact rfl; exact rfl; exact rfl) | (apply p_off; exact rfl; exact rfl) | (apply p_move; exact rfl; exact rfl; exact rfl) | (apply p_loadB; exact tyA rfl; exact rfl; exact rfl; exact rfl; exact rfl; exact rfl; exact rfl; exact rfl) | (apply p_pick_f; exact rfl; exact rfl; exact rfl; exact rfl) | (apply p_b; exact plA rfl; exact tyA rfl; exact rfl; exact rfl; exact rfl; exact rfl)))
    refine p_l stE [⟨id, target, related, c1, false⟩] (slA rfl) (tyA rfl) rfl rfl rfl rfl rfl rfl rfl rfl rfl rfl rfl ?_
    refine p_appendD (slA rfl) (tyA rfl) rfl rfl rfl rfl rfl rfl rfl (by simp; omega) rfl rfl rfl ?_
    (repeat (first | (apply p_storeW; exact tyA rfl; exact rfl; exact rfl; exact rfl; exact rfl; exact rfl; exact rfl; exact rfl; exact rfl)))
    refine planL_nil (by kernel_rfl) ?_
    skip
    exact run_end (mp [(4, 27)]) _ Try.func168 rfl rfl ⟨rfl, rfl, rfl, trivial⟩ ⟨rfl, rfl, rfl, trivial⟩ rfl
end Go.Proofs.Ytjkidecaciomgaa
/- path.Make. -/
namespace Go.Proofs.Ytjkidecaciomgaa
set_option linter.unusedVariables false
set_option linter.unusedSimpArgs false
set_option maxRecDepth 100000
open Go.RowKit

theorem ev_zero (l : List Nd) (first : Int) (comp : Bool) : evP l first comp 0 = 0 := by rw [evP, nodeAt_zero]
theorem ev_there {l : List Nd} (h : WF l) (first : Int) (comp : Bool) (id : Int) : evP l first comp id = 0 ∨ ∃ y, nodeAt l (evP l first comp id) = some y := by
  cases hx : nodeAt l id with
  | none => exact .inl (by rw [evP, hx])
  | some n =>
    by_cases h0 : ofM l id = 0
    · rcases ev_up h first comp hx h0 with e | e
      · rw [e]
        by_cases hp : upX n = 0
        · exact .inl hp
        · right
          cases hy : nodeAt l (upX n) with
          | some y => exact ⟨y, rfl⟩
          | none =>
            exfalso
            unfold upX at hy hp
            split at hy
            · rename_i hz
              rw [if_pos hz] at hp
              rcases h.host hx with e2 | e2
              · exact hp e2
              · obtain ⟨y, hy2, _⟩ := e2.2
                rw [hy2] at hy; cases hy
            · rename_i hz
              rcases h.par hx with e2 | ⟨y, hy2, _⟩
              · exact hz e2
              · rw [hy2] at hy; cases hy
      · exact .inl e
    · right
      obtain ⟨n', p, _, _, _, _, hm, _⟩ := of_ok h h0
      have e : evP l first comp id = ofM l id := by rw [evP, hx]; simp [h0]
      rw [e]
      exact (up_there h (par_up h hm)).2
theorem way_there {l : List Nd} (h : WF l) (first : Int) (comp : Bool) : ∀ (n : Nat) (a : Int), (a = 0 ∨ ∃ y, nodeAt l a = some y) → ∀ b ∈ wayN (evP l first comp) n a, ∃ y, nodeAt l b = some y
  | 0, a, ha, b, hb => by cases hb
  | n + 1, a, ha, b, hb => by
    have e : wayN (evP l first comp) (n + 1) a = if a = 0 then [] else a :: wayN (evP l first comp) n (evP l first comp a) := rfl
    rw [e] at hb
    by_cases h0 : a = 0
    · rw [if_pos h0] at hb; cases hb
    · rw [if_neg h0] at hb
      rcases List.mem_cons.1 hb with rfl | hb
      · exact ha.resolve_left h0
      · exact way_there h first comp n _ (ev_there h first comp a) b hb
theorem way_short {f : Int → Int} : ∀ (n : Nat) (a : Int), f 0 = 0 → (wayN f n a).length < n → itF f n a = 0
  | 0, a, hf, h => by omega
  | n + 1, a, hf, h => by
    have e : wayN f (n + 1) a = if a = 0 then [] else a :: wayN f n (f a) := rfl
    rw [e] at h
    have e2 : itF f (n + 1) a = itF f n (f a) := rfl
    by_cases h0 : a = 0
    · rw [e2, h0, hf]
      clear e h e2 h0
      induction n with
      | zero => rfl
      | succ n ih => show itF f n (f 0) = 0; rw [hf]; exact ih
    · rw [if_neg h0, List.length_cons] at h
      rw [e2]
      exact way_short n (f a) hf (by omega)
/-- The nodes on an event's way. -/
def wayM (l : List Nd) (first : Int) (comp : Bool) (id : Int) : List Int := wayN (evP l first comp) 129 id
theorem wayM_len {l : List Nd} (h : WF l) (first : Int) (comp : Bool) {id : Int} (hid : id = 0 ∨ ∃ y, nodeAt l id = some y) (n : Nat) : (wayN (evP l first comp) n id).length ≤ l.length := by
  refine nodup_len _ _ (way_nodup (ev_zero l first comp) n id (ev_ends h first comp id)) fun c hc => ?_
  obtain ⟨y, hy⟩ := way_there h first comp n id hid c hc
  have := nodeAt_some hy
  omega
theorem ev_129 {l : List Nd} (h : WF l) (first : Int) (comp : Bool) {id : Int} (hid : id = 0 ∨ ∃ y, nodeAt l id = some y) : itF (evP l first comp) 129 id = 0 := by
  refine way_short 129 id (ev_zero l first comp) ?_
  have := wayM_len h first comp hid 129
  have := h.len
  omega
def pathGo (l : List Nd) (target related : Int) (comp : Bool) : Nat → Int → Int → Int → List St
  | 0, _, _, _ => []
  | n + 1, t, from', at' => if at' = 0 then [] else if rootM l t ∈ ch l upX at' then stM l at' 0 (aimM l related at') (decide (ofM l from' ≠ 0)) :: pathGo l target related comp n t at' (evP l target comp at') else if at' = aimM l related at' then [] else stM l at' at' (aimM l related at') (decide (ofM l from' ≠ 0)) :: pathGo l target related comp n at' at' (evP l target comp at')
def pathM (l : List Nd) (target related : Int) (comp : Bool) : List St :=
  if nodeAt l target = none then [] else if aimM l related target = target ∧ related ≠ target then [] else stM l target target (aimM l related target) false :: pathGo l target related comp 129 target target (evP l target comp target)
/-- Hidden from arithmetic. -/
structure Bx' (p : Prop) : Prop where
  out : p
theorem via3 {p G : Prop} (h : p) (k : Bx' p → G) : G := k ⟨h⟩
theorem pathGo_len (l : List Nd) (target related : Int) (comp : Bool) : ∀ (n : Nat) (t f a : Int), (pathGo l target related comp n t f a).length ≤ n
  | 0, _, _, _ => Nat.le_refl _
  | n + 1, t, f, a => by
    have h1 := pathGo_len l target related comp n
    unfold pathGo
    split
    · simp
    · split
      · simp only [List.length_cons]; have := h1 t a (evP l target comp a); omega
      · split
        · simp
        · simp only [List.length_cons]; have := h1 a a (evP l target comp a); omega
theorem pathGo_end (l : List Nd) (target related : Int) (comp : Bool) (n : Nat) (t f : Int) : pathGo l target related comp n t f 0 = [] := by
  cases n with
  | zero => rfl
  | succ n => unfold pathGo; rw [if_pos rfl]
theorem path_f {l : List Nd} (h : WF l) (target related : Int) (comp : Bool) : Fun Try.prog 128 [forA l, .v (.int .i64 target), .v (.int .i64 related), .v (.bool comp)] [] (.res 0) [(0, .obj (ownS 94 stE (pathM l target related comp)))] := by
  cases hx : nodeAt l target with
  | none =>
    rw [show pathM l target related comp = [] by rw [pathM, if_pos hx]]
    refine fun_intro 92 Try.func128 rfl rfl rfl (fun ι F S w => ?_)
    (repeat (first | (apply v_cx; exact rfl; exact cbA rfl; (first | exact node_n h hx); exact rfl; exact rfl) | (apply v_move; exact rfl; exact rfl) | (apply v_assign; exact rfl; exact rfl) | refine run_seq ?_ | refine run_region ?_ | refine runL_nil ?_ | (apply v_extract; exact rfl; exact rfl; exact rfl) | (apply v_loadB; exact tyA rfl; exact rfl; exact rfl; exact rfl; exact rfl; exact rfl; exact rfl) | (apply run_cond; exact rfl; rotate_left; (focus (intro hb; cases hb; done)); intro hb; clear hb) | (apply v_not; exact rfl; exact rfl) | (apply v_allocD; exact tyA rfl; exact rfl; exact rfl; exact rfl; exact rfl) | (apply v_boxD; exact rfl; exact rfl; exact rfl; exact rfl; exact rfl; exact rfl; exact rfl) | (apply v_storeW; exact tyA rfl; exact rfl; exact rfl; exact rfl; exact rfl; exact rfl; exact rfl; exact rfl)))
    refine run_own 8 8 94 stE rfl rfl rfl rfl ?_
    exact run_ret (mp [(0, 8)]) _ Try.func128 ⟨_, _, rfl, rfl, rfl⟩ rfl trivial ⟨rfl, trivial⟩ rfl
  | some n =>
    have ho : pathM l target related comp = if aimM l related target = target ∧ related ≠ target then [] else stM l target target (aimM l related target) false :: pathGo l target related comp 129 target target (evP l target comp target) := by rw [pathM, if_neg (by rw [hx]; simp)]
    have ha := aim_f h related target
    generalize hA : aimM l related target = x at *
    generalize pathM l target related comp = out at *
    by_cases hB : x = target ∧ related ≠ target
    · rw [if_pos hB] at ho
      subst ho
      refine fun_intro 92 Try.func128 rfl rfl rfl (fun ι F S w => ?_)
      (repeat (first | (apply v_cx; exact rfl; exact cbA rfl; (first | exact node_s h hx | exact ha); exact rfl; exact rfl) | (apply v_move; exact rfl; exact rfl) | (apply v_assign; exact rfl; exact rfl) | refine run_seq ?_ | refine run_region ?_ | refine runL_nil ?_ | refine run_skip ?_ | (apply v_extract; exact rfl; exact rfl; exact rfl) | (apply v_loadB; exact tyA rfl; exact rfl; exact rfl; exact rfl; exact rfl; exact rfl; exact rfl) | (apply run_cond; exact rfl; (focus (intro hb; cases hb; done)); intro hb; clear hb) | (apply v_not; exact rfl; exact rfl) | (apply v_eql; exact rfl; exact rfl; exact rfl) | (apply v_allocD; exact tyA rfl; exact rfl; exact rfl; exact rfl; exact rfl) | (apply v_boxD; exact rfl; exact rfl; exact rfl; exact rfl; exact rfl; exact rfl; exact rfl) | (apply v_storeW; exact tyA rfl; exact rfl; exact rfl; exact rfl; exact rfl; exact rfl; exact rfl; exact rfl)))
      refine v_is 33 true rfl (by simpa using hB.1) ?_
      (repeat (first | (apply v_move; exact rfl; exact rfl) | refine runL_nil ?_ | (apply v_on; exact rfl) | (apply v_pick_t; exact rfl; exact rfl; exact rfl) | (apply v_neq; exact rfl; exact rfl; exact rfl)))
      refine run_condY rfl (by simpa using hB.2) ?_
      (repeat (first | (apply v_assign; exact rfl; exact rfl) | refine run_seq ?_ | refine run_region ?_ | refine runL_nil ?_))
      refine run_own 8 8 94 stE rfl rfl rfl rfl ?_
      exact run_ret (mp [(0, 8)]) _ Try.func128 ⟨_, _, rfl, rfl, rfl⟩ rfl trivial ⟨rfl, trivial⟩ rfl
    · rw [if_neg hB] at ho
      refine fun_intro 92 Try.func128 rfl rfl rfl (fun ι F S w => ?_)
      apply via3
      rotate_left
      · intro key
        by_cases h1 : x = target
        · have h2 : related = target := Classical.byContradiction fun e => hB ⟨h1, e⟩
          (repeat (first | (apply v_cx; exact rfl; exact cbA rfl; (first | exact node_s h hx | exact ha); exact rfl; exact rfl) | (apply v_move; exact rfl; exact rfl) | (apply v_assign; exact rfl; exact rfl) | refine run_seq ?_ | refine run_region ?_ | refine runL_nil ?_ | refine run_skip ?_ | (apply v_extract; exact rfl; exact rfl; exact rfl) | (apply v_loadB; exact tyA rfl; exact rfl; exact rfl; exact rfl; exact rfl; exact rfl; exact rfl) | (apply run_cond; exact rfl; (focus (intro hb; cases hb; done)); intro hb; clear hb) | (apply v_not; exact rfl; exact rfl) | (apply v_eql; exact rfl; exact rfl; exact rfl) | (apply v_allocD; exact tyA rfl; exact rfl; exact rfl; exact rfl; exact rfl) | (apply v_boxD; exact rfl; exact rfl; exact rfl; exact rfl; exact rfl; exact rfl; exact rfl) | (apply v_storeW; exact tyA rfl; exact rfl; exact rfl; exact rfl; exact rfl; exact rfl; exact rfl; exact rfl)))
          refine v_is 33 true rfl (by simpa using h1) ?_
          (repeat (first | (apply v_move; exact rfl; exact rfl) | refine runL_nil ?_ | (apply v_on; exact rfl) | (apply v_pick_t; exact rfl; exact rfl; exact rfl) | (apply v_neq; exact rfl; exact rfl; exact rfl)))
          refine run_condN rfl (by simpa using h2) ?_
          (repeat (first | (apply v_move; exact rfl; exact rfl) | (apply v_assign; exact rfl; exact rfl) | refine run_seq ?_ | refine run_region ?_ | refine runL_nil ?_ | refine run_skip ?_ | (apply v_allocD; exact tyA rfl; exact rfl; exact rfl; exact rfl; exact rfl) | (apply v_f; exact rfl; exact rfl)))
          refine runL_weak idN (σ2 := ⟨[(1, .v (.int .i64 target)), (2, .v (.int .i64 related)), (3, .v (.bool comp)), (4, .ptr 4 0), (12, .ptr 12 0), (13, .fn 168 [.ptr 12 0, .ptr 4 0]), (39, .fn 168 [.ptr 12 0, .ptr 4 0]), (40, .v (.int .i64 target)), (41, .v (.int .i64 target)), (42, .v (.int .i64 x))], [(4, .box 25 [forA l]), (12, .box 68 [.v (.slice none 0 0)])]⟩) ?_ ?_ ?_ ?_ key.out <;> first | exact trivial | exact ⟨rfl, rfl, rfl, rfl, rfl, rfl, rfl, rfl, rfl, rfl, trivial⟩ | exact ⟨rfl, rfl, trivial⟩ | rfl
        · (repeat (first | (apply v_cx; exact rfl; exact cbA rfl; (first | exact node_s h hx | exact ha); exact rfl; exact rfl) | (apply v_move; exact rfl; exact rfl) | (apply v_assign; exact rfl; exact rfl) | refine run_seq ?_ | refine run_region ?_ | refine runL_nil ?_ | refine run_skip ?_ | (apply v_extract; exact rfl; exact rfl; exact rfl) | (apply v_loadB; exact tyA rfl; exact rfl; exact rfl; exact rfl; exact rfl; exact rfl; exact rfl) | (apply run_cond; exact rfl; (focus (intro hb; cases hb; done)); intro hb; clear hb) | (apply v_not; exact rfl; exact rfl) | (apply v_eql; exact rfl; exact rfl; exact rfl) | (apply v_allocD; exact tyA rfl; exact rfl; exact rfl; exact rfl; exact rfl) | (apply v_boxD; exact rfl; exact rfl; exact rfl; exact rfl; exact rfl; exact rfl; exact rfl) | (apply v_storeW; exact tyA rfl; exact rfl; exact rfl; exact rfl; exact rfl; exact rfl; exact rfl; exact rfl)))
          refine v_is 33 false rfl (by simpa using h1) ?_
          (repeat (first | (apply v_move; exact rfl; exact rfl) | (apply v_assign; exact rfl; exact rfl) | refine run_seq ?_ | refine run_region ?_ | refine runL_nil ?_ | refine run_skip ?_ | (apply v_off; exact rfl; exact rfl) | (apply v_pick_f; exact rfl; exact rfl; exact rfl) | (apply run_cond; exact rfl; (focus (intro hb; cases hb; done)); intro hb; clear hb) | (apply v_allocD; exact tyA rfl; exact rfl; exact rfl; exact rfl; exact rfl) | (apply v_f; exact rfl; exact rfl)))
          refine runL_weak idN (σ2 := ⟨[(1, .v (.int .i64 target)), (2, .v (.int .i64 related)), (3, .v (.bool comp)), (4, .ptr 4 0), (12, .ptr 12 0), (13, .fn 168 [.ptr 12 0, .ptr 4 0]), (39, .fn 168 [.ptr 12 0, .ptr 4 0]), (40, .v (.int .i64 target)), (41, .v (.int .i64 target)), (42, .v (.int .i64 x))], [(4, .box 25 [forA l]), (12, .box 68 [.v (.slice none 0 0)])]⟩) ?_ ?_ ?_ ?_ key.out <;> first | exact trivial | exact ⟨rfl, rfl, rfl, rfl, rfl, rfl, rfl, rfl, rfl, rfl, trivial⟩ | exact ⟨rfl, rfl, trivial⟩ | rfl
      · clear ha
        have hev := fun a => evp_f h a target comp
        have he0 := ev_129 h target comp (ev_there h target comp target)
        refine runL_ownB 12 0 50 94 stE rfl rfl rfl rfl rfl rfl rfl ?_
        refine v_cC (l := [.v (.int .i64 target), .v (.int .i64 target), .v (.int .i64 x), .v (.bool false)]) (cap := [.ptr 0 0, .ptr 1 0]) (mp [(0, 12), (1, 4), (3, 50), (4, 100)]) (add_f h target target x false [] (by simp)) rfl rfl (cbA rfl) ⟨rfl, rfl, rfl, trivial⟩ (by kernel_rfl) (by kernel_rfl) (by kernel_rfl) (by kernel_rfl) (by kernel_rfl) (by kernel_rfl) (by kernel_rfl) (by kernel_rfl) rfl ?_
        (repeat (first | (apply v_cx; exact rfl; exact cbA rfl; (first | exact hev target); exact rfl; exact rfl) | (apply v_move; exact rfl; exact rfl) | (apply v_assign; exact rfl; exact rfl) | refine run_seq ?_ | refine run_region ?_ | refine runL_nil ?_ | refine run_block ?_ | (apply v_loadB; exact tyA rfl; exact rfl; exact rfl; exact rfl; exact rfl; exact rfl; exact rfl)))
        refine v_loop (fun q : Nat × Int × Int × Int × List St => ⟨[(1, .v (.int .i64 target)), (2, .v (.int .i64 related)), (3, .v (.bool comp)), (4, .ptr 4 0), (12, .ptr 12 0), (13, .fn 168 [.ptr 12 0, .ptr 4 0]), (14, .v (.int .i64 q.2.1)), (15, .v (.int .i64 q.2.2.1)), (16, .v (.int .i64 q.2.2.2.1))], [(4, .box 25 [forA l]), (12, .box 68 [.res 50]), (50, .obj (ownS 94 stE q.2.2.2.2))]⟩) (fun q => q.2.2.2.2.length + q.1 ≤ 130 ∧ itF (evP l target comp) q.1 q.2.2.2.1 = 0 ∧ out = q.2.2.2.2 ++ pathGo l target related comp q.1 q.2.1 q.2.2.1 q.2.2.2.1) (fun q => q.1) (129, target, target, evP l target comp target, [stM l target target x false]) (mp [(50, 100)]) trivial (by repeat (first | exact trivial | refine ⟨rfl, ?_⟩)) (by repeat (first | exact trivial | refine ⟨rfl, ?_⟩)) rfl ⟨by simp, he0, ho⟩ fun ⟨n, t, from', at', acc⟩ ⟨hq1, hq2, hq3⟩ ih => ?_
        dsimp only at hq1 hq2 hq3 ⊢
        have hst : pathGo l target related comp n t from' at' = match n with
          | 0 => []
          | n + 1 => if at' = 0 then [] else if rootM l t ∈ ch l upX at' then stM l at' 0 (aimM l related at') (decide (ofM l from' ≠ 0)) :: pathGo l target related comp n t at' (evP l target comp at') else if at' = aimM l related at' then [] else stM l at' at' (aimM l related at') (decide (ofM l from' ≠ 0)) :: pathGo l target related comp n at' at' (evP l target comp at') := by cases n <;> rfl
        (repeat (first | (apply v_move; exact rfl; exact rfl) | refine run_seq ?_ | refine run_region ?_ | refine runL_nil ?_ | (apply v_neq; exact rfl; exact rfl; exact rfl)))
        refine run_cond rfl (fun hb => ?_) (fun hb => ?_)
        · have hne : at' ≠ 0 := by simpa using hb
          cases n with
          | zero => exact absurd hq2 hne
          | succ n =>
            dsimp only at hst
            rw [if_neg hne] at hst
            have h2 : itF (evP l target comp) n (evP l target comp at') = 0 := hq2
            have hof := of_f h from'
            have ha := aim_f h related at'
            have hr := root_f h t
            have hh := holds_f h (rootM l t) at'
            have he := hev at'
            rw [hst] at hq3
            clear hst
            have hadd := fun tg sl => add_f h at' tg (aimM l related at') sl acc (by omega)
            generalize evP l target comp at' = nx at *
            generalize aimM l related at' = x2 at *
            have hsl : ∀ b, b = decide (ofM l from' ≠ 0) → b = !(ofM l from' == 0) := fun b hb => by rw [hb]; by_cases e : ofM l from' = 0 <;> simp [e]
            rw [show decide (ofM l from' ≠ 0) = !(ofM l from' == 0) from hsl _ rfl] at hq3
            clear hsl
            generalize ofM l from' = o at *
            by_cases hin : rootM l t ∈ ch l upX at'
            · rw [if_pos hin] at hq3
              rw [decide_eq_true hin] at hh
              (repeat (first | (apply v_cx; exact rfl; exact cbA rfl; (first | exact hof | exact ha); exact rfl; exact rfl) | (apply v_move; exact rfl; exact rfl) | (apply v_assign; exact rfl; exact rfl) | refine run_seq ?_ | refine run_region ?_ | refine runL_nil ?_ | refine run_skip ?_ | refine run_block ?_ | (apply v_loadB; exact tyA rfl; exact rfl; exact rfl; exact rfl; exact rfl; exact rfl; exact rfl) | (apply v_neq; exact rfl; exact rfl; exact rfl)))
              refine run_draws (by kernel_rfl) (by kernel_rfl) ?_
              (repeat (first | (apply p_cx; exact rfl; exact cbA rfl; (first | exact hr | exact hh); exact rfl; exact rfl; exact rfl) | (apply p_move; exact rfl; exact rfl; exact rfl) | (apply p_assign; exact rfl; exact rfl; exact rfl) | (apply p_loadB; exact tyA rfl; exact rfl; exact rfl; exact rfl; exact rfl; exact rfl; exact rfl; exact rfl)))
              refine planL_nil (by kernel_rfl) ?_
              (repeat (first | (apply v_move; exact rfl; exact rfl) | refine run_region ?_ | (apply run_cond; exact rfl; rotate_left; (focus (intro hb; cases hb; done)); intro hb; clear hb)))
              refine v_cC (l := [.v (.int .i64 at'), .v (.int .i64 0), .v (.int .i64 x2), .v (.bool (!(o == 0)))]) (cap := [.ptr 0 0, .ptr 1 0]) (mp [(0, 12), (1, 4), (3, 50), (4, 100)]) (hadd 0 _) rfl rfl (cbA rfl) ⟨rfl, rfl, rfl, trivial⟩ (by kernel_rfl) (by kernel_rfl) (by kernel_rfl) (by kernel_rfl) (by kernel_rfl) (by kernel_rfl) (by kernel_rfl) (by kernel_rfl) rfl ?_
              (repeat (first | (apply v_cx; exact rfl; exact cbA rfl; (first | exact he); exact rfl; exact rfl) | (apply v_move; exact rfl; exact rfl) | (apply v_assign; exact rfl; exact rfl) | refine run_region ?_ | refine runL_nil ?_ | refine run_inBlock ?_ | (apply v_loadB; exact tyA rfl; exact rfl; exact rfl; exact rfl; exact rfl; exact rfl; exact rfl)))
              exact v_again ih (n, t, at', nx, acc ++ [_]) (mp [(50, 100)]) trivial (by repeat (first | exact trivial | refine ⟨rfl, ?_⟩)) (by repeat (first | exact trivial | refine ⟨rfl, ?_⟩)) rfl ⟨by simp; omega, h2, by rw [hq3, List.append_assoc]; rfl⟩ (by simp)
            · rw [if_neg hin] at hq3
              rw [decide_eq_false hin] at hh
              by_cases hat : at' = x2
              · rw [if_pos hat, List.append_nil] at hq3
                subst hq3
                (repeat (first | (apply v_cx; exact rfl; exact cbA rfl; (first | exact hof | exact ha); exact rfl; exact rfl) | (apply v_move; exact rfl; exact rfl) | (apply v_assign; exact rfl; exact rfl) | refine run_seq ?_ | refine run_region ?_ | refine runL_nil ?_ | refine run_skip ?_ | refine run_block ?_ | (apply v_loadB; exact tyA rfl; exact rfl; exact rfl; exact rfl; exact rfl; exact rfl; exact rfl) | (apply v_neq; exact rfl; exact rfl; exact rfl)))
                refine run_draws (by kernel_rfl) (by kernel_rfl) ?_
                (repeat (first | (apply p_cx; exact rfl; exact cbA rfl; (first | exact hr | exact hh); exact rfl; exact rfl; exact rfl) | (apply p_move; exact rfl; exact rfl; exact rfl) | (apply p_assign; exact rfl; exact rfl; exact rfl) | (apply p_loadB; exact tyA rfl; exact rfl; exact rfl; exact rfl; exact rfl; exact rfl; exact rfl; exact rfl)))
                refine planL_nil (by kernel_rfl) ?_
                (repeat (first | (apply v_move; exact rfl; exact rfl) | (apply v_assign; exact rfl; exact rfl) | refine run_seq ?_ | refine run_region ?_ | refine runL_nil ?_ | (apply run_cond; exact rfl; (focus (intro hb; cases hb; done)); intro hb; clear hb) | (apply v_eql; exact rfl; exact rfl; exact rfl)))
                refine run_condY rfl (by simpa using hat) ?_
                (repeat (first | (apply v_assign; exact rfl; exact rfl) | refine run_seq ?_ | refine run_region ?_ | refine runL_nil ?_ | (apply v_loadB; exact tyA rfl; exact rfl; exact rfl; exact rfl; exact rfl; exact rfl; exact rfl)))
                exact run_ret (mp [(0, 50)]) _ Try.func128 ⟨_, _, rfl, rfl, rfl⟩ rfl trivial ⟨rfl, trivial⟩ rfl
              · rw [if_neg hat] at hq3
                (repeat (first | (apply v_cx; exact rfl; exact cbA rfl; (first | exact hof | exact ha); exact rfl; exact rfl) | (apply v_move; exact rfl; exact rfl) | (apply v_assign; exact rfl; exact rfl) | refine run_seq ?_ | refine run_region ?_ | refine runL_nil ?_ | refine run_skip ?_ | refine run_block ?_ | (apply v_loadB; exact tyA rfl; exact rfl; exact rfl; exact rfl; exact rfl; exact rfl; exact rfl) | (apply v_neq; exact rfl; exact rfl; exact rfl)))
                refine run_draws (by kernel_rfl) (by kernel_rfl) ?_
                (repeat (first | (apply p_cx; exact rfl; exact cbA rfl; (first | exact hr | exact hh); exact rfl; exact rfl; exact rfl) | (apply p_move; exact rfl; exact rfl; exact rfl) | (apply p_assign; exact rfl; exact rfl; exact rfl) | (apply p_loadB; exact tyA rfl; exact rfl; exact rfl; exact rfl; exact rfl; exact rfl; exact rfl; exact rfl)))
                refine planL_nil (by kernel_rfl) ?_
                (repeat (first | (apply v_move; exact rfl; exact rfl) | (apply v_assign; exact rfl; exact rfl) | refine run_seq ?_ | refine run_region ?_ | refine runL_nil ?_ | (apply run_cond; exact rfl; (focus (intro hb; cases hb; done)); intro hb; clear hb) | (apply v_eql; exact rfl; exact rfl; exact rfl)))
                refine run_condN rfl (by simpa using hat) ?_
                (repeat (first | (apply v_move; exact rfl; exact rfl) | (apply v_assign; exact rfl; exact rfl) | refine run_seq ?_ | refine run_region ?_ | refine runL_nil ?_))
                refine v_cC (l := [.v (.int .i64 at'), .v (.int .i64 at'), .v (.int .i64 x2), .v (.bool (!(o == 0)))]) (cap := [.ptr 0 0, .ptr 1 0]) (mp [(0, 12), (1, 4), (3, 50), (4, 100)]) (hadd at' _) rfl rfl (cbA rfl) ⟨rfl, rfl, rfl, trivial⟩ (by kernel_rfl) (by kernel_rfl) (by kernel_rfl) (by kernel_rfl) (by kernel_rfl) (by kernel_rfl) (by kernel_rfl) (by kernel_rfl) rfl ?_
                (repeat (first | (apply v_cx; exact rfl; exact cbA rfl; (first | exact he); exact rfl; exact rfl) | (apply v_move; exact rfl; exact rfl) | (apply v_assign; exact rfl; exact rfl) | refine run_region ?_ | refine runL_nil ?_ | refine run_inBlock ?_ | (apply v_loadB; exact tyA rfl; exact rfl; exact rfl; exact rfl; exact rfl; exact rfl; exact rfl)))
                exact v_again ih (n, at', at', nx, acc ++ [_]) (mp [(50, 100)]) trivial (by repeat (first | exact trivial | refine ⟨rfl, ?_⟩)) (by repeat (first | exact trivial | refine ⟨rfl, ?_⟩)) rfl ⟨by simp; omega, h2, by rw [hq3, List.append_assoc]; rfl⟩ (by simp)
        · have h0 : at' = 0 := by simpa using hb
          have he : pathGo l target related comp n t from' at' = [] := by rw [h0]; exact pathGo_end l target related comp n t from'
          rw [he, List.append_nil] at hq3
          subst hq3
          (repeat (first | (apply v_assign; exact rfl; exact rfl) | refine run_seq ?_ | refine run_region ?_ | refine runL_nil ?_ | (apply run_exit; exact rfl) | (apply v_loadB; exact tyA rfl; exact rfl; exact rfl; exact rfl; exact rfl; exact rfl; exact rfl)))
          exact run_ret (mp [(0, 50)]) _ Try.func128 ⟨_, _, rfl, rfl, rfl⟩ rfl trivial ⟨rfl, trivial⟩ rfl
theorem path_p {l : List Nd} (h : WF l) (target related : Int) (comp : Bool) : Fun Try.prog 128 [forA l, .v (.int .i64 target), .v (.int .i64 related), .v (.bool comp)] [] (.sem (listS stE (pathM l target related comp))) [] := (path_f h target related comp).freeze
theorem pathM_len (l : List Nd) (target related : Int) (comp : Bool) : (pathM l target related comp).length ≤ 130 := by
  have := pathGo_len l target related comp 129 target target (evP l target comp target)
  unfold pathM
  split
  · simp
  · split
    · simp
    · simp only [List.length_cons]; omega
end Go.Proofs.Ytjkidecaciomgaa
/- An event's path, plain. -/
namespace Go.Proofs.Ytjkidecaciomgaa
set_option linter.unusedVariables false
set_option linter.unusedSimpArgs false
set_option maxRecDepth 100000
open Go.RowKit

section
variable (l : List Nd) (target related : Int) (comp : Bool)
/-- A path that goes on from a place: with what is told there. -/
inductive Way : Int → Int → Int → List St → Prop
  | stop {t f a : Int} : a ≠ 0 → rootM l t ∉ ch l upX a → a = aimM l related a → Way t f a []
  | done {t f : Int} : Way t f 0 []
  | same {t f a : Int} {xs : List St} : a ≠ 0 → rootM l t ∈ ch l upX a → Way t a (evP l target comp a) xs → Way t f a (stM l a 0 (aimM l related a) (decide (ofM l f ≠ 0)) :: xs)
  | turn {t f a : Int} {xs : List St} : a ≠ 0 → rootM l t ∉ ch l upX a → a ≠ aimM l related a → Way a a (evP l target comp a) xs → Way t f a (stM l a a (aimM l related a) (decide (ofM l f ≠ 0)) :: xs)
theorem way_go : ∀ (n : Nat) (t f a : Int), itF (evP l target comp) n a = 0 → Way l target related comp t f a (pathGo l target related comp n t f a)
  | 0, t, f, a, h => by
    have : a = 0 := h
    subst this
    exact .done
  | n + 1, t, f, a, h => by
    have h' : itF (evP l target comp) n (evP l target comp a) = 0 := h
    unfold pathGo
    by_cases h0 : a = 0
    · rw [if_pos h0, h0]; exact .done
    · rw [if_neg h0]
      by_cases h1 : rootM l t ∈ ch l upX a
      · rw [if_pos h1]; exact .same h0 h1 (way_go n t a _ h')
      · rw [if_neg h1]
        by_cases h2 : a = aimM l related a
        · rw [if_pos h2]; exact .stop h0 h1 h2
        · rw [if_neg h2]; exact .turn h0 h1 h2 (way_go n a a _ h')
end
section
variable {l : List Nd} {target related : Int} {comp : Bool}
theorem way_ev : ∀ {xs : List St} {t f a : Int}, Way l target related comp t f a xs → ∀ (n : Nat), ∃ k, k ≤ xs.length ∧ (xs.map St.node).take n = wayN (evP l target comp) (min n xs.length) a
  | xs, t, f, a, h, n => ⟨xs.length, Nat.le_refl _, by
    induction h generalizing n with
    | stop _ _ _ => simp [wayN]
    | done => simp [wayN]
    | @same t f a xs h0 _ _ ih =>
      cases n with
      | zero => simp [wayN]
      | succ n =>
        have e : wayN (evP l target comp) (min n xs.length + 1) a = a :: wayN (evP l target comp) (min n xs.length) (evP l target comp a) := by
          show (if a = 0 then [] else _) = _
          rw [if_neg h0]
        rw [List.length_cons, show min (n + 1) (xs.length + 1) = min n xs.length + 1 by omega, e, ← ih n]
        rfl
    | @turn t f a xs h0 _ _ _ ih =>
      cases n with
      | zero => simp [wayN]
      | succ n =>
        have e : wayN (evP l target comp) (min n xs.length + 1) a = a :: wayN (evP l target comp) (min n xs.length) (evP l target comp a) := by
          show (if a = 0 then [] else _) = _
          rw [if_neg h0]
        rw [List.length_cons, show min (n + 1) (xs.length + 1) = min n xs.length + 1 by omega, e, ← ih n]
        rfl⟩
/-- The nodes of a path are those of the way, from its beginning. -/
theorem way_nodes {xs : List St} {t f a : Int} (h : Way l target related comp t f a xs) : xs.map St.node = wayN (evP l target comp) xs.length a := by
  obtain ⟨_, _, e⟩ := way_ev h xs.length
  rw [Nat.min_self, ← List.length_map (f := St.node), List.take_length] at e
  rw [e, List.length_map]
end
theorem wayN_at {f : Int → Int} : ∀ (n : Nat) (a : Int) (i : Nat), i + 1 < (wayN f n a).length → (wayN f n a)[i + 1]? = ((wayN f n a)[i]?).map f
  | 0, a, i, h => by simp [wayN] at h
  | n + 1, a, i, h => by
    have e : wayN f (n + 1) a = if a = 0 then [] else a :: wayN f n (f a) := rfl
    rw [e] at h ⊢
    by_cases h0 : a = 0
    · rw [if_pos h0] at h; simp at h
    · rw [if_neg h0] at h ⊢
      cases i with
      | zero =>
        cases n with
        | zero => simp [wayN] at h
        | succ n =>
          have e2 : wayN f (n + 1) (f a) = if f a = 0 then [] else f a :: wayN f n (f (f a)) := rfl
          rw [e2] at h ⊢
          by_cases h1 : f a = 0
          · rw [if_pos h1] at h; simp at h
          · rw [if_neg h1]; rfl
      | succ i =>
        rw [List.length_cons] at h
        exact wayN_at n (f a) i (by omega)
/-- The path, and what is known of it. -/
inductive PathOk (l : List Nd) (target related : Int) (comp : Bool) : List St → Prop
  | none : nodeAt l target = none → PathOk l target related comp []
  | nil : (∃ y, nodeAt l target = some y) → aimM l related target = target → related ≠ target → PathOk l target related comp []
  | some {xs : List St} : (∃ y, nodeAt l target = some y) → (aimM l related target ≠ target ∨ related = target) → Way l target related comp target target (evP l target comp target) xs → PathOk l target related comp (stM l target target (aimM l related target) false :: xs)
theorem path_ok {l : List Nd} (h : WF l) (target related : Int) (comp : Bool) : PathOk l target related comp (pathM l target related comp) := by
  unfold pathM
  cases hx : nodeAt l target with
  | none => rw [if_pos rfl]; exact .none hx
  | some y =>
    rw [if_neg (by simp)]
    by_cases hB : aimM l related target = target ∧ related ≠ target
    · rw [if_pos hB]; exact .nil ⟨y, hx⟩ hB.1 hB.2
    · rw [if_neg hB]
      refine .some ⟨y, hx⟩ (Classical.byContradiction fun e => hB ⟨Classical.byContradiction fun e1 => e (.inl e1), fun e2 => e (.inr e2)⟩) ?_
      exact way_go _ _ _ _ _ _ _ _ (ev_129 h target comp (ev_there h target comp target))
theorem ok_nodes {l : List Nd} {target related : Int} {comp : Bool} {xs : List St} (h : PathOk l target related comp xs) : xs.map St.node = wayN (evP l target comp) xs.length target := by
  cases h with
  | none _ => rfl
  | nil _ _ _ => rfl
  | @some xs hy _ hw =>
    obtain ⟨y, hy⟩ := hy
    have h0 : target ≠ 0 := by have := nodeAt_some hy; omega
    have e : wayN (evP l target comp) (xs.length + 1) target = target :: wayN (evP l target comp) xs.length (evP l target comp target) := by
      show (if target = 0 then [] else _) = _
      rw [if_neg h0]
    rw [List.length_cons, e, ← way_nodes hw]
    rfl
end Go.Proofs.Ytjkidecaciomgaa
/- What the laws of law 14 ask, plain. -/
namespace Go.Proofs.Ytjkidecaciomgaa
set_option linter.unusedVariables false
set_option linter.unusedSimpArgs false
set_option maxRecDepth 100000
open Go.RowKit

theorem ev_in {l : List Nd} (h : WF l) {target : Int} {n0 : Nd} (ht : nodeAt l target = some n0) {a : Int} (ha : rootM l target ∈ ch l upX a) : evP l target false a = 0 ∨ rootM l target ∈ ch l upX (evP l target false a) := by
  obtain ⟨r, hr, hr0⟩ := root_some h ht
  generalize hR : rootM l target = R at *
  cases hn : nodeAt l a with
  | none => exact .inl (by rw [evP, hn])
  | some n =>
    have hup := up_step h hn
    have hroot : n.parent ≠ 0 → R ∈ ch l upX n.parent := fun hp => by
      rw [hup, show upX n = n.parent by simp [upX, hp]] at ha
      rcases List.mem_cons.1 ha with e | e
      · rw [e, hn] at hr
        cases hr
        exact absurd hr0 hp
      · exact e
    by_cases h0 : ofM l a = 0
    · have e : evP l target false a = if n.kind ≠ 3 then n.parent else if R = a then 0 else n.host := by rw [evP, hn, hR]; simp [h0]
      rw [e]
      by_cases hk : n.kind ≠ 3
      · rw [if_pos hk]
        by_cases hp : n.parent = 0
        · exact .inl hp
        · exact .inr (hroot hp)
      · rw [if_neg hk]
        by_cases he : R = a
        · rw [if_pos he]; exact .inl rfl
        · rw [if_neg he]
          right
          have hp := h.root hn (by simp [rootedB]; omega)
          rw [hup, show upX n = n.host by simp [upX, hp]] at ha
          exact (List.mem_cons.1 ha).resolve_left he
    · right
      obtain ⟨n', p, hn', hk, hp, hs, hm, _⟩ := of_ok h h0
      rw [hn] at hn'
      cases hn'
      have e : evP l target false a = ofM l a := by rw [evP, hn]; simp [h0]
      rw [e]
      have hp0 : n.parent ≠ 0 := fun e => by rw [e, nodeAt_zero] at hp; cases hp
      obtain ⟨y, hy, hyh⟩ := ((h.shad hp).resolve_left hs).2
      have hpn := nodeAt_some hp
      have hyk : y.kind = 3 := ((h.host hy).resolve_left (by rw [hyh]; omega)).1
      have hyp : y.parent = 0 := h.root hy (by simp [rootedB, hyk])
      refine up_trans h ?_ (par_up h hm)
      rw [up_step h hy, show upX y = n.parent by simp [upX, hyp, hyh]]
      exact List.mem_cons_of_mem _ (hroot hp0)
section
variable {l : List Nd} {target related : Int} {comp : Bool}
theorem way_tg {xs : List St} {t f a : Int} (h : Way l target related comp t f a xs) : ∀ s ∈ xs, s.target = 0 ∨ s.target = s.node := by
  induction h with
  | stop _ _ _ => intro s hs; cases hs
  | done => intro s hs; cases hs
  | same _ _ _ ih =>
    intro s hs
    rcases List.mem_cons.1 hs with rfl | hs
    · exact .inl rfl
    · exact ih s hs
  | turn _ _ _ _ ih =>
    intro s hs
    rcases List.mem_cons.1 hs with rfl | hs
    · exact .inr rfl
    · exact ih s hs
theorem way_in (hw : WF l) {n0 : Nd} (ht : nodeAt l target = some n0) {xs : List St} {t f a : Int} (h : Way l target related false t f a xs) (ha : a = 0 ∨ rootM l target ∈ ch l upX a) : ∀ s ∈ xs, rootM l target ∈ ch l upX s.node := by
  induction h with
  | stop _ _ _ => intro s hs; cases hs
  | done => intro s hs; cases hs
  | same h0 _ _ ih =>
    intro s hs
    rcases List.mem_cons.1 hs with rfl | hs
    · exact ha.resolve_left h0
    · exact ih (ev_in hw ht (ha.resolve_left h0)) s hs
  | turn h0 _ _ _ ih =>
    intro s hs
    rcases List.mem_cons.1 hs with rfl | hs
    · exact ha.resolve_left h0
    · exact ih (ev_in hw ht (ha.resolve_left h0)) s hs
structure UpOk (l : List Nd) (target : Int) (comp : Bool) (xs : List St) : Prop where
  hd : ∀ s, xs[0]? = some s → s.node = target ∧ s.target = target ∧ s.cs = false
  nx : ∀ i s s', xs[i]? = some s → xs[i + 1]? = some s' → s'.node = evP l target comp s.node
  nd : (xs.map St.node).Nodup
  rt : comp = false → ∀ s ∈ xs, rootM l target ∈ ch l upX s.node
  tg : ∀ s ∈ xs, s.target = 0 ∨ s.target = s.node
theorem path_up (h : WF l) (target related : Int) (comp : Bool) : UpOk l target comp (pathM l target related comp) := by
  have hp := path_ok h target related comp
  have hn := ok_nodes hp
  have hnd : ((pathM l target related comp).map St.node).Nodup := by
    rw [hn]
    exact way_nodup (ev_zero l target comp) _ _ (ev_ends h target comp target)
  generalize pathM l target related comp = xs at *
  have hnx : ∀ i s s', xs[i]? = some s → xs[i + 1]? = some s' → s'.node = evP l target comp s.node := fun i s s' h1 h2 => by
    have hl := (List.getElem?_eq_some_iff.1 h2).1
    have h3 := wayN_at (f := evP l target comp) xs.length target i (by rw [← hn, List.length_map]; exact hl)
    rw [← hn, List.getElem?_map, List.getElem?_map, h1, h2] at h3
    exact Option.some.inj h3
  refine ⟨?_, hnx, hnd, ?_, ?_⟩
  · intro s hs
    cases hp with
    | none _ => cases hs
    | nil _ _ _ => cases hs
    | some _ _ _ => cases hs; exact ⟨rfl, rfl, rfl⟩
  · intro hc s hs
    subst hc
    cases hp with
    | none _ => cases hs
    | nil _ _ _ => cases hs
    | some hy _ hw =>
      obtain ⟨y, hy⟩ := hy
      rcases List.mem_cons.1 hs with rfl | hs
      · exact root_up h hy
      · exact way_in h hy hw (ev_in h hy (root_up h hy)) s hs
  · intro s hs
    cases hp with
    | none _ => cases hs
    | nil _ _ _ => cases hs
    | some _ _ hw =>
      rcases List.mem_cons.1 hs with rfl | hs
      · exact .inr rfl
      · exact way_tg hw s hs
/-- What is told is never hidden. -/
def Hid (l : List Nd) : Int → List St → Prop
  | _, [] => True
  | told, s :: xs => hiddenM l (if s.target ≠ 0 then s.target else told) s.node = false ∧ (s.related ≠ 0 → hiddenM l s.related s.node = false) ∧ Hid l (if s.target ≠ 0 then s.target else told) xs
theorem rel_seen (h : WF l) (related a : Int) (h0 : aimM l related a ≠ 0) : hiddenM l (aimM l related a) a = false := by
  cases hx : nodeAt l related with
  | none => exact absurd (aim_none h hx) h0
  | some x => exact aim_seen h hx a
theorem way_hid (h : WF l) {xs : List St} {t f a : Int} (hw : Way l target related comp t f a xs) : Hid l t xs := by
  induction hw with
  | stop _ _ _ => trivial
  | done => trivial
  | @same t f a xs h0 h1 _ ih =>
    refine ⟨?_, fun hr => rel_seen h related a hr, ?_⟩
    · show hiddenM l (if (0 : Int) ≠ 0 then _ else t) a = false
      rw [if_neg (by simp)]
      exact hid_root h h1
    · show Hid l (if (0 : Int) ≠ 0 then _ else t) xs
      rw [if_neg (by simp)]
      exact ih
  | @turn t f a xs h0 h1 _ _ ih =>
    refine ⟨?_, fun hr => rel_seen h related a hr, ?_⟩
    · show hiddenM l (if a ≠ 0 then a else t) a = false
      rw [if_pos h0]
      exact hid_self h a
    · show Hid l (if a ≠ 0 then a else t) xs
      rw [if_pos h0]
      exact ih
theorem path_hid (h : WF l) (target related : Int) (comp : Bool) : Hid l 0 (pathM l target related comp) := by
  have hp := path_ok h target related comp
  generalize pathM l target related comp = xs at *
  cases hp with
  | none _ => trivial
  | nil _ _ _ => trivial
  | @some xs hy _ hw =>
    obtain ⟨y, hy⟩ := hy
    have h0 : target ≠ 0 := by have := nodeAt_some hy; omega
    refine ⟨?_, fun hr => rel_seen h related target hr, ?_⟩
    · show hiddenM l (if target ≠ 0 then target else 0) target = false
      rw [if_pos h0]
      exact hid_self h target
    · show Hid l (if target ≠ 0 then target else 0) xs
      rw [if_pos h0]
      exact way_hid h hw
end
/-- A step with nobody related. -/
def noRel (s : St) : St := { s with related := 0 }
section
variable {l : List Nd} {target related : Int} {comp : Bool}
theorem way_ends (h : WF l) {xs : List St} {t f a : Int} (hw : Way l target 0 comp t f a xs) : (∀ s ∈ xs, s.related = 0) ∧ ∀ s, xs.getLast? = some s → evP l target comp s.node = 0 := by
  induction hw with
  | stop h0 _ h2 => rw [aim_none h nodeAt_zero] at h2; exact absurd h2 h0
  | done => exact ⟨fun s hs => (by cases hs), fun s hs => (by cases hs)⟩
  | @same t f a xs h0 _ hw ih =>
    refine ⟨fun s hs => ?_, fun s hs => ?_⟩
    · rcases List.mem_cons.1 hs with rfl | hs
      · exact aim_none h nodeAt_zero
      · exact ih.1 s hs
    · cases xs with
      | nil =>
        have hs : some (stM l a 0 (aimM l 0 a) (decide (ofM l f ≠ 0))) = some s := hs
        cases hs
        generalize hE : evP l target comp a = e at hw
        show evP l target comp a = 0
        rw [hE]
        cases hw with
        | stop h0 _ h2 => rw [aim_none h nodeAt_zero] at h2; exact absurd h2 h0
        | done => rfl
      | cons x xs => exact ih.2 s (by rw [List.getLast?_cons_cons] at hs; exact hs)
  | @turn t f a xs h0 _ _ hw ih =>
    refine ⟨fun s hs => ?_, fun s hs => ?_⟩
    · rcases List.mem_cons.1 hs with rfl | hs
      · exact aim_none h nodeAt_zero
      · exact ih.1 s hs
    · cases xs with
      | nil =>
        have hs : some (stM l a a (aimM l 0 a) (decide (ofM l f ≠ 0))) = some s := hs
        cases hs
        generalize hE : evP l target comp a = e at hw
        show evP l target comp a = 0
        rw [hE]
        cases hw with
        | stop h0 _ h2 => rw [aim_none h nodeAt_zero] at h2; exact absurd h2 h0
        | done => rfl
      | cons x xs => exact ih.2 s (by rw [List.getLast?_cons_cons] at hs; exact hs)
theorem way_pre (h : WF l) {xs : List St} {t f a : Int} (hw : Way l target related comp t f a xs) : ∀ {ys : List St}, Way l target 0 comp t f a ys → ∃ zs, ys = xs.map noRel ++ zs := by
  have hn : ∀ b, aimM l 0 b = 0 := fun b => aim_none h nodeAt_zero
  induction hw with
  | stop _ _ _ => exact fun {ys} _ => ⟨ys, rfl⟩
  | done => exact fun {ys} _ => ⟨ys, rfl⟩
  | @same t f a xs h0 h1 hw ih =>
    intro ys hy
    cases hy with
    | stop _ h1' _ => exact absurd h1 h1'
    | done => exact absurd rfl h0
    | same _ _ hy =>
      obtain ⟨zs, e⟩ := ih hy
      exact ⟨zs, by rw [e, hn]; rfl⟩
    | turn _ h1' _ _ => exact absurd h1 h1'
  | @turn t f a xs h0 h1 h2 hw ih =>
    intro ys hy
    cases hy with
    | stop _ _ h2' => rw [hn] at h2'; exact absurd h2' h0
    | done => exact absurd rfl h0
    | same _ h1' _ => exact absurd h1' h1
    | turn _ _ _ hy =>
      obtain ⟨zs, e⟩ := ih hy
      exact ⟨zs, by rw [e, hn]; rfl⟩
theorem path_ends (h : WF l) {target : Int} {n0 : Nd} (ht : nodeAt l target = some n0) (related : Int) (comp : Bool) : (∃ s xs, pathM l target 0 comp = s :: xs) ∧ (∀ s ∈ pathM l target 0 comp, s.related = 0) ∧ (∀ s, (pathM l target 0 comp).getLast? = some s → evP l target comp s.node = 0) ∧ ∃ zs, pathM l target 0 comp = (pathM l target related comp).map noRel ++ zs := by
  have hp := path_ok h target 0 comp
  have hq := path_ok h target related comp
  have h0 : target ≠ 0 := by have := nodeAt_some ht; omega
  have hn : ∀ b, aimM l 0 b = 0 := fun b => aim_none h nodeAt_zero
  generalize pathM l target 0 comp = p at *
  generalize pathM l target related comp = q at *
  cases hp with
  | none e => rw [ht] at e; cases e
  | nil _ e _ => rw [hn] at e; exact absurd e.symm h0
  | @some xs _ _ hw =>
    obtain ⟨e1, e2⟩ := way_ends h hw
    refine ⟨⟨_, _, rfl⟩, fun s hs => ?_, fun s hs => ?_, ?_⟩
    · rcases List.mem_cons.1 hs with rfl | hs
      · exact hn target
      · exact e1 s hs
    · cases xs with
      | nil =>
        have hs : some (stM l target target (aimM l 0 target) false) = some s := hs
        cases hs
        generalize hE : evP l target comp target = e at hw
        show evP l target comp target = 0
        rw [hE]
        cases hw with
        | stop h0 _ h2 => rw [hn] at h2; exact absurd h2 h0
        | done => rfl
      | cons x xs => exact e2 s (by rw [List.getLast?_cons_cons] at hs; exact hs)
    · cases hq with
      | none e => rw [ht] at e; cases e
      | nil _ _ _ => exact ⟨_, rfl⟩
      | some _ _ hw' =>
        obtain ⟨zs, e⟩ := way_pre h hw' hw
        exact ⟨zs, by rw [e, hn]; rfl⟩
end
end Go.Proofs.Ytjkidecaciomgaa
