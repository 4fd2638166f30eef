/- prog: wrong, Count, Check; ref20.Count; awake; ProgParts. -/
import Derived.Test.YtpmeffdcbjakoaaDoorOp2
namespace Go.Proofs.YtpmeffdcbjakoaaDoor
set_option linter.unusedVariables false
set_option linter.unusedSimpArgs false
set_option maxRecDepth 100000
open Go.RowKit

def idxG {α : Type} (p : α → Bool) (xs : List α) : Int := if xs.findIdx p < xs.length then ((xs.findIdx p : Nat) : Int) else -1
theorem idxG_none {α : Type} {p : α → Bool} {xs : List α} (h : ∀ x ∈ xs, p x = false) : idxG p xs = -1 := by
  have : xs.findIdx p = xs.length := List.findIdx_eq_length.2 h
  rw [idxG, this, if_neg (by omega)]
theorem idxG_at {α : Type} {p : α → Bool} {xs : List α} {i : Nat} {v : α} (hx : xs[i]? = some v) (h : p v = true) (hp : ∀ x ∈ xs.take i, p x = false) : idxG p xs = i := by
  obtain ⟨hi, e⟩ := List.getElem?_eq_some_iff.1 hx
  have : xs.findIdx p = i := by
    rw [List.findIdx_eq hi]
    refine ⟨by rw [e]; exact h, fun j hj => ?_⟩
    refine hp _ (List.mem_of_getElem? (i := j) ?_)
    rw [List.getElem?_take, if_pos hj]
    exact List.getElem?_eq_getElem _
  rw [idxG, this, if_pos hi]
def OpOk (x : OpD) : Prop := x.s.size ≤ 9223372036854775807
def notR (x : OpD) : Bool := !rightO x
def wrongM (xs : List OpD) : Int := idxG notR xs
theorem wrong1_f {x : OpD} (h : OpOk x) : Fun Tryd.prog 19 [.agg (opL x)] [] (.v (.bool (notR x))) [] := by
  have hr := right_o h
  rw [notR]
  generalize rightO x = u at *
  refine fun_intro 6 Tryd.func19 rfl rfl rfl (fun ι F S w => ?_)
  (repeat (first | (apply v_cx; exact rfl; exact cbA rfl; (first | exact hr); exact rfl; exact rfl) | (apply v_assign; exact rfl; exact rfl) | refine run_seq ?_ | refine run_region ?_ | refine runL_nil ?_ | (apply v_loadB; exact tyA rfl; exact rfl; exact rfl; exact rfl; exact rfl; exact rfl; exact rfl) | (apply v_not; exact rfl; exact rfl) | (apply v_boxD; exact rfl; exact rfl; exact rfl; exact rfl; exact rfl; exact rfl; exact rfl)))
  exact run_ret idN _ Tryd.func19 ⟨_, _, rfl, rfl, rfl⟩ rfl trivial trivial rfl
theorem indexOp_f {xs : List OpD} (hm : xs.length ≤ 9223372036854775807) (hok : ∀ x ∈ xs, OpOk x) : Fun Tryd.prog 18 [.sem (listS opE xs), .fn 19 []] [] (.v (.int .i64 (wrongM xs))) [] := by
  refine fun_intro 19 Tryd.func18 rfl rfl rfl (fun ι F S w => ?_)
  (repeat (first | (apply v_move; exact rfl; exact rfl) | (apply v_assign; exact rfl; exact rfl) | refine run_seq ?_ | refine run_region ?_ | refine runL_nil ?_ | refine run_block ?_ | (apply v_lenL; exact slA rfl; exact rfl; exact rfl)))
  refine v_loop (fun i : Nat => ⟨[(0, .sem (listS opE xs)), (1, .fn 19 []), (7, .v (.int .i64 xs.length)), (8, .v (.int .i64 i))], []⟩) (fun i => i ≤ xs.length ∧ ∀ x ∈ xs.take i, notR x = false) (fun i => xs.length - i) 0 idN trivial (by repeat (first | exact trivial | refine ⟨rfl, ?_⟩)) (by repeat (first | exact trivial | refine ⟨rfl, ?_⟩)) rfl ⟨by omega, fun x hx => by simp at hx⟩ fun i ⟨hi, hp⟩ ih => ?_
  (repeat (first | refine run_seq ?_ | refine run_region ?_ | refine runL_nil ?_ | (apply v_lss; exact rfl; exact rfl; exact rfl)))
  refine run_cond rfl (fun hb => ?_) (fun hb => ?_)
  · have hlt : i < xs.length := by simpa using hb
    have hx : xs[i]? = some xs[i] := List.getElem?_eq_getElem hlt
    have hx2 : xs[((i : Int)).toNat]? = some xs[i] := by rw [show ((i : Int)).toNat = i by omega]; exact hx
    have hc := wrong1_f (hok xs[i] (List.getElem_mem hlt))
    have hst : xs.take (i + 1) = xs.take i ++ [xs[i]] := by rw [List.take_add_one, hx]; rfl
    have hidx : notR xs[i] = true → wrongM xs = (i : Int) := fun h => idxG_at hx h hp
    generalize xs[i] = v at *
    (repeat (first | (apply v_idxL; exact slA rfl; exact tyA rfl; exact rfl; exact rfl; exact rfl; exact rfl; exact (by omega); (first | exact hx2); exact rfl) | (apply v_move; exact rfl; exact rfl) | (apply v_assign; exact rfl; exact rfl) | refine run_seq ?_ | refine run_region ?_ | refine runL_nil ?_ | refine run_skip ?_ | refine run_block ?_ | (apply v_loadA; exact tyA rfl; exact rfl; exact rfl; exact rfl; exact rfl; exact rfl; exact rfl)))
    refine v_cC (l := [.agg (opL v)]) (cap := []) idN hc rfl rfl (cbA rfl) trivial (by kernel_rfl) (by kernel_rfl) (by kernel_rfl) (by kernel_rfl) (by kernel_rfl) (by kernel_rfl) (by kernel_rfl) (by kernel_rfl) rfl ?_
    (repeat (first | refine runL_nil ?_))
    refine run_cond rfl (fun hb => ?_) (fun hb => ?_)
    · have hpv : notR v = true := hb
      rw [hidx hpv]
      (repeat (first | (apply v_move; exact rfl; exact rfl) | (apply v_assign; exact rfl; exact rfl) | refine run_seq ?_ | refine run_region ?_ | refine runL_nil ?_))
      exact run_ret idN _ Tryd.func18 ⟨_, _, rfl, rfl, rfl⟩ rfl trivial trivial rfl
    · have hpv : notR v = false := hb
      (repeat (first | (apply v_move; exact rfl; exact rfl) | refine run_region ?_ | refine runL_nil ?_ | refine run_skip ?_ | refine run_inBlock ?_ | (apply v_add; exact rfl; exact rfl; exact rfl; exact (by omega))))
      exact v_again ih (i + 1) idN trivial (by repeat (first | exact trivial | refine ⟨rfl, ?_⟩)) (by repeat (first | exact trivial | refine ⟨rfl, ?_⟩)) rfl ⟨by omega, fun x hx => by
        rw [hst] at hx
        rcases List.mem_append.1 hx with hx | hx
        · exact hp x hx
        · rw [List.mem_singleton] at hx; rw [hx]; exact hpv⟩ (by omega)
  · have hge : i = xs.length := by have : ¬ i < xs.length := (by simpa using hb); omega
    rw [hge, List.take_length] at hp
    rw [wrongM, idxG_none hp]
    (repeat (first | (apply v_assign; exact rfl; exact rfl) | refine run_seq ?_ | refine run_region ?_ | refine runL_nil ?_ | (apply run_exit; exact rfl)))
    exact run_ret idN _ Tryd.func18 ⟨_, _, rfl, rfl, rfl⟩ rfl trivial trivial rfl
theorem fn_le (f : FuncId) : Le (.v (.func (.func f) #[] #[])) (.fn f []) := fun ι S w u h => by
  simp only [AVR, AVRs] at h ⊢
  exact ⟨[], h, rfl⟩
theorem wrong_f {xs : List OpD} (hm : xs.length ≤ 9223372036854775807) (hok : ∀ x ∈ xs, OpOk x) : Fun Tryd.prog 14 [.sem (listS opE xs)] [] (.v (.int .i64 (wrongM xs))) [] := by
  have hi := (indexOp_f hm hok).arg (l' := [.sem (listS opE xs), .v (.func (.func 19) #[] #[])]) ⟨Le.refl, fn_le _, trivial⟩
  refine fun_intro 5 Tryd.func14 rfl rfl rfl (fun ι F S w => ?_)
  (repeat (first | (apply v_cx; exact rfl; exact cbA rfl; (first | exact hi); exact rfl; exact rfl) | (apply v_move; exact rfl; exact rfl) | (apply v_assign; exact rfl; exact rfl) | refine run_seq ?_ | refine run_region ?_ | refine runL_nil ?_))
  exact run_ret idN _ Tryd.func14 ⟨_, _, rfl, rfl, rfl⟩ rfl trivial trivial rfl
def callE : Enc (List OpD) where
  sz := 1
  f := fun l => [.sem (listS opE l)]
  len := fun _ => rfl
  leaf := fun _ => rfl
abbrev progA (main : List OpD) (calls : List (List OpD)) : AV := .agg [.sem (listS opE main), .sem (listS callE calls)]
def sumL (calls : List (List OpD)) : Nat := (calls.map List.length).sum
def countM (main : List OpD) (calls : List (List OpD)) : Nat := main.length + sumL calls
theorem sumL_succ {calls : List (List OpD)} {i : Nat} {l : List OpD} (h : calls[i]? = some l) : sumL (calls.take (i + 1)) = sumL (calls.take i) + l.length := by
  rw [List.take_add_one, h, sumL, List.map_append, List.sum_append]
  simp [sumL]
theorem sumL_le (calls : List (List OpD)) (i : Nat) : sumL (calls.take i) ≤ sumL calls := by
  have : sumL calls = sumL (calls.take i) + sumL (calls.drop i) := by
    rw [sumL, sumL, sumL, ← List.sum_append, ← List.map_append, List.take_append_drop]
  omega
theorem count_f {main : List OpD} {calls : List (List OpD)} (hc : countM main calls ≤ 9223372036854775807) (hl : calls.length ≤ 9223372036854775807) : Fun Tryd.prog 10 [progA main calls] [] (.v (.int .i64 (countM main calls))) [] := by
  refine fun_intro 22 Tryd.func10 rfl rfl rfl (fun ι F S w => ?_)
  (repeat (first | (apply v_move; exact rfl; exact rfl) | (apply v_assign; exact rfl; exact rfl) | refine run_seq ?_ | refine run_region ?_ | refine runL_nil ?_ | refine run_block ?_ | (apply v_fldP; exact flA rfl; exact rfl; exact rfl; exact rfl) | (apply v_loadB; exact tyA rfl; exact rfl; exact rfl; exact rfl; exact rfl; exact rfl; exact rfl) | (apply v_lenL; exact slA rfl; exact rfl; exact rfl) | (apply v_boxD; exact rfl; exact rfl; exact rfl; exact rfl; exact rfl; exact rfl; exact rfl)))
  refine v_loop (fun q : Nat × Int => ⟨[(1, .ptr 1 0), (10, .sem (listS callE calls)), (11, .v (.int .i64 calls.length)), (12, .v (.int .i64 q.1)), (3, .v (.int .i64 q.2))], [(1, .box 25 [.sem (listS opE main), .sem (listS callE calls)])]⟩) (fun q => q.1 ≤ calls.length ∧ q.2 = (main.length + sumL (calls.take q.1) : Nat)) (fun q => calls.length - q.1) (0, (main.length : Int)) idN trivial (by repeat (first | exact trivial | refine ⟨rfl, ?_⟩)) (by repeat (first | exact trivial | refine ⟨rfl, ?_⟩)) rfl ⟨by simp, by simp [sumL]⟩ fun ⟨i, s⟩ ⟨hi, hs⟩ ih => ?_
  dsimp only at hi hs ⊢
  (repeat (first | refine run_seq ?_ | refine run_region ?_ | refine runL_nil ?_ | (apply v_lss; exact rfl; exact rfl; exact rfl)))
  refine run_cond rfl (fun hb => ?_) (fun hb => ?_)
  · have hlt : i < calls.length := by simpa using hb
    obtain ⟨l, hx⟩ : ∃ l, calls[i]? = some l := ⟨_, List.getElem?_eq_getElem hlt⟩
    have hx2 : calls[((i : Int)).toNat]? = some l := by rw [show ((i : Int)).toNat = i by omega]; exact hx
    have hs2 := sumL_succ hx
    have hle := sumL_le calls (i + 1)
    rw [countM] at hc
    (repeat (first | (apply v_idxL; exact slA rfl; exact tyA rfl; exact rfl; exact rfl; exact rfl; exact rfl; exact (by omega); (first | exact hx2); exact rfl) | (apply v_move; exact rfl; exact rfl) | (apply v_assign; exact rfl; exact rfl) | refine run_seq ?_ | refine run_region ?_ | refine runL_nil ?_ | refine run_skip ?_ | refine run_block ?_ | refine run_inBlock ?_ | (apply v_loadA; exact tyA rfl; exact rfl; exact rfl; exact rfl; exact rfl; exact rfl; exact rfl) | (apply v_lenL; exact slA rfl; exact rfl; exact rfl) | (apply v_add; exact rfl; exact rfl; exact rfl; exact (by omega))))
    exact v_again ih (i + 1, s + l.length) idN trivial (by repeat (first | exact trivial | refine ⟨rfl, ?_⟩)) (by repeat (first | exact trivial | refine ⟨rfl, ?_⟩)) rfl ⟨by simp only; omega, by simp only; omega⟩ (by simp only; omega)
  · have hge : i = calls.length := by have : ¬ i < calls.length := (by simpa using hb); omega
    subst hge
    rw [List.take_length] at hs
    rw [countM, ← hs]
    clear ih
    (repeat (first | (apply v_move; exact rfl; exact rfl) | (apply v_assign; exact rfl; exact rfl) | refine run_seq ?_ | refine run_region ?_ | refine runL_nil ?_ | (apply run_exit; exact rfl)))
    exact run_ret idN _ Tryd.func10 ⟨_, _, rfl, rfl, rfl⟩ rfl trivial trivial rfl
theorem count20_f {main : List OpD} {calls : List (List OpD)} (hc : countM main calls ≤ 9223372036854775807) (hl : calls.length ≤ 9223372036854775807) : Fun Tryd.prog 6 [progA main calls] [] (.v (.int .i64 (countM main calls))) [] := by
  refine fun_intro 24 Tryd.func6 rfl rfl rfl (fun ι F S w => ?_)
  (repeat (first | (apply v_assign; exact rfl; exact rfl) | refine run_seq ?_ | refine run_region ?_ | refine runL_nil ?_ | refine run_block ?_ | (apply v_fldP; exact flA rfl; exact rfl; exact rfl; exact rfl) | (apply v_loadB; exact tyA rfl; exact rfl; exact rfl; exact rfl; exact rfl; exact rfl; exact rfl) | (apply v_lenL; exact slA rfl; exact rfl; exact rfl) | (apply v_boxD; exact rfl; exact rfl; exact rfl; exact rfl; exact rfl; exact rfl; exact rfl)))
  refine v_loop (fun q : Nat × Int => ⟨[(1, .ptr 1 0), (4, .v (.int .i64 q.1)), (3, .v (.int .i64 q.2))], [(1, .box 25 [.sem (listS opE main), .sem (listS callE calls)])]⟩) (fun q => q.1 ≤ calls.length ∧ q.2 = (main.length + sumL (calls.take q.1) : Nat)) (fun q => calls.length - q.1) (0, (main.length : Int)) idN trivial (by repeat (first | exact trivial | refine ⟨rfl, ?_⟩)) (by repeat (first | exact trivial | refine ⟨rfl, ?_⟩)) rfl ⟨by simp, by simp [sumL]⟩ fun ⟨i, s⟩ ⟨hi, hs⟩ ih => ?_
  dsimp only at hi hs ⊢
  (repeat (first | (apply v_move; exact rfl; exact rfl) | refine run_seq ?_ | refine run_region ?_ | refine runL_nil ?_ | (apply v_fldP; exact flA rfl; exact rfl; exact rfl; exact rfl) | (apply v_loadB; exact tyA rfl; exact rfl; exact rfl; exact rfl; exact rfl; exact rfl; exact rfl) | (apply v_lss; exact rfl; exact rfl; exact rfl) | (apply v_lenL; exact slA rfl; exact rfl; exact rfl)))
  refine run_cond rfl (fun hb => ?_) (fun hb => ?_)
  · have hlt : i < calls.length := by simpa using hb
    obtain ⟨l, hx⟩ : ∃ l, calls[i]? = some l := ⟨_, List.getElem?_eq_getElem hlt⟩
    have hx2 : calls[((i : Int)).toNat]? = some l := by rw [show ((i : Int)).toNat = i by omega]; exact hx
    have hs2 := sumL_succ hx
    have hle := sumL_le calls (i + 1)
    rw [countM] at hc
    (repeat (first | (apply v_idxL; exact slA rfl; exact tyA rfl; exact rfl; exact rfl; exact rfl; exact rfl; exact (by omega); (first | exact hx2); exact rfl) | (apply v_move; exact rfl; exact rfl) | (apply v_assign; exact rfl; exact rfl) | refine run_seq ?_ | refine run_region ?_ | refine runL_nil ?_ | refine run_skip ?_ | refine run_block ?_ | refine run_inBlock ?_ | (apply v_fldP; exact flA rfl; exact rfl; exact rfl; exact rfl) | (apply v_loadB; exact tyA rfl; exact rfl; exact rfl; exact rfl; exact rfl; exact rfl; exact rfl) | (apply v_loadA; exact tyA rfl; exact rfl; exact rfl; exact rfl; exact rfl; exact rfl; exact rfl) | (apply v_lenL; exact slA rfl; exact rfl; exact rfl) | (apply v_add; exact rfl; exact rfl; exact rfl; exact (by omega))))
    exact v_again ih (i + 1, s + l.length) idN trivial (by repeat (first | exact trivial | refine ⟨rfl, ?_⟩)) (by repeat (first | exact trivial | refine ⟨rfl, ?_⟩)) rfl ⟨by simp only; omega, by simp only; omega⟩ (by simp only; omega)
  · have hge : i = calls.length := by have : ¬ i < calls.length := (by simpa using hb); omega
    subst hge
    rw [List.take_length] at hs
    rw [countM, ← hs]
    clear ih
    (repeat (first | (apply v_move; exact rfl; exact rfl) | (apply v_assign; exact rfl; exact rfl) | refine run_seq ?_ | refine run_region ?_ | refine runL_nil ?_ | (apply run_exit; exact rfl)))
    exact run_ret idN _ Tryd.func6 ⟨_, _, rfl, rfl, rfl⟩ rfl trivial trivial rfl
/-- What Check tells. -/
def goC : List (List OpD) → Int → Int × Int × Int
  | [], _ => (0, 0, 0)
  | l :: r, i => if 0 ≤ wrongM l then (i + 1, wrongM l, 7) else goC r (i + 1)
def checkM (main : List OpD) (calls : List (List OpD)) : Int × Int × Int :=
  if 64 < calls.length ∨ 4096 < countM main calls then (0, 0, 9)
  else if 0 ≤ wrongM main then (0, wrongM main, 7)
  else goC calls 0
def OpsOk (l : List OpD) : Prop := l.length ≤ 9223372036854775807 ∧ ∀ x ∈ l, OpOk x
theorem check_f {main : List OpD} {calls : List (List OpD)} (hc : calls.length ≤ 100 → countM main calls ≤ 9223372036854775807) (hl : calls.length ≤ 9223372036854775807) (hm : OpsOk main) (hcs : ∀ l ∈ calls, OpsOk l) : Fun Tryd.prog 7 [progA main calls] [] (.tup [.v (.int .i64 (checkM main calls).1), .v (.int .i64 (checkM main calls).2.1), .v (.int .i64 (checkM main calls).2.2)]) [] := by
  have hw := wrong_f hm.1 hm.2
  by_cases h1 : 64 < calls.length
  · rw [show checkM main calls = (0, 0, 9) by rw [checkM, if_pos (.inl h1)]]
    refine fun_intro 40 Tryd.func7 rfl rfl rfl (fun ι F S w => ?_)
    (repeat (first | (apply v_move; exact rfl; exact rfl) | (apply v_assign; exact rfl; exact rfl) | refine run_seq ?_ | refine run_region ?_ | refine runL_nil ?_ | (apply v_fldP; exact flA rfl; exact rfl; exact rfl; exact rfl) | (apply v_loadB; exact tyA rfl; exact rfl; exact rfl; exact rfl; exact rfl; exact rfl; exact rfl) | (apply v_gtr; exact rfl; exact rfl; exact rfl) | (apply v_lenL; exact slA rfl; exact rfl; exact rfl) | (apply v_boxD; exact rfl; exact rfl; exact rfl; exact rfl; exact rfl; exact rfl; exact rfl)))
    refine v_is 13 true rfl (by simp; omega) ?_
    (repeat (first | (apply v_assign; exact rfl; exact rfl) | refine run_seq ?_ | refine run_region ?_ | refine runL_nil ?_ | (apply v_off; exact rfl; exact rfl) | (apply v_pick_t; exact rfl; exact rfl; exact rfl) | (apply run_cond; exact rfl; rotate_left; (focus (intro hb; cases hb; done)); intro hb; clear hb)))
    exact run_ret idN _ Tryd.func7 ⟨_, _, rfl, rfl, _, _, rfl, rfl, _, _, rfl, rfl, rfl⟩ rfl trivial trivial rfl
  · have hcf := count_f (hc (by omega)) hl
    by_cases h2 : 4096 < countM main calls
    · rw [show checkM main calls = (0, 0, 9) by rw [checkM, if_pos (.inr h2)]]
      refine fun_intro 40 Tryd.func7 rfl rfl rfl (fun ι F S w => ?_)
      (repeat (first | (apply v_move; exact rfl; exact rfl) | (apply v_assign; exact rfl; exact rfl) | refine run_seq ?_ | refine run_region ?_ | refine runL_nil ?_ | (apply v_fldP; exact flA rfl; exact rfl; exact rfl; exact rfl) | (apply v_loadB; exact tyA rfl; exact rfl; exact rfl; exact rfl; exact rfl; exact rfl; exact rfl) | (apply v_gtr; exact rfl; exact rfl; exact rfl) | (apply v_lenL; exact slA rfl; exact rfl; exact rfl) | (apply v_boxD; exact rfl; exact rfl; exact rfl; exact rfl; exact rfl; exact rfl; exact rfl)))
      refine v_is 13 false rfl (by simp; omega) ?_
      (repeat (first | (apply v_cx; exact rfl; exact cbA rfl; (first | exact hcf); exact rfl; exact rfl) | refine runL_nil ?_ | (apply v_loadB; exact tyA rfl; exact rfl; exact rfl; exact rfl; exact rfl; exact rfl; exact rfl) | (apply v_on; exact rfl) | (apply v_pick_f; exact rfl; exact rfl; exact rfl) | (apply v_gtr; exact rfl; exact rfl; exact rfl)))
      refine run_condY rfl (by simp; omega) ?_
      (repeat (first | (apply v_assign; exact rfl; exact rfl) | refine run_seq ?_ | refine run_region ?_ | refine runL_nil ?_))
      exact run_ret idN _ Tryd.func7 ⟨_, _, rfl, rfl, _, _, rfl, rfl, _, _, rfl, rfl, rfl⟩ rfl trivial trivial rfl
    · by_cases h3 : 0 ≤ wrongM main
      · rw [show checkM main calls = (0, wrongM main, 7) by rw [checkM, if_neg (by omega), if_pos h3]]
        generalize wrongM main = u at *
        refine fun_intro 40 Tryd.func7 rfl rfl rfl (fun ι F S w => ?_)
        (repeat (first | (apply v_move; exact rfl; exact rfl) | (apply v_assign; exact rfl; exact rfl) | refine run_seq ?_ | refine run_region ?_ | refine runL_nil ?_ | (apply v_fldP; exact flA rfl; exact rfl; exact rfl; exact rfl) | (apply v_loadB; exact tyA rfl; exact rfl; exact rfl; exact rfl; exact rfl; exact rfl; exact rfl) | (apply v_gtr; exact rfl; exact rfl; exact rfl) | (apply v_lenL; exact slA rfl; exact rfl; exact rfl) | (apply v_boxD; exact rfl; exact rfl; exact rfl; exact rfl; exact rfl; exact rfl; exact rfl)))
        refine v_is 13 false rfl (by simp; omega) ?_
        (repeat (first | (apply v_cx; exact rfl; exact cbA rfl; (first | exact hcf); exact rfl; exact rfl) | refine runL_nil ?_ | (apply v_loadB; exact tyA rfl; exact rfl; exact rfl; exact rfl; exact rfl; exact rfl; exact rfl) | (apply v_on; exact rfl) | (apply v_pick_f; exact rfl; exact rfl; exact rfl) | (apply v_gtr; exact rfl; exact rfl; exact rfl)))
        refine run_condN rfl (by simp; omega) ?_
        (repeat (first | (apply v_cx; exact rfl; exact cbA rfl; (first | exact hw); exact rfl; exact rfl) | (apply v_move; exact rfl; exact rfl) | (apply v_assign; exact rfl; exact rfl) | refine run_seq ?_ | refine run_region ?_ | refine runL_nil ?_ | refine run_skip ?_ | (apply v_fldP; exact flA rfl; exact rfl; exact rfl; exact rfl) | (apply v_loadB; exact tyA rfl; exact rfl; exact rfl; exact rfl; exact rfl; exact rfl; exact rfl) | (apply v_geq; exact rfl; exact rfl; exact rfl)))
        refine run_condY rfl (by simpa using h3) ?_
        (repeat (first | (apply v_move; exact rfl; exact rfl) | (apply v_assign; exact rfl; exact rfl) | refine run_seq ?_ | refine run_region ?_ | refine runL_nil ?_))
        exact run_ret idN _ Tryd.func7 ⟨_, _, rfl, rfl, _, _, rfl, rfl, _, _, rfl, rfl, rfl⟩ rfl trivial trivial rfl
      · rw [show checkM main calls = goC calls 0 by rw [checkM, if_neg (by omega), if_neg h3]]
        generalize wrongM main = u at *
        refine fun_intro 40 Tryd.func7 rfl rfl rfl (fun ι F S w => ?_)
        (repeat (first | (apply v_move; exact rfl; exact rfl) | (apply v_assign; exact rfl; exact rfl) | refine run_seq ?_ | refine run_region ?_ | refine runL_nil ?_ | (apply v_fldP; exact flA rfl; exact rfl; exact rfl; exact rfl) | (apply v_loadB; exact tyA rfl; exact rfl; exact rfl; exact rfl; exact rfl; exact rfl; exact rfl) | (apply v_gtr; exact rfl; exact rfl; exact rfl) | (apply v_lenL; exact slA rfl; exact rfl; exact rfl) | (apply v_boxD; exact rfl; exact rfl; exact rfl; exact rfl; exact rfl; exact rfl; exact rfl)))
        refine v_is 13 false rfl (by simp; omega) ?_
        (repeat (first | (apply v_cx; exact rfl; exact cbA rfl; (first | exact hcf); exact rfl; exact rfl) | refine runL_nil ?_ | (apply v_loadB; exact tyA rfl; exact rfl; exact rfl; exact rfl; exact rfl; exact rfl; exact rfl) | (apply v_on; exact rfl) | (apply v_pick_f; exact rfl; exact rfl; exact rfl) | (apply v_gtr; exact rfl; exact rfl; exact rfl)))
        refine run_condN rfl (by simp; omega) ?_
        (repeat (first | (apply v_cx; exact rfl; exact cbA rfl; (first | exact hw); exact rfl; exact rfl) | (apply v_move; exact rfl; exact rfl) | (apply v_assign; exact rfl; exact rfl) | refine run_seq ?_ | refine run_region ?_ | refine runL_nil ?_ | refine run_skip ?_ | (apply v_fldP; exact flA rfl; exact rfl; exact rfl; exact rfl) | (apply v_loadB; exact tyA rfl; exact rfl; exact rfl; exact rfl; exact rfl; exact rfl; exact rfl) | (apply v_geq; exact rfl; exact rfl; exact rfl)))
        refine run_condN rfl (by simpa using h3) ?_
        (repeat (first | (apply v_move; exact rfl; exact rfl) | refine run_seq ?_ | refine run_region ?_ | refine runL_nil ?_ | refine run_skip ?_ | refine run_block ?_ | (apply v_fldP; exact flA rfl; exact rfl; exact rfl; exact rfl) | (apply v_loadB; exact tyA rfl; exact rfl; exact rfl; exact rfl; exact rfl; exact rfl; exact rfl) | (apply v_lenL; exact slA rfl; exact rfl; exact rfl)))
        refine v_loop (fun i : Nat => ⟨[(25, .sem (listS callE calls)), (26, .v (.int .i64 calls.length)), (27, .v (.int .i64 i))], []⟩) (fun i => i ≤ calls.length ∧ goC calls 0 = goC (calls.drop i) i) (fun i => calls.length - i) 0 idN trivial (by repeat (first | exact trivial | refine ⟨rfl, ?_⟩)) (by repeat (first | exact trivial | refine ⟨rfl, ?_⟩)) rfl ⟨by omega, rfl⟩ fun i ⟨hi, hg⟩ ih => ?_
        (repeat (first | refine run_seq ?_ | refine run_region ?_ | refine runL_nil ?_ | (apply v_lss; exact rfl; exact rfl; exact rfl)))
        refine run_cond rfl (fun hb => ?_) (fun hb => ?_)
        · have hlt : i < calls.length := by simpa using hb
          obtain ⟨l, hx⟩ : ∃ l, calls[i]? = some l := ⟨_, List.getElem?_eq_getElem hlt⟩
          have hx2 : calls[((i : Int)).toNat]? = some l := by rw [show ((i : Int)).toNat = i by omega]; exact hx
          have hok := hcs l (List.mem_of_getElem? hx)
          have hw2 := wrong_f hok.1 hok.2
          have hd : calls.drop i = l :: calls.drop (i + 1) := by
            rw [List.drop_eq_getElem_cons hlt]
            congr 1
            exact (List.getElem?_eq_some_iff.1 hx).2
          rw [hd, goC] at hg
          generalize wrongM l = v at *
          (repeat (first | (apply v_idxL; exact slA rfl; exact tyA rfl; exact rfl; exact rfl; exact rfl; exact rfl; exact (by omega); (first | exact hx2); exact rfl) | (apply v_cx; exact rfl; exact cbA rfl; (first | exact hw2); exact rfl; exact rfl) | (apply v_move; exact rfl; exact rfl) | (apply v_assign; exact rfl; exact rfl) | refine run_seq ?_ | refine run_region ?_ | refine runL_nil ?_ | refine run_skip ?_ | refine run_block ?_ | (apply v_loadA; exact tyA rfl; exact rfl; exact rfl; exact rfl; exact rfl; exact rfl; exact rfl) | (apply v_geq; exact rfl; exact rfl; exact rfl)))
          by_cases h4 : 0 ≤ v
          · rw [if_pos h4] at hg
            rw [hg]
            refine run_condY rfl (by simpa using h4) ?_
            (repeat (first | (apply v_move; exact rfl; exact rfl) | (apply v_assign; exact rfl; exact rfl) | refine run_seq ?_ | refine run_region ?_ | refine runL_nil ?_ | (apply v_add; exact rfl; exact rfl; exact rfl; exact (by omega))))
            exact run_ret idN _ Tryd.func7 ⟨_, _, rfl, rfl, _, _, rfl, rfl, _, _, rfl, rfl, rfl⟩ rfl trivial trivial rfl
          · rw [if_neg h4] at hg
            refine run_condN rfl (by simpa using h4) ?_
            (repeat (first | (apply v_move; exact rfl; exact rfl) | refine run_region ?_ | refine runL_nil ?_ | refine run_skip ?_ | refine run_inBlock ?_ | (apply v_add; exact rfl; exact rfl; exact rfl; exact (by omega))))
            exact v_again ih (i + 1) idN trivial (by repeat (first | exact trivial | refine ⟨rfl, ?_⟩)) (by repeat (first | exact trivial | refine ⟨rfl, ?_⟩)) rfl ⟨by omega, hg⟩ (by omega)
        · have hge : i = calls.length := by have : ¬ i < calls.length := (by simpa using hb); omega
          subst hge
          rw [List.drop_length, goC] at hg
          rw [hg]
          clear ih
          (repeat (first | (apply v_assign; exact rfl; exact rfl) | refine run_seq ?_ | refine run_region ?_ | refine runL_nil ?_ | (apply run_exit; exact rfl)))
          exact run_ret idN _ Tryd.func7 ⟨_, _, rfl, rfl, _, _, rfl, rfl, _, _, rfl, rfl, rfl⟩ rfl trivial trivial rfl
end Go.Proofs.YtpmeffdcbjakoaaDoor
