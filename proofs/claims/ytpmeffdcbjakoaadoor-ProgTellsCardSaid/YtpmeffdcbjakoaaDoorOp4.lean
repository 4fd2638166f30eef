/- Law 20: awake, ProgParts. -/
import Derived.Test.YtpmeffdcbjakoaaDoorOp3
namespace Go.Proofs.YtpmeffdcbjakoaaDoor
set_option linter.unusedVariables false
set_option linter.unusedSimpArgs false
set_option maxRecDepth 100000
open Go.RowKit

def op0 : OpD := ⟨0, 0, 0, 0, 0, ⟨#[]⟩⟩
def op0A : AV := .agg [.v (.int .i64 0), .v (.int .i64 0), .v (.int .i64 0), .v (.int .i64 0), .v (.int .i64 0), .v (.string ⟨#[]⟩)]
theorem op0_le : Le op0A (.agg (opL op0)) := Le.agg ⟨codeS_no (by decide), Le.refl, Le.refl, Le.refl, Le.refl, Le.refl, trivial⟩
theorem ok_op0 : OpOk op0 := by show op0.s.size ≤ _; decide
theorem ops_nil : OpsOk [] := ⟨by simp, fun x hx => by simp at hx⟩
theorem check_0 : Fun Tryd.prog 7 [.agg [.v (.slice none 0 0), .v (.slice none 0 0)]] [] (.tup [.v (.int .i64 0), .v (.int .i64 0), .v (.int .i64 0)]) [] :=
  (check_f (main := []) (calls := []) (fun _ => by decide) (by decide) ops_nil (fun l hl => by simp at hl)).arg ⟨Le.agg ⟨Le.nil, Le.nil, trivial⟩, trivial⟩
theorem check_1 : Fun Tryd.prog 7 [.agg [.sem (listS opE [op0]), .v (.slice none 0 0)]] [] (.tup [.v (.int .i64 0), .v (.int .i64 0), .v (.int .i64 7)]) [] := by
  have h := (check_f (main := [op0]) (calls := []) (fun _ => by decide) (by decide) ⟨by simp, fun x hx => by rw [List.mem_singleton] at hx; rw [hx]; exact ok_op0⟩ (fun l hl => by simp at hl)).arg (l' := [.agg [.sem (listS opE [op0]), .v (.slice none 0 0)]]) ⟨Le.agg ⟨Le.refl, Le.nil, trivial⟩, trivial⟩
  have e : checkM [op0] [] = (0, 0, 7) := by kernel_rfl
  rw [e] at h
  exact h
theorem awake20 : Fun Tryd.prog 5 [] [] (.v (.bool true)) [] := by
  refine fun_intro 27 Tryd.func5 rfl rfl rfl (fun ι F S w => ?_)
  (repeat (first | (apply v_cx; exact rfl; exact cbA rfl; (first | exact check_0); exact rfl; exact rfl) | (apply v_move; exact rfl; exact rfl) | (apply v_assign; exact rfl; exact rfl) | refine run_seq ?_ | refine run_region ?_ | refine runL_nil ?_ | (apply v_extract; exact rfl; exact rfl; exact rfl) | (apply v_b; exact plA rfl; exact tyA rfl; exact rfl; exact rfl; exact rfl)))
  refine runL_le 14 (x := op0A) rfl op0_le ?_
  refine v_l opE [op0] (slA rfl) (tyA rfl) rfl rfl rfl rfl rfl rfl rfl rfl rfl rfl ?_
  (repeat (first | (apply v_cx; exact rfl; exact cbA rfl; (first | exact check_1); exact rfl; exact rfl) | (apply v_move; exact rfl; exact rfl) | (apply v_assign; exact rfl; exact rfl) | refine run_seq ?_ | refine run_region ?_ | refine runL_nil ?_ | (apply v_extract; exact rfl; exact rfl; exact rfl) | (apply v_on; exact rfl) | (apply v_pick_t; exact rfl; exact rfl; exact rfl) | (apply v_eql; exact rfl; exact rfl; exact rfl) | (apply v_b; exact plA rfl; exact tyA rfl; exact rfl; exact rfl; exact rfl)))
  exact run_ret idN _ Tryd.func5 ⟨_, _, rfl, rfl, rfl⟩ rfl trivial trivial rfl
def okM (l : List OpD) : Bool := decide (wrongM l < 0)
def allTo (main : List OpD) (calls : List (List OpD)) : Nat → Bool
  | 0 => okM main
  | i + 1 => allTo main calls i && (match calls[i]? with | some l => okM l | none => true)
theorem allTo_succ {main : List OpD} {calls : List (List OpD)} {i : Nat} {l : List OpD} (h : calls[i]? = some l) : allTo main calls (i + 1) = (allTo main calls i && okM l) := by rw [allTo, h]
theorem chk_one {l : List OpD} (h : l.length ≤ 4096) : (checkM l []).2.2 = if okM l = true then 0 else 7 := by
  have hc : countM l [] = l.length := by simp [countM, sumL]
  rw [checkM, if_neg (by rw [hc]; simp; omega), okM]
  by_cases h0 : 0 ≤ wrongM l
  · rw [if_pos h0, decide_eq_false (by omega)]; rfl
  · rw [if_neg h0, decide_eq_true (by omega)]; rfl
theorem goC_ok : ∀ (calls : List (List OpD)) (i : Int), (goC calls i).2.2 = if calls.all okM = true then 0 else 7
  | [], _ => rfl
  | l :: r, i => by
    rw [goC, List.all_cons]
    by_cases h0 : 0 ≤ wrongM l
    · rw [if_pos h0, show okM l = false from decide_eq_false (by omega)]; rfl
    · rw [if_neg h0, show okM l = true from decide_eq_true (by omega), goC_ok r]; rfl
theorem allTo_all {main : List OpD} {calls : List (List OpD)} : ∀ i, i ≤ calls.length → allTo main calls i = (okM main && (calls.take i).all okM)
  | 0, _ => by simp [allTo]
  | i + 1, h => by
    have hx : calls[i]? = some calls[i] := List.getElem?_eq_getElem (by omega)
    rw [allTo_succ hx, allTo_all i (by omega), List.take_add_one, hx, List.all_append]
    simp [Bool.and_assoc]
theorem chk_all {main : List OpD} {calls : List (List OpD)} (h1 : calls.length ≤ 64) (h2 : countM main calls ≤ 4096) : (checkM main calls).2.2 = if allTo main calls calls.length = true then 0 else 7 := by
  rw [allTo_all _ (Nat.le_refl _), List.take_length, checkM, if_neg (by omega)]
  by_cases h0 : 0 ≤ wrongM main
  · rw [if_pos h0, show okM main = false from decide_eq_false (by omega)]; rfl
  · rw [if_neg h0, show okM main = true from decide_eq_true (by omega), goC_ok]; rfl
theorem len_le {calls : List (List OpD)} {i : Nat} {l : List OpD} (h : calls[i]? = some l) (main : List OpD) : l.length ≤ countM main calls := by
  have := sumL_succ h
  have h2 := sumL_le calls (i + 1)
  rw [countM]
  omega
set_option maxHeartbeats 2000000 in
theorem progParts_f {main : List OpD} {calls : List (List OpD)} (hc : calls.length ≤ 100 → countM main calls ≤ 9223372036854775807) (hl : calls.length ≤ 9223372036854775807) (hm : OpsOk main) (hcs : ∀ l ∈ calls, OpsOk l) : Fun Tryd.prog 3 [progA main calls] [] (.v (.bool true)) [] := by
  by_cases h1 : calls.length > 60
  · refine fun_intro 68 Tryd.func3 rfl rfl rfl (fun ι F S w => ?_)
    (repeat (first | (apply v_cx; exact rfl; exact cbA rfl; (first | exact awake20); exact rfl; exact rfl) | (apply v_move; exact rfl; exact rfl) | (apply v_assign; exact rfl; exact rfl) | refine run_seq ?_ | refine run_region ?_ | refine runL_nil ?_ | refine run_skip ?_ | (apply v_fldP; exact flA rfl; exact rfl; exact rfl; exact rfl) | (apply v_loadB; exact tyA rfl; exact rfl; exact rfl; exact rfl; exact rfl; exact rfl; exact rfl) | (apply run_cond; exact rfl; (focus (intro hb; cases hb; done)); intro hb; clear hb) | (apply v_not; exact rfl; exact rfl) | (apply v_gtr; exact rfl; exact rfl; exact rfl) | (apply v_lenL; exact slA rfl; exact rfl; exact rfl) | (apply v_boxD; exact rfl; exact rfl; exact rfl; exact rfl; exact rfl; exact rfl; exact rfl)))
    refine v_is 20 true rfl (by simp; omega) ?_
    (repeat (first | (apply v_assign; exact rfl; exact rfl) | refine run_seq ?_ | refine run_region ?_ | refine runL_nil ?_ | (apply v_off; exact rfl; exact rfl) | (apply v_pick_t; exact rfl; exact rfl; exact rfl) | (apply run_cond; exact rfl; rotate_left; (focus (intro hb; cases hb; done)); intro hb; clear hb)))
    exact run_ret idN _ Tryd.func3 ⟨_, _, rfl, rfl, rfl⟩ rfl trivial trivial rfl
  · have hcf := count20_f (hc (by omega)) hl
    by_cases h2 : countM main calls > 4000
    · refine fun_intro 68 Tryd.func3 rfl rfl rfl (fun ι F S w => ?_)
      (repeat (first | (apply v_cx; exact rfl; exact cbA rfl; (first | exact awake20); exact rfl; exact rfl) | (apply v_move; exact rfl; exact rfl) | (apply v_assign; exact rfl; exact rfl) | refine run_seq ?_ | refine run_region ?_ | refine runL_nil ?_ | refine run_skip ?_ | (apply v_fldP; exact flA rfl; exact rfl; exact rfl; exact rfl) | (apply v_loadB; exact tyA rfl; exact rfl; exact rfl; exact rfl; exact rfl; exact rfl; exact rfl) | (apply run_cond; exact rfl; (focus (intro hb; cases hb; done)); intro hb; clear hb) | (apply v_not; exact rfl; exact rfl) | (apply v_gtr; exact rfl; exact rfl; exact rfl) | (apply v_lenL; exact slA rfl; exact rfl; exact rfl) | (apply v_boxD; exact rfl; exact rfl; exact rfl; exact rfl; exact rfl; exact rfl; exact rfl)))
      refine v_is 20 false rfl (by simp; omega) ?_
      (repeat (first | (apply v_cx; exact rfl; exact cbA rfl; (first | exact hcf); exact rfl; exact rfl) | refine runL_nil ?_ | (apply v_loadB; exact tyA rfl; exact rfl; exact rfl; exact rfl; exact rfl; exact rfl; exact rfl) | (apply v_on; exact rfl) | (apply v_pick_f; exact rfl; exact rfl; exact rfl) | (apply v_gtr; exact rfl; exact rfl; exact rfl)))
      refine run_condY rfl (by simp; omega) ?_
      (repeat (first | (apply v_assign; exact rfl; exact rfl) | refine run_seq ?_ | refine run_region ?_ | refine runL_nil ?_))
      exact run_ret idN _ Tryd.func3 ⟨_, _, rfl, rfl, rfl⟩ rfl trivial trivial rfl
    · have hk := check_f hc hl hm hcs
      have hml : main.length ≤ countM main calls := by rw [countM]; omega
      have hk1 := (check_f (main := main) (calls := []) (fun _ => by simp [countM, sumL]; omega) (by simp) hm (fun l hl => by simp at hl)).arg (l' := [.agg [.sem (listS opE main), .v (.slice none 0 0)]]) ⟨Le.agg ⟨Le.refl, Le.nil, trivial⟩, trivial⟩
      have e1 := chk_all (main := main) (calls := calls) (by omega) (by omega)
      have e2 := chk_one (l := main) (by omega)
      generalize checkM main calls = P at *
      obtain ⟨p1, p2, p3⟩ := P
      generalize checkM main [] = Q at *
      obtain ⟨q1, q2, q3⟩ := Q
      dsimp only at hk hk1 e1 e2
      have e3 : (q3 == 0) = allTo main calls 0 := by
        rw [e2]
        show _ = okM main
        cases okM main <;> rfl
      refine fun_intro 68 Tryd.func3 rfl rfl rfl (fun ι F S w => ?_)
      (repeat (first | (apply v_cx; exact rfl; exact cbA rfl; (first | exact awake20); exact rfl; exact rfl) | (apply v_move; exact rfl; exact rfl) | (apply v_assign; exact rfl; exact rfl) | refine run_seq ?_ | refine run_region ?_ | refine runL_nil ?_ | refine run_skip ?_ | (apply v_fldP; exact flA rfl; exact rfl; exact rfl; exact rfl) | (apply v_loadB; exact tyA rfl; exact rfl; exact rfl; exact rfl; exact rfl; exact rfl; exact rfl) | (apply run_cond; exact rfl; (focus (intro hb; cases hb; done)); intro hb; clear hb) | (apply v_not; exact rfl; exact rfl) | (apply v_gtr; exact rfl; exact rfl; exact rfl) | (apply v_lenL; exact slA rfl; exact rfl; exact rfl) | (apply v_boxD; exact rfl; exact rfl; exact rfl; exact rfl; exact rfl; exact rfl; exact rfl)))
      refine v_is 20 false rfl (by simp; omega) ?_
      (repeat (first | (apply v_cx; exact rfl; exact cbA rfl; (first | exact hcf); exact rfl; exact rfl) | refine runL_nil ?_ | (apply v_loadB; exact tyA rfl; exact rfl; exact rfl; exact rfl; exact rfl; exact rfl; exact rfl) | (apply v_on; exact rfl) | (apply v_pick_f; exact rfl; exact rfl; exact rfl) | (apply v_gtr; exact rfl; exact rfl; exact rfl)))
      refine run_condN rfl (by simp; omega) ?_
      (repeat (first | (apply v_cx; exact rfl; exact cbA rfl; (first | exact hk | exact hk1); exact rfl; exact rfl) | (apply v_move; exact rfl; exact rfl) | (apply v_assign; exact rfl; exact rfl) | refine run_seq ?_ | refine run_region ?_ | refine runL_nil ?_ | refine run_skip ?_ | refine run_block ?_ | (apply v_extract; exact rfl; exact rfl; exact rfl) | (apply v_fldP; exact flA rfl; exact rfl; exact rfl; exact rfl) | (apply v_loadB; exact tyA rfl; exact rfl; exact rfl; exact rfl; exact rfl; exact rfl; exact rfl) | (apply v_eql; exact rfl; exact rfl; exact rfl) | (apply v_b; exact plA rfl; exact tyA rfl; exact rfl; exact rfl; exact rfl)))
      refine v_loop (fun q : Nat × Bool => ⟨[(1, .ptr 1 0), (5, .v (.int .i64 p3)), (9, .v (.bool q.2)), (10, .v (.int .i64 q.1))], [(1, .box 25 [.sem (listS opE main), .sem (listS callE calls)])]⟩) (fun q => q.1 ≤ calls.length ∧ q.2 = allTo main calls q.1) (fun q => calls.length - q.1) (0, q3 == 0) idN trivial (by repeat (first | exact trivial | refine ⟨rfl, ?_⟩)) (by repeat (first | exact trivial | refine ⟨rfl, ?_⟩)) rfl ⟨by simp, e3⟩ fun ⟨i, s⟩ ⟨hi, hs⟩ ih => ?_
      dsimp only at hi hs ⊢
      (repeat (first | (apply v_move; exact rfl; exact rfl) | refine run_seq ?_ | refine run_region ?_ | refine runL_nil ?_ | (apply v_fldP; exact flA rfl; exact rfl; exact rfl; exact rfl) | (apply v_loadB; exact tyA rfl; exact rfl; exact rfl; exact rfl; exact rfl; exact rfl; exact rfl) | (apply v_lss; exact rfl; exact rfl; exact rfl) | (apply v_lenL; exact slA rfl; exact rfl; exact rfl)))
      refine run_cond rfl (fun hb => ?_) (fun hb => ?_)
      · have hlt : i < calls.length := by simpa using hb
        obtain ⟨l, hx⟩ : ∃ l, calls[i]? = some l := ⟨_, List.getElem?_eq_getElem hlt⟩
        have hx2 : calls[((i : Int)).toNat]? = some l := by rw [show ((i : Int)).toNat = i by omega]; exact hx
        have hnew := allTo_succ (main := main) hx
        have hll := len_le hx main
        have hk2 := (check_f (main := l) (calls := []) (fun _ => by simp [countM, sumL]; omega) (by simp) (hcs l (List.mem_of_getElem? hx)) (fun l hl => by simp at hl)).arg (l' := [.agg [.sem (listS opE l), .v (.slice none 0 0)]]) ⟨Le.agg ⟨Le.refl, Le.nil, trivial⟩, trivial⟩
        have e4 := chk_one (l := l) (by omega)
        generalize checkM l [] = R at *
        obtain ⟨r1, r2, r3⟩ := R
        dsimp only at hk2 e4
        have e5 : (r3 == 0) = okM l := by
          rw [e4]
          cases okM l <;> rfl
        rw [← hs, ← e5] at hnew
        cases s with
        | true =>
          (repeat (first | (apply v_idxL; exact slA rfl; exact tyA rfl; exact rfl; exact rfl; exact rfl; exact rfl; exact (by omega); (first | exact hx2); exact rfl) | (apply v_cx; exact rfl; exact cbA rfl; (first | exact hk2); exact rfl; exact rfl) | (apply v_move; exact rfl; exact rfl) | (apply v_assign; exact rfl; exact rfl) | refine run_seq ?_ | refine run_region ?_ | refine runL_nil ?_ | refine run_skip ?_ | refine run_block ?_ | refine run_inBlock ?_ | (apply v_extract; exact rfl; exact rfl; exact rfl) | (apply v_fldP; exact flA rfl; exact rfl; exact rfl; exact rfl) | (apply v_loadB; exact tyA rfl; exact rfl; exact rfl; exact rfl; exact rfl; exact rfl; exact rfl) | (apply v_loadA; exact tyA rfl; exact rfl; exact rfl; exact rfl; exact rfl; exact rfl; exact rfl) | (apply v_on; exact rfl) | (apply v_pick_t; exact rfl; exact rfl; exact rfl) | (apply v_eql; exact rfl; exact rfl; exact rfl) | (apply v_b; exact plA rfl; exact tyA rfl; exact rfl; exact rfl; exact rfl) | (apply v_add; exact rfl; exact rfl; exact rfl; exact (by omega))))
          exact v_again ih (i + 1, r3 == 0) idN trivial (by repeat (first | exact trivial | refine ⟨rfl, ?_⟩)) (by repeat (first | exact trivial | refine ⟨rfl, ?_⟩)) rfl ⟨by simp only; omega, by simp only; rw [hnew, Bool.true_and]⟩ (by simp only; omega)
        | false =>
          (repeat (first | (apply v_idxL; exact slA rfl; exact tyA rfl; exact rfl; exact rfl; exact rfl; exact rfl; exact (by omega); (first | exact hx2); exact rfl) | (apply v_cx; exact rfl; exact cbA rfl; (first | exact hk2); exact rfl; exact rfl) | (apply v_move; exact rfl; exact rfl) | (apply v_assign; exact rfl; exact rfl) | refine run_seq ?_ | refine run_region ?_ | refine runL_nil ?_ | refine run_skip ?_ | refine run_block ?_ | refine run_inBlock ?_ | (apply v_extract; exact rfl; exact rfl; exact rfl) | (apply v_fldP; exact flA rfl; exact rfl; exact rfl; exact rfl) | (apply v_loadB; exact tyA rfl; exact rfl; exact rfl; exact rfl; exact rfl; exact rfl; exact rfl) | (apply v_loadA; exact tyA rfl; exact rfl; exact rfl; exact rfl; exact rfl; exact rfl; exact rfl) | (apply v_off; exact rfl; exact rfl) | (apply v_pick_f; exact rfl; exact rfl; exact rfl) | (apply v_b; exact plA rfl; exact tyA rfl; exact rfl; exact rfl; exact rfl) | (apply v_add; exact rfl; exact rfl; exact rfl; exact (by omega))))
          exact v_again ih (i + 1, false) idN trivial (by repeat (first | exact trivial | refine ⟨rfl, ?_⟩)) (by repeat (first | exact trivial | refine ⟨rfl, ?_⟩)) rfl ⟨by simp only; omega, by simp only; rw [hnew, Bool.false_and]⟩ (by simp only; omega)
      · have hge : i = calls.length := by have : ¬ i < calls.length := (by simpa using hb); omega
        subst hge
        clear ih
        rw [← hs] at e1
        cases s with
        | true =>
          rw [if_pos rfl] at e1
          subst e1
          (repeat (first | (apply v_move; exact rfl; exact rfl) | (apply v_assign; exact rfl; exact rfl) | refine run_seq ?_ | refine run_region ?_ | refine runL_nil ?_ | (apply run_exit; exact rfl) | (apply v_eql; exact rfl; exact rfl; exact rfl) | (apply v_eqlB; exact boA rfl; exact rfl; exact rfl; exact rfl)))
          exact run_ret idN _ Tryd.func3 ⟨_, _, rfl, rfl, rfl⟩ rfl trivial trivial rfl
        | false =>
          rw [if_neg (by simp)] at e1
          subst e1
          (repeat (first | (apply v_move; exact rfl; exact rfl) | (apply v_assign; exact rfl; exact rfl) | refine run_seq ?_ | refine run_region ?_ | refine runL_nil ?_ | (apply run_exit; exact rfl) | (apply v_eql; exact rfl; exact rfl; exact rfl) | (apply v_eqlB; exact boA rfl; exact rfl; exact rfl; exact rfl)))
          exact run_ret idN _ Tryd.func3 ⟨_, _, rfl, rfl, rfl⟩ rfl trivial trivial rfl
end Go.Proofs.YtpmeffdcbjakoaaDoor
