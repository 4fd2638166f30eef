/- path: Parent, closed, Make. -/
import Derived.Test.YtjkidecaciomgaaFoP
namespace Go.Proofs.Ytjkidecaciomgaa
set_option linter.unusedVariables false
set_option linter.unusedSimpArgs false
set_option maxRecDepth 100000
open Go.RowKit

theorem evp_f {l : List Nd} (h : WF l) (id first : Int) (comp : Bool) : Fun Try.prog 125 [forA l, .v (.int .i64 id), .v (.int .i64 first), .v (.bool comp)] [] (.v (.int .i64 (evP l first comp id))) [] := by
  cases hx : nodeAt l id with
  | none =>
    rw [show evP l first comp id = 0 by rw [evP, hx]]
    refine fun_intro 42 Try.func125 rfl rfl rfl (fun ι F S w => ?_)
    (repeat (first | (apply v_cx; exact rfl; exact cbA rfl; (first | exact node_n h hx); exact rfl; exact rfl) | (apply v_move; exact rfl; exact rfl) | (apply v_assign; exact rfl; exact rfl) | refine run_seq ?_ | refine run_region ?_ | refine runL_nil ?_ | (apply v_extract; exact rfl; exact rfl; exact rfl) | (apply run_cond; exact rfl; rotate_left; (focus (intro hb; cases hb; done)); intro hb; clear hb) | (apply v_not; exact rfl; exact rfl) | (apply v_allocD; exact tyA rfl; exact rfl; exact rfl; exact rfl; exact rfl) | (apply v_storeW; exact tyA rfl; exact rfl; exact rfl; exact rfl; exact rfl; exact rfl; exact rfl; exact rfl)))
    exact run_ret idN _ Try.func125 ⟨_, _, rfl, rfl, rfl⟩ rfl trivial trivial rfl
  | some n =>
    have ho : evP l first comp id = if ofM l id ≠ 0 then ofM l id else if n.kind ≠ 3 then n.parent else if comp = false ∧ rootM l first = id then 0 else n.host := by rw [evP, hx]
    have hof := of_f h id
    have hrt := root_f h first
    generalize ofM l id = s at *
    generalize rootM l first = r at *
    generalize evP l first comp id = v at *
    by_cases h0 : s ≠ 0
    · rw [if_pos h0] at ho
      subst ho
      refine fun_intro 42 Try.func125 rfl rfl rfl (fun ι F S w => ?_)
      (repeat (first | (apply v_cx; exact rfl; exact cbA rfl; (first | exact node_s h hx | exact hof); exact rfl; exact rfl) | (apply v_move; exact rfl; exact rfl) | (apply v_assign; exact rfl; exact rfl) | refine run_seq ?_ | refine run_region ?_ | refine runL_nil ?_ | refine run_skip ?_ | (apply v_extract; exact rfl; exact rfl; exact rfl) | (apply run_cond; exact rfl; (focus (intro hb; cases hb; done)); intro hb; clear hb) | (apply v_not; exact rfl; exact rfl) | (apply v_neq; exact rfl; exact rfl; exact rfl) | (apply v_allocD; exact tyA rfl; exact rfl; exact rfl; exact rfl; exact rfl) | (apply v_storeW; exact tyA rfl; exact rfl; exact rfl; exact rfl; exact rfl; exact rfl; exact rfl; exact rfl)))
      refine run_condY rfl (by simpa using h0) ?_
      (repeat (first | (apply v_move; exact rfl; exact rfl) | (apply v_assign; exact rfl; exact rfl) | refine run_seq ?_ | refine run_region ?_ | refine runL_nil ?_))
      exact run_ret idN _ Try.func125 ⟨_, _, rfl, rfl, rfl⟩ rfl trivial trivial rfl
    · rw [if_neg h0] at ho
      by_cases h1 : n.kind ≠ 3
      · rw [if_pos h1] at ho
        subst ho
        refine fun_intro 42 Try.func125 rfl rfl rfl (fun ι F S w => ?_)
        (repeat (first | (apply v_cx; exact rfl; exact cbA rfl; (first | exact node_s h hx | exact hof); exact rfl; exact rfl) | (apply v_move; exact rfl; exact rfl) | (apply v_assign; exact rfl; exact rfl) | refine run_seq ?_ | refine run_region ?_ | refine runL_nil ?_ | refine run_skip ?_ | (apply v_extract; exact rfl; exact rfl; exact rfl) | (apply run_cond; exact rfl; (focus (intro hb; cases hb; done)); intro hb; clear hb) | (apply v_not; exact rfl; exact rfl) | (apply v_neq; exact rfl; exact rfl; exact rfl) | (apply v_allocD; exact tyA rfl; exact rfl; exact rfl; exact rfl; exact rfl) | (apply v_storeW; exact tyA rfl; exact rfl; exact rfl; exact rfl; exact rfl; exact rfl; exact rfl; exact rfl)))
        refine run_condN rfl (by simpa using h0) ?_
        (repeat (first | refine run_seq ?_ | refine run_region ?_ | refine runL_nil ?_ | refine run_skip ?_ | (apply v_fldP; exact flA rfl; exact rfl; exact rfl; exact rfl) | (apply v_loadB; exact tyA rfl; exact rfl; exact rfl; exact rfl; exact rfl; exact rfl; exact rfl) | (apply v_neq; exact rfl; exact rfl; exact rfl)))
        refine run_condY rfl (by simpa using h1) ?_
        (repeat (first | (apply v_assign; exact rfl; exact rfl) | refine run_seq ?_ | refine run_region ?_ | refine runL_nil ?_ | (apply v_fldP; exact flA rfl; exact rfl; exact rfl; exact rfl) | (apply v_loadB; exact tyA rfl; exact rfl; exact rfl; exact rfl; exact rfl; exact rfl; exact rfl)))
        exact run_ret idN _ Try.func125 ⟨_, _, rfl, rfl, rfl⟩ rfl trivial trivial rfl
      · rw [if_neg h1] at ho
        cases comp with
        | true =>
          rw [if_neg (by simp)] at ho
          subst ho
          refine fun_intro 42 Try.func125 rfl rfl rfl (fun ι F S w => ?_)
          (repeat (first | (apply v_cx; exact rfl; exact cbA rfl; (first | exact node_s h hx | exact hof); exact rfl; exact rfl) | (apply v_move; exact rfl; exact rfl) | (apply v_assign; exact rfl; exact rfl) | refine run_seq ?_ | refine run_region ?_ | refine runL_nil ?_ | refine run_skip ?_ | (apply v_extract; exact rfl; exact rfl; exact rfl) | (apply run_cond; exact rfl; (focus (intro hb; cases hb; done)); intro hb; clear hb) | (apply v_not; exact rfl; exact rfl) | (apply v_neq; exact rfl; exact rfl; exact rfl) | (apply v_allocD; exact tyA rfl; exact rfl; exact rfl; exact rfl; exact rfl) | (apply v_storeW; exact tyA rfl; exact rfl; exact rfl; exact rfl; exact rfl; exact rfl; exact rfl; exact rfl)))
          refine run_condN rfl (by simpa using h0) ?_
          (repeat (first | refine run_seq ?_ | refine run_region ?_ | refine runL_nil ?_ | refine run_skip ?_ | (apply v_fldP; exact flA rfl; exact rfl; exact rfl; exact rfl) | (apply v_loadB; exact tyA rfl; exact rfl; exact rfl; exact rfl; exact rfl; exact rfl; exact rfl) | (apply v_neq; exact rfl; exact rfl; exact rfl)))
          refine run_condN rfl (by simpa using h1) ?_
          (repeat (first | (apply v_move; exact rfl; exact rfl) | (apply v_assign; exact rfl; exact rfl) | refine run_seq ?_ | refine run_region ?_ | refine runL_nil ?_ | refine run_skip ?_ | (apply v_fldP; exact flA rfl; exact rfl; exact rfl; exact rfl) | (apply v_loadB; exact tyA rfl; exact rfl; exact rfl; exact rfl; exact rfl; exact rfl; exact rfl) | (apply v_off; exact rfl; exact rfl) | (apply v_pick_f; exact rfl; exact rfl; exact rfl) | (apply run_cond; exact rfl; (focus (intro hb; cases hb; done)); intro hb; clear hb) | (apply v_not; exact rfl; exact rfl)))
          exact run_ret idN _ Try.func125 ⟨_, _, rfl, rfl, rfl⟩ rfl trivial trivial rfl
        | false =>
          by_cases h2 : r = id
          · rw [if_pos ⟨rfl, h2⟩] at ho
            subst ho
            refine fun_intro 42 Try.func125 rfl rfl rfl (fun ι F S w => ?_)
            (repeat (first | (apply v_cx; exact rfl; exact cbA rfl; (first | exact node_s h hx | exact hof); exact rfl; exact rfl) | (apply v_move; exact rfl; exact rfl) | (apply v_assign; exact rfl; exact rfl) | refine run_seq ?_ | refine run_region ?_ | refine runL_nil ?_ | refine run_skip ?_ | (apply v_extract; exact rfl; exact rfl; exact rfl) | (apply run_cond; exact rfl; (focus (intro hb; cases hb; done)); intro hb; clear hb) | (apply v_not; exact rfl; exact rfl) | (apply v_neq; exact rfl; exact rfl; exact rfl) | (apply v_allocD; exact tyA rfl; exact rfl; exact rfl; exact rfl; exact rfl) | (apply v_storeW; exact tyA rfl; exact rfl; exact rfl; exact rfl; exact rfl; exact rfl; exact rfl; exact rfl)))
            refine run_condN rfl (by simpa using h0) ?_
            (repeat (first | refine run_seq ?_ | refine run_region ?_ | refine runL_nil ?_ | refine run_skip ?_ | (apply v_fldP; exact flA rfl; exact rfl; exact rfl; exact rfl) | (apply v_loadB; exact tyA rfl; exact rfl; exact rfl; exact rfl; exact rfl; exact rfl; exact rfl) | (apply v_neq; exact rfl; exact rfl; exact rfl)))
            refine run_condN rfl (by simpa using h1) ?_
            (repeat (first | (apply v_cx; exact rfl; exact cbA rfl; (first | exact hrt); exact rfl; exact rfl) | (apply v_move; exact rfl; exact rfl) | refine run_seq ?_ | refine run_region ?_ | refine runL_nil ?_ | refine run_skip ?_ | (apply v_on; exact rfl) | (apply v_pick_t; exact rfl; exact rfl; exact rfl) | (apply v_not; exact rfl; exact rfl) | (apply v_eql; exact rfl; exact rfl; exact rfl)))
            refine run_condY rfl (by simpa using h2) ?_
            (repeat (first | (apply v_assign; exact rfl; exact rfl) | refine run_seq ?_ | refine run_region ?_ | refine runL_nil ?_))
            exact run_ret idN _ Try.func125 ⟨_, _, rfl, rfl, rfl⟩ rfl trivial trivial rfl
          · rw [if_neg (fun e => h2 e.2)] at ho
            subst ho
            refine fun_intro 42 Try.func125 rfl rfl rfl (fun ι F S w => ?_)
            (repeat (first | (apply v_cx; exact rfl; exact cbA rfl; (first | exact node_s h hx | exact hof); exact rfl; exact rfl) | (apply v_move; exact rfl; exact rfl) | (apply v_assign; exact rfl; exact rfl) | refine run_seq ?_ | refine run_region ?_ | refine runL_nil ?_ | refine run_skip ?_ | (apply v_extract; exact rfl; exact rfl; exact rfl) | (apply run_cond; exact rfl; (focus (intro hb; cases hb; done)); intro hb; clear hb) | (apply v_not; exact rfl; exact rfl) | (apply v_neq; exact rfl; exact rfl; exact rfl) | (apply v_allocD; exact tyA rfl; exact rfl; exact rfl; exact rfl; exact rfl) | (apply v_storeW; exact tyA rfl; exact rfl; exact rfl; exact rfl; exact rfl; exact rfl; exact rfl; exact rfl)))
            refine run_condN rfl (by simpa using h0) ?_
            (repeat (first | refine run_seq ?_ | refine run_region ?_ | refine runL_nil ?_ | refine run_skip ?_ | (apply v_fldP; exact flA rfl; exact rfl; exact rfl; exact rfl) | (apply v_loadB; exact tyA rfl; exact rfl; exact rfl; exact rfl; exact rfl; exact rfl; exact rfl) | (apply v_neq; exact rfl; exact rfl; exact rfl)))
            refine run_condN rfl (by simpa using h1) ?_
            (repeat (first | (apply v_cx; exact rfl; exact cbA rfl; (first | exact hrt); exact rfl; exact rfl) | (apply v_move; exact rfl; exact rfl) | refine run_seq ?_ | refine run_region ?_ | refine runL_nil ?_ | refine run_skip ?_ | (apply v_on; exact rfl) | (apply v_pick_t; exact rfl; exact rfl; exact rfl) | (apply v_not; exact rfl; exact rfl) | (apply v_eql; exact rfl; exact rfl; exact rfl)))
            refine run_condN rfl (by simpa using h2) ?_
            (repeat (first | (apply v_assign; exact rfl; exact rfl) | refine run_seq ?_ | refine run_region ?_ | refine runL_nil ?_ | refine run_skip ?_ | (apply v_fldP; exact flA rfl; exact rfl; exact rfl; exact rfl) | (apply v_loadB; exact tyA rfl; exact rfl; exact rfl; exact rfl; exact rfl; exact rfl; exact rfl)))
            exact run_ret idN _ Try.func125 ⟨_, _, rfl, rfl, rfl⟩ rfl trivial trivial rfl
theorem pclosed_f {l : List Nd} (h : WF l) (id : Int) : Fun Try.prog 169 [forA l, .v (.int .i64 id)] [] (.v (.bool (isClosed l id))) [] := by
  have hn := node_w h id
  have ho : isClosed l id = (decide ((nodeR l id).kind = 3) && decide ((nodeR l id).mode = 2)) := rfl
  generalize nodeR l id = n at *
  generalize (nodeAt l id).isSome = ok at *
  rw [ho]
  clear ho
  by_cases hk : n.kind = 3
  · rw [decide_eq_true hk, Bool.true_and]
    refine fun_intro 21 Try.func169 rfl rfl rfl (fun ι F S w => ?_)
    (repeat (first | (apply v_cx; exact rfl; exact cbA rfl; (first | exact hn); exact rfl; exact rfl) | (apply v_move; exact rfl; exact rfl) | (apply v_assign; exact rfl; exact rfl) | refine run_seq ?_ | refine run_region ?_ | refine runL_nil ?_ | (apply v_extract; exact rfl; exact rfl; exact rfl) | (apply v_fldP; exact flA rfl; exact rfl; exact rfl; exact rfl) | (apply v_loadB; exact tyA rfl; exact rfl; exact rfl; exact rfl; exact rfl; exact rfl; exact rfl) | (apply v_eql; exact rfl; exact rfl; exact rfl) | (apply v_allocD; exact tyA rfl; exact rfl; exact rfl; exact rfl; exact rfl) | (apply v_storeW; exact tyA rfl; exact rfl; exact rfl; exact rfl; exact rfl; exact rfl; exact rfl; exact rfl)))
    refine v_is 16 true rfl (by simpa using hk) ?_
    (repeat (first | (apply v_assign; exact rfl; exact rfl) | refine runL_nil ?_ | (apply v_fldP; exact flA rfl; exact rfl; exact rfl; exact rfl) | (apply v_loadB; exact tyA rfl; exact rfl; exact rfl; exact rfl; exact rfl; exact rfl; exact rfl) | (apply v_on; exact rfl) | (apply v_pick_t; exact rfl; exact rfl; exact rfl) | (apply v_eql; exact rfl; exact rfl; exact rfl)))
    exact run_ret idN _ Try.func169 ⟨_, _, rfl, rfl, rfl⟩ rfl trivial trivial rfl
  · rw [decide_eq_false hk, Bool.false_and]
    refine fun_intro 21 Try.func169 rfl rfl rfl (fun ι F S w => ?_)
    (repeat (first | (apply v_cx; exact rfl; exact cbA rfl; (first | exact hn); exact rfl; exact rfl) | (apply v_move; exact rfl; exact rfl) | (apply v_assign; exact rfl; exact rfl) | refine run_seq ?_ | refine run_region ?_ | refine runL_nil ?_ | (apply v_extract; exact rfl; exact rfl; exact rfl) | (apply v_fldP; exact flA rfl; exact rfl; exact rfl; exact rfl) | (apply v_loadB; exact tyA rfl; exact rfl; exact rfl; exact rfl; exact rfl; exact rfl; exact rfl) | (apply v_eql; exact rfl; exact rfl; exact rfl) | (apply v_allocD; exact tyA rfl; exact rfl; exact rfl; exact rfl; exact rfl) | (apply v_storeW; exact tyA rfl; exact rfl; exact rfl; exact rfl; exact rfl; exact rfl; exact rfl; exact rfl)))
    refine v_is 16 false rfl (by simpa using hk) ?_
    (repeat (first | (apply v_assign; exact rfl; exact rfl) | refine runL_nil ?_ | (apply v_off; exact rfl; exact rfl) | (apply v_pick_f; exact rfl; exact rfl; exact rfl)))
    exact run_ret idN _ Try.func169 ⟨_, _, rfl, rfl, rfl⟩ rfl trivial trivial rfl
structure St where
  node : Int
  target : Int
  related : Int
  cr : Bool
  cs : Bool
deriving DecidableEq
def stL (x : St) : List AV := [.v (.int .i64 x.node), .v (.int .i64 x.target), .v (.int .i64 x.related), .v (.bool x.cr), .v (.bool x.cs)]
def stE : Enc St where
  sz := 5
  f := stL
  len := fun _ => rfl
  leaf := fun _ => rfl
def stM (l : List Nd) (id target related : Int) (sl : Bool) : St := ⟨id, target, related, isClosed l id, sl && isClosed l (rootM l id)⟩
/-- What Make's closure has. -/
def addR (l : List Nd) (g : Nat) (out : List St) : List (Nat × RK) := [(0, .box 68 [.res g]), (1, .box 25 [forA l]), (g, .obj (ownS 94 stE out))]
theorem add_f {l : List Nd} (h : WF l) (id target related : Int) (sl : Bool) (out : List St) (hm : out.length ≤ 100000) : Fun Try.prog 168 [.v (.int .i64 id), .v (.int .i64 target), .v (.int .i64 related), .v (.bool sl), .ptr 0 0, .ptr 1 0] (addR l 3 out) (.tup []) (addR l 4 (out ++ [stM l id target related sl])) := by
  have hc := pclosed_f h id
  have hr := root_f h id
  have hc2 := pclosed_f h (rootM l id)
  have ho : stM l id target related sl = ⟨id, target, related, isClosed l id, sl && isClosed l (rootM l id)⟩ := rfl
  generalize stM l id target related sl = s at *
  generalize isClosed l id = c1 at *
  generalize isClosed l (rootM l id) = c2 at *
  generalize rootM l id = r at *
  cases sl with
  | true =>
    rw [Bool.true_and] at ho
    subst ho
    refine fun_intro 28 Try.func168 rfl rfl rfl (fun ι F S w => ?_)
    skip
    refine run_draws (by kernel_rfl) (by kernel_rfl) ?_
    (repeat (first | (apply p_cx; exact rfl; exact cbA rfl; (first | exact hc | exact hr | exact hc2); exact rfl; exact rfl; exact rfl) | (apply p_move; exact rfl; exact rfl; exact rfl) | (apply p_loadB; exact tyA rfl; exact rfl; exact rfl; exact rfl; exact rfl; exact rfl; exact rfl; exact rfl) | (apply p_pick_t; exact rfl; exact rfl; exact rfl; exact rfl) | (apply p_b; exact plA rfl; exact tyA rfl; exact rfl; exact rfl; exact rfl; exact rfl)))
    refine p_l stE [⟨id, target, related, c1, c2⟩] (slA rfl) (tyA rfl) rfl rfl rfl rfl rfl rfl rfl rfl rfl rfl rfl ?_
    refine p_appendD (slA rfl) (tyA rfl) rfl rfl rfl rfl rfl rfl rfl (by simp; omega) rfl rfl rfl ?_
    (repeat (first | (apply p_storeW; exact tyA rfl; exact rfl; exact rfl; exact rfl; exact rfl; exact rfl; exact rfl; exact rfl; exact rfl)))
    refine planL_nil (by kernel_rfl) ?_
    skip
    exact run_end (mp [(4, 27)]) _ Try.func168 rfl rfl ⟨rfl, rfl, rfl, trivial⟩ ⟨rfl, rfl, rfl, trivial⟩ rfl
  | false =>
    rw [Bool.false_and] at ho
    subst ho
    refine fun_intro 28 Try.func168 rfl rfl rfl (fun ι F S w => ?_)
    skip
    refine run_draws (by kernel_rfl) (by kernel_rfl) ?_
    (repeat (first | (apply p_cx; exact rfl; exact cbA rfl; (first | exact hc | exact hr | exact hc2); exact rfl; exact rfl; exact rfl) | (apply p_off; exact rfl; exact rfl) | (apply p_move; exact rfl; exact rfl; exact rfl) | (apply p_loadB; exact tyA rfl; exact rfl; exact rfl; exact rfl; exact rfl; exact rfl; exact rfl; exact rfl) | (apply p_pick_f; exact rfl; exact rfl; exact rfl; exact rfl) | (apply p_b; exact plA rfl; exact tyA rfl; exact rfl; exact rfl; exact rfl; exact rfl)))
    refine p_l stE [⟨id, target, related, c1, false⟩] (slA rfl) (tyA rfl) rfl rfl rfl rfl rfl rfl rfl rfl rfl rfl rfl ?_
    refine p_appendD (slA rfl) (tyA rfl) rfl rfl rfl rfl rfl rfl rfl (by simp; omega) rfl rfl rfl ?_
    (repeat (first | (apply p_storeW; exact tyA rfl; exact rfl; exact rfl; exact rfl; exact rfl; exact rfl; exact rfl; exact rfl; exact rfl)))
    refine planL_nil (by kernel_rfl) ?_
    skip
    exact run_end (mp [(4, 27)]) _ Try.func168 rfl rfl ⟨rfl, rfl, rfl, trivial⟩ ⟨rfl, rfl, rfl, trivial⟩ rfl
end Go.Proofs.Ytjkidecaciomgaa
