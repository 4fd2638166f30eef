/- The forest: Make. -/
import Derived.Test.YtjkidecaciomgaaFo3
namespace Go.Proofs.Ytjkidecaciomgaa
set_option linter.unusedVariables false
set_option linter.unusedSimpArgs false
set_option maxRecDepth 100000
open Go.RowKit

/-- A forest that is being made: its pointer is ptr 0 0. -/
def forR (g : Nat) (l : List Nd) : List (Nat × RK) := [(0, .box 53 [.res g]), (g, .obj (ownS 33 nodeE l))]
/-- What Make makes of a node that is told. -/
def fresh (n : Nd) : Nd := { nd0 with kind := n.kind, mode := n.mode, slot := n.slot, name := n.name, want := n.want }
def makeM (l : List Nd) (n : Nd) : List Nd × Int × Int :=
  if rightM n ≠ 0 then (l, 0, rightM n)
  else if 128 ≤ l.length then (l, 0, 9)
  else (l ++ [fresh n], l.length + 1, 0)
theorem make_f {l : List Nd} {x : Nd} (h1 : x.name.size ≤ 9223372036854775807) (h2 : x.want.size ≤ 9223372036854775807) (hl : l.length ≤ 128) : Fun Try.prog 45 [.ptr 0 0, .agg (nodeL x)] (forR 1 l) (.tup [.v (.int .i64 (makeM l x).2.1), .v (.int .i64 (makeM l x).2.2)]) (forR 2 (makeM l x).1) := by
  refine fun_intro 45 Try.func45 rfl rfl rfl (fun ι F S w => ?_)
  (repeat (first | (apply v_cx; exact rfl; exact cbA rfl; (first | exact right_f h1 h2); exact rfl; exact rfl) | (apply v_move; exact rfl; exact rfl) | (apply v_assign; exact rfl; exact rfl) | refine run_seq ?_ | refine run_region ?_ | refine runL_nil ?_ | refine run_skip ?_ | (apply v_loadB; exact tyA rfl; exact rfl; exact rfl; exact rfl; exact rfl; exact rfl; exact rfl) | (apply run_cond; exact rfl; (focus (intro hb; cases hb; done)); intro hb; clear hb) | (apply v_neq; exact rfl; exact rfl; exact rfl) | (apply v_eqlNil; exact ptA rfl; exact rfl; exact NN.ptr; exact rfl) | (apply v_boxD; exact rfl; exact rfl; exact rfl; exact rfl; exact rfl; exact rfl; exact rfl)))
  refine run_cond rfl (fun h => ?_) (fun h => ?_)
  · have hr : rightM x ≠ 0 := by simpa using h
    have hm : makeM l x = (l, 0, rightM x) := by simp [makeM, hr]
    rw [hm]
    (repeat (first | (apply v_move; exact rfl; exact rfl) | (apply v_assign; exact rfl; exact rfl) | refine run_seq ?_ | refine run_region ?_ | refine runL_nil ?_))
    exact run_ret (mp [(2, 1)]) _ Try.func45 ⟨_, _, rfl, rfl, _, _, rfl, rfl, rfl⟩ rfl ⟨rfl, rfl, trivial⟩ ⟨rfl, rfl, trivial⟩ rfl
  · have hr : rightM x = 0 := by simpa using h
    (repeat (first | (apply v_move; exact rfl; exact rfl) | refine run_seq ?_ | refine run_region ?_ | refine runL_nil ?_ | refine run_skip ?_ | (apply v_fldP; exact flA rfl; exact rfl; exact rfl; exact rfl) | (apply v_loadB; exact tyA rfl; exact rfl; exact rfl; exact rfl; exact rfl; exact rfl; exact rfl) | (apply v_geq; exact rfl; exact rfl; exact rfl) | (apply v_lenO; exact slA rfl; exact rfl; exact rfl; exact rfl) | (apply v_nilCheck; exact rfl; exact NN.ptr; exact rfl)))
    refine run_cond rfl (fun h => ?_) (fun h => ?_)
    · have hlen : 128 ≤ l.length := by have : (128 : Int) ≤ l.length := (by simpa using h); omega
      have hm : makeM l x = (l, 0, 9) := by simp [makeM, hr, hlen]
      rw [hm]
      (repeat (first | (apply v_assign; exact rfl; exact rfl) | refine run_seq ?_ | refine run_region ?_ | refine runL_nil ?_))
      exact run_ret (mp [(2, 1)]) _ Try.func45 ⟨_, _, rfl, rfl, _, _, rfl, rfl, rfl⟩ rfl ⟨rfl, rfl, trivial⟩ ⟨rfl, rfl, trivial⟩ rfl
    · have hlen : ¬ 128 ≤ l.length := by have : (l.length : Int) < 128 := (by simpa using h); omega
      have hm : makeM l x = (l ++ [fresh x], (l.length : Int) + 1, 0) := by simp [makeM, hr, hlen]
      rw [hm]
      (repeat (first | refine run_seq ?_ | refine run_skip ?_))
      refine run_draws (by kernel_rfl) (by kernel_rfl) ?_
      (repeat (first | (apply p_move; exact rfl; exact rfl; exact rfl) | (apply p_fldP; exact flA rfl; exact rfl; exact rfl; exact rfl; exact rfl) | (apply p_loadB; exact tyA rfl; exact rfl; exact rfl; exact rfl; exact rfl; exact rfl; exact rfl; exact rfl) | (apply p_nilCheck; exact rfl; exact NNf.ptr; exact rfl; exact rfl) | (apply p_b; exact plA rfl; exact tyA rfl; exact rfl; exact rfl; exact rfl; exact rfl)))
      refine planL_know 35 rfl (y := .agg (nodeL (fresh x))) (Le.agg (by repeat (first | exact trivial | refine ⟨Le.refl, ?_⟩ | refine ⟨Le.nil, ?_⟩))) ?_
      refine p_l nodeE [fresh x] (slA rfl) (tyA rfl) rfl rfl rfl rfl rfl rfl rfl rfl rfl rfl rfl ?_
      refine p_appendD (slA rfl) (tyA rfl) rfl rfl rfl rfl rfl rfl rfl (by simp; omega) rfl rfl rfl ?_
      (repeat (first | (apply p_fldP; exact flA rfl; exact rfl; exact rfl; exact rfl; exact rfl) | (apply p_nilCheck; exact rfl; exact NNf.ptr; exact rfl; exact rfl) | (apply p_storeW; exact tyA rfl; exact rfl; exact rfl; exact rfl; exact rfl; exact rfl; exact rfl; exact rfl; exact rfl)))
      refine planL_nil (by kernel_rfl) ?_
      (repeat (first | (apply v_move; exact rfl; exact rfl) | (apply v_assign; exact rfl; exact rfl) | refine run_seq ?_ | refine run_region ?_ | refine runL_nil ?_ | (apply v_fldP; exact flA rfl; exact rfl; exact rfl; exact rfl) | (apply v_loadB; exact tyA rfl; exact rfl; exact rfl; exact rfl; exact rfl; exact rfl; exact rfl) | (apply v_lenO; exact slA rfl; exact rfl; exact rfl; exact rfl) | (apply v_nilCheck; exact rfl; exact NN.ptr; exact rfl)))
      exact run_ret (mp [(2, 37)]) _ Try.func45 ⟨_, _, rfl, rfl, _, _, rfl, rfl, rfl⟩ (by simp [oneA, AV.ren, AV.renL]) ⟨rfl, rfl, trivial⟩ ⟨rfl, rfl, trivial⟩ rfl
end Go.Proofs.Ytjkidecaciomgaa
