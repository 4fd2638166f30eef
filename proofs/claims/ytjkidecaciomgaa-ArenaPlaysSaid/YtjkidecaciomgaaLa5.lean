/- Law 05: awake. -/
import Derived.Test.YtjkidecaciomgaaRf1
namespace Go.Proofs.Ytjkidecaciomgaa
set_option linter.unusedVariables false
set_option linter.unusedSimpArgs false
set_option maxRecDepth 100000
open Go.RowKit

def n2 : Nd := { nd0 with kind := 2 }
def a0 : Ac := ⟨0, 0, 0, ⟨#[]⟩, n2, []⟩
def a1 : Ac := ⟨1, 1, 0, ⟨#[]⟩, nd0, [2, 3]⟩
theorem act_a0 {l : List Nd} (h : l.length < 128) : actM l a0 = l ++ [n2] := by
  have hr : rightM n2 = 0 := by simp [rightM, n2, nd0, namedB]
  have : ¬ 128 ≤ l.length := by omega
  show (makeM l n2).1 = l ++ [n2]
  rw [makeM, if_neg (by rw [hr]; simp), if_neg this]
  rfl
def f3 : List Nd := [{ n2 with kids := [2, 3] }, { n2 with parent := 1 }, { n2 with parent := 1 }]
theorem act_a1 : actM [n2, n2, n2] a1 = f3 := by
  have hb : ∀ k : Int, k ≠ 1 → aboveB [n2, n2, n2] k 1 = false := fun k hk => by
    rw [← Bool.not_eq_true, aboveB_true, abv_iff (x := n2) (by rfl)]
    rintro (e | e)
    · exact hk e.symm
    · exact abv_not (by rfl) e
  have h2 : putOk [n2, n2, n2] 1 2 = true := by
    simp only [putOk, show nodeAt [n2, n2, n2] 2 = some n2 from rfl, hb 2 (by decide)]; rfl
  have h3 : putOk [n2, n2, n2] 1 3 = true := by
    simp only [putOk, show nodeAt [n2, n2, n2] 3 = some n2 from rfl, hb 3 (by decide)]; rfl
  have ha : (List.range [(2 : Int), 3].length).all (argOk [n2, n2, n2] [2, 3]) = true := by decide
  have hal : [(2 : Int), 3].all (putOk [n2, n2, n2] 1) = true := by simp [h2, h3]
  show (putM [n2, n2, n2] 1 [2, 3]).1 = f3
  unfold putM
  rw [show nodeAt [n2, n2, n2] 1 = some n2 from rfl]
  simp only
  rw [ha, hal]
  rfl
theorem nodes_awake : nodesM [a0, a0, a0, a1] = f3 := by
  show actM (actM (actM (actM [] a0) a0) a0) a1 = f3
  have e1 : actM [] a0 = [n2] := act_a0 (l := []) (by decide)
  have e2 : actM [n2] a0 = [n2, n2] := act_a0 (l := [n2]) (by decide)
  have e3 : actM [n2, n2] a0 = [n2, n2, n2] := act_a0 (l := [n2, n2]) (by decide)
  rw [e1, e2, e3]
  exact act_a1
theorem ok_a0 : AcOk a0 := ⟨by decide, by decide, by decide, by decide⟩
theorem ok_a1 : AcOk a1 := ⟨by decide, by decide, by decide, by decide⟩
theorem wf_f3 : WF f3 := by
  rw [← nodes_awake]
  exact wf_nodes fun x hx => by
    simp only [List.mem_cons, List.not_mem_nil, or_false] at hx
    rcases hx with rfl | rfl | rfl | rfl
    · exact ok_a0
    · exact ok_a0
    · exact ok_a0
    · exact ok_a1
theorem awake5 : Fun Try.prog 50 [] [] (.v (.bool true)) [] := by
  have hm := made5 (xs := [a0, a0, a0, a1]) (by decide) (fun x hx => by
    simp only [List.mem_cons, List.not_mem_nil, or_false] at hx
    rcases hx with rfl | rfl | rfl | rfl
    · exact ok_a0
    · exact ok_a0
    · exact ok_a0
    · exact ok_a1)
  rw [nodes_awake] at hm
  have ho := order_k wf_f3 1 (by decide)
  rw [show orderM f3 1 = [1, 2, 3] by decide] at ho
  have hr := root_f wf_f3 3
  rw [show rootM f3 3 = 1 by decide] at hr
  have hi := ints_f (xs := [1, 2, 3]) (ys := [1, 2, 3]) (by decide)
  rw [show decide (([1, 2, 3] : List Int) = [1, 2, 3]) = true by decide] at hi
  refine fun_intro 21 Try.func50 rfl rfl rfl (fun ι F S w => ?_)
  (repeat (first | (apply v_assign; exact rfl; exact rfl) | refine run_seq ?_ | refine run_region ?_ | refine runL_nil ?_ | (apply v_b; exact plA rfl; exact tyA rfl; exact rfl; exact rfl; exact rfl)))
  refine v_l intE [2, 3] (slA rfl) (tyA rfl) rfl rfl rfl rfl rfl rfl rfl rfl rfl rfl ?_
  (repeat (first | (apply v_b; exact plA rfl; exact tyA rfl; exact rfl; exact rfl; exact rfl)))
  refine runL_le 3 rfl (y := .agg (acE.f a0)) (Le.agg (by repeat (first | exact trivial | refine ⟨Le.refl, ?_⟩ | refine ⟨Le.nil, ?_⟩))) ?_
  refine runL_le 5 rfl (y := .agg (acE.f a0)) (Le.agg (by repeat (first | exact trivial | refine ⟨Le.refl, ?_⟩ | refine ⟨Le.nil, ?_⟩))) ?_
  refine runL_le 7 rfl (y := .agg (acE.f a0)) (Le.agg (by repeat (first | exact trivial | refine ⟨Le.refl, ?_⟩ | refine ⟨Le.nil, ?_⟩))) ?_
  refine runL_le 9 rfl (y := .agg (acE.f a1)) (Le.agg (by repeat (first | exact trivial | refine ⟨Le.refl, ?_⟩ | refine ⟨Le.nil, ?_⟩))) ?_
  refine v_l acE [a0, a0, a0, a1] (slA rfl) (tyA rfl) rfl rfl rfl rfl rfl rfl rfl rfl rfl rfl ?_
  (repeat (first | (apply v_cx; exact rfl; exact cbA rfl; (first | exact hm); exact rfl; exact rfl) | (apply v_cx; exact rfl; exact cbA rfl; (first | exact ho); exact rfl; exact rfl) | (apply v_move; exact rfl; exact rfl) | (apply v_assign; exact rfl; exact rfl) | refine run_seq ?_ | refine run_region ?_ | refine runL_nil ?_))
  refine v_l intE [1, 2, 3] (slA rfl) (tyA rfl) rfl rfl rfl rfl rfl rfl rfl rfl rfl rfl ?_
  (repeat (first | (apply v_cx; exact rfl; exact cbA rfl; (first | exact hi | exact hr); exact rfl; exact rfl) | (apply v_move; exact rfl; exact rfl) | (apply v_assign; exact rfl; exact rfl) | refine runL_nil ?_ | (apply v_on; exact rfl) | (apply v_pick_t; exact rfl; exact rfl; exact rfl) | (apply v_eql; exact rfl; exact rfl; exact rfl)))
  exact run_ret idN _ Try.func50 ⟨_, _, rfl, rfl, rfl⟩ rfl trivial trivial rfl
end Go.Proofs.Ytjkidecaciomgaa
