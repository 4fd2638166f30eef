/- Law 14: awake. -/
import Derived.Test.YtjkidecaciomgaaLaC14
import Derived.Test.YtjkidecaciomgaaBP
import Derived.Test.YtjkidecaciomgaaFoE
import Derived.Test.YtjkidecaciomgaaKinPlW
namespace Go.Proofs.Ytjkidecaciomgaa
set_option linter.unusedVariables false
set_option linter.unusedSimpArgs false
set_option maxRecDepth 100000
open Go.RowKit

def ex14 : List Ac := [acN ndE, acN ndE, acN (ndS 1), acN ndE, acP 1 [2], acT 2 3, acP 2 [4]]
def fo14 : List Nd := [{ ndE with kids := [2] }, { ndE with parent := 1, shadow := 3, kids := [4] }, { ndS 1 with host := 2 }, { ndE with parent := 2 }]
theorem ok14 : (∀ x ∈ ex14, AcOk x) ∧ nodesM ex14 = fo14 ∧ WF fo14 := nodes_ex (by decide) (by kernel_rfl)
def pa14 : List St := [⟨4, 4, 0, false, false⟩, ⟨2, 0, 0, false, false⟩, ⟨1, 0, 0, false, false⟩]
theorem awake14 : Fun Try.prog 122 [] [] (.v (.bool true)) [] := by
  have hm := made14 (xs := ex14) (by decide) ok14.1
  rw [ok14.2.1] at hm
  have hw := ok14.2.2
  have h1 := path_p hw 4 0 true
  rw [show pathM fo14 4 0 true = pa14 by kernel_rfl] at h1
  refine fun_intro 46 Try.func122 rfl rfl rfl (fun ι F S w => ?_)
  (repeat (first | (apply v_assign; exact rfl; exact rfl) | refine run_seq ?_ | refine run_region ?_ | refine runL_nil ?_ | (apply v_loadB; exact tyA rfl; exact rfl; exact rfl; exact rfl; exact rfl; exact rfl; exact rfl) | (apply v_allocD; exact tyA rfl; exact rfl; exact rfl; exact rfl; exact rfl) | (apply v_storeW; exact tyA rfl; exact rfl; exact rfl; exact rfl; exact rfl; exact rfl; exact rfl; exact rfl) | (apply v_b; exact plA rfl; exact tyA rfl; exact rfl; exact rfl; exact rfl)))
  refine v_l intE [2] (slA rfl) (tyA rfl) rfl rfl rfl rfl rfl rfl rfl rfl rfl rfl ?_
  (repeat (first | (apply v_b; exact plA rfl; exact tyA rfl; exact rfl; exact rfl; exact rfl)))
  refine v_l intE [4] (slA rfl) (tyA rfl) rfl rfl rfl rfl rfl rfl rfl rfl rfl rfl ?_
  (repeat (first | (apply v_b; exact plA rfl; exact tyA rfl; exact rfl; exact rfl; exact rfl)))
  refine runL_le 6 rfl (y := .agg (acE.f (acN ndE))) (Le.agg (by repeat (first | exact trivial | refine ⟨Le.refl, ?_⟩ | refine ⟨Le.nil, ?_⟩))) ?_
  refine runL_le 8 rfl (y := .agg (acE.f (acN ndE))) (Le.agg (by repeat (first | exact trivial | refine ⟨Le.refl, ?_⟩ | refine ⟨Le.nil, ?_⟩))) ?_
  refine runL_le 10 rfl (y := .agg (acE.f (acN (ndS 1)))) (Le.agg (by repeat (first | exact trivial | refine ⟨Le.refl, ?_⟩ | refine ⟨Le.nil, ?_⟩))) ?_
  refine runL_le 12 rfl (y := .agg (acE.f (acN ndE))) (Le.agg (by repeat (first | exact trivial | refine ⟨Le.refl, ?_⟩ | refine ⟨Le.nil, ?_⟩))) ?_
  refine runL_le 14 rfl (y := .agg (acE.f (acP 1 [2]))) (Le.agg (by repeat (first | exact trivial | refine ⟨Le.refl, ?_⟩ | refine ⟨Le.nil, ?_⟩))) ?_
  refine runL_le 15 rfl (y := .agg (acE.f (acT 2 3))) (Le.agg (by repeat (first | exact trivial | refine ⟨Le.refl, ?_⟩ | refine ⟨Le.nil, ?_⟩))) ?_
  refine runL_le 17 rfl (y := .agg (acE.f (acP 2 [4]))) (Le.agg (by repeat (first | exact trivial | refine ⟨Le.refl, ?_⟩ | refine ⟨Le.nil, ?_⟩))) ?_
  refine v_l acE ex14 (slA rfl) (tyA rfl) rfl rfl rfl rfl rfl rfl rfl rfl rfl rfl ?_
  (repeat (first | (apply v_cx; exact rfl; exact cbA rfl; (first | exact hm | exact h1); exact rfl; exact rfl) | (apply v_idxL; exact slA rfl; exact tyA rfl; exact rfl; exact rfl; exact rfl; exact rfl; exact (by omega); (first | exact rfl); exact rfl) | (apply v_move; exact rfl; exact rfl) | (apply v_assign; exact rfl; exact rfl) | refine run_seq ?_ | refine run_region ?_ | refine runL_nil ?_ | (apply v_fldA; exact flA rfl; exact rfl; exact rfl; exact rfl) | (apply v_loadA; exact tyA rfl; exact rfl; exact rfl; exact rfl; exact rfl; exact rfl; exact rfl) | (apply v_on; exact rfl) | (apply v_pick_t; exact rfl; exact rfl; exact rfl) | (apply v_eql; exact rfl; exact rfl; exact rfl) | (apply v_lenL; exact slA rfl; exact rfl; exact rfl)))
  exact run_ret idN _ Try.func122 ⟨_, _, rfl, rfl, rfl⟩ rfl trivial trivial rfl
end Go.Proofs.Ytjkidecaciomgaa
