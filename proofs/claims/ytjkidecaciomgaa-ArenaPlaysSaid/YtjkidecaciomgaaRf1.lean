/- The reference's Ints, Has; law 05's great. -/
import Derived.Test.YtjkidecaciomgaaKi2
namespace Go.Proofs.Ytjkidecaciomgaa
set_option linter.unusedVariables false
set_option linter.unusedSimpArgs false
set_option maxRecDepth 100000
open Go.RowKit

theorem ints_f {xs ys : List Int} (hm : xs.length ≤ 1000000) : Fun Try.prog 61 [.sem (listS intE xs), .sem (listS intE ys)] [] (.v (.bool (decide (xs = ys)))) [] := by
  refine fun_intro 26 Try.func61 rfl rfl rfl (fun ι F S w => ?_)
  (repeat (first | (apply v_move; exact rfl; exact rfl) | (apply v_assign; exact rfl; exact rfl) | refine run_seq ?_ | refine run_region ?_ | refine runL_nil ?_ | (apply v_neq; exact rfl; exact rfl; exact rfl) | (apply v_lenL; exact slA rfl; exact rfl; exact rfl)))
  refine run_cond rfl (fun h => ?_) (fun h => ?_)
  · have hne : xs.length ≠ ys.length := by
      have : (xs.length : Int) ≠ ys.length := by simpa using h
      omega
    have hf : decide (xs = ys) = false := by simp; intro e; exact hne (by rw [e])
    (repeat (first | (apply v_assign; exact rfl; exact rfl) | refine run_seq ?_ | refine run_region ?_ | refine runL_nil ?_))
    exact run_ret idN _ Try.func61 ⟨_, _, rfl, rfl, rfl⟩ (by rw [hf]; rfl) trivial trivial rfl
  · have hle : xs.length = ys.length := by
      have : (xs.length : Int) = ys.length := by simpa using h
      omega
    (repeat (first | (apply v_assign; exact rfl; exact rfl) | refine run_seq ?_ | refine run_region ?_ | refine runL_nil ?_ | refine run_skip ?_ | refine run_block ?_))
    refine v_loop (fun i : Nat => ⟨[(0, .sem (listS intE xs)), (1, .sem (listS intE ys)), (5, .v (.int .i64 i))], []⟩) (fun i => i ≤ xs.length ∧ ∀ j, j < i → xs[j]? = ys[j]?) (fun i => xs.length - i) 0 idN trivial (by repeat (first | exact trivial | refine ⟨rfl, ?_⟩)) (by repeat (first | exact trivial | refine ⟨rfl, ?_⟩)) rfl ⟨by omega, fun j hj => by omega⟩ fun i ⟨hi, hp⟩ ih => ?_
    (repeat (first | (apply v_move; exact rfl; exact rfl) | refine run_seq ?_ | refine run_region ?_ | refine runL_nil ?_ | (apply v_lss; exact rfl; exact rfl; exact rfl) | (apply v_lenL; exact slA rfl; exact rfl; exact rfl)))
    refine run_cond rfl (fun h => ?_) (fun h => ?_)
    · have hlt : i < xs.length := by simpa using h
      have hx : xs[((i : Int)).toNat]? = some (xs.getD i 0) := by simp [hlt]
      have hy : ys[((i : Int)).toNat]? = some (ys.getD i 0) := by simp [show i < ys.length by omega]
      (repeat (first | refine run_seq ?_ | refine run_skip ?_ | refine run_block ?_))
      refine run_draws (by kernel_rfl) (by kernel_rfl) ?_
      (repeat (first | (apply p_idxL; exact slA rfl; exact tyA rfl; exact rfl; exact rfl; exact rfl; exact rfl; exact (by omega); (first | exact hx | exact hy); exact rfl; exact rfl) | (apply p_move; exact rfl; exact rfl; exact rfl) | (apply p_loadA; exact tyA rfl; exact rfl; exact rfl; exact rfl; exact rfl; exact rfl; exact rfl; exact rfl) | (apply p_neq; exact rfl; exact rfl; exact rfl; exact rfl)))
      refine planL_nil (by kernel_rfl) ?_
      refine run_cond rfl (fun h => ?_) (fun h => ?_)
      · have he : xs.getD i 0 ≠ ys.getD i 0 := by simpa using h
        have hf : decide (xs = ys) = false := by simp; intro e; exact he (by rw [e])
        (repeat (first | (apply v_assign; exact rfl; exact rfl) | refine run_seq ?_ | refine run_region ?_ | refine runL_nil ?_))
        exact run_ret idN _ Try.func61 ⟨_, _, rfl, rfl, rfl⟩ (by rw [hf]; rfl) trivial trivial rfl
      · have he : xs.getD i 0 = ys.getD i 0 := by simpa using h
        (repeat (first | (apply v_move; exact rfl; exact rfl) | (apply v_assign; exact rfl; exact rfl) | refine run_region ?_ | refine runL_nil ?_ | refine run_skip ?_ | refine run_inBlock ?_ | (apply v_add; exact rfl; exact rfl; exact rfl; exact (by omega))))
        exact v_again ih (i + 1) idN trivial (by repeat (first | exact trivial | refine ⟨rfl, ?_⟩)) (by repeat (first | exact trivial | refine ⟨rfl, ?_⟩)) rfl ⟨by omega, fun j hj => by
          by_cases e : j = i
          · subst e
            rw [show j = ((j : Int)).toNat by omega, hx, hy, he]
          · exact hp j (by omega)⟩ (by omega)
    · have hge : i = xs.length := by have : ¬ i < xs.length := (by simpa using h); omega
      have hf : decide (xs = ys) = true := by
        rw [decide_eq_true_iff]
        apply List.ext_getElem?
        intro j
        by_cases hj : j < i
        · exact hp j hj
        · rw [List.getElem?_eq_none (by omega), List.getElem?_eq_none (by omega)]
      (repeat (first | (apply v_assign; exact rfl; exact rfl) | refine run_seq ?_ | refine run_region ?_ | refine runL_nil ?_ | (apply run_exit; exact rfl)))
      exact run_ret idN _ Try.func61 ⟨_, _, rfl, rfl, rfl⟩ (by rw [hf]; rfl) trivial trivial rfl
/-- Are there more calls than are looked at? -/
def greatM (xs : List Ac) : Bool := xs.any (fun x => decide (200 < x.l.length)) || decide (300 < xs.length)
theorem great5 {xs : List Ac} (hm : xs.length ≤ 9223372036854775807) : Fun Try.prog 51 [.sem (listS acE xs)] [] (.v (.bool (greatM xs))) [] := by
  refine fun_intro 20 Try.func51 rfl rfl rfl (fun ι F S w => ?_)
  (repeat (first | (apply v_assign; exact rfl; exact rfl) | refine run_seq ?_ | refine run_region ?_ | refine runL_nil ?_ | refine run_block ?_))
  refine v_loop (fun i : Nat => ⟨[(0, .sem (listS acE xs)), (3, .v (.int .i64 i))], []⟩) (fun i => i ≤ xs.length ∧ ∀ j (hj : j < xs.length), j < i → xs[j].l.length ≤ 200) (fun i => xs.length - i) 0 idN trivial (by repeat (first | exact trivial | refine ⟨rfl, ?_⟩)) (by repeat (first | exact trivial | refine ⟨rfl, ?_⟩)) rfl ⟨by omega, fun j _ hj => by omega⟩ fun i ⟨hi, hp⟩ ih => ?_
  (repeat (first | (apply v_move; exact rfl; exact rfl) | refine run_seq ?_ | refine run_region ?_ | refine runL_nil ?_ | (apply v_lss; exact rfl; exact rfl; exact rfl) | (apply v_lenL; exact slA rfl; exact rfl; exact rfl)))
  refine run_cond rfl (fun h => ?_) (fun h => ?_)
  · have hlt : i < xs.length := by simpa using h
    have hx : xs[((i : Int)).toNat]? = some xs[i] := by simp [hlt]
    (repeat (first | (apply v_idxL; exact slA rfl; exact tyA rfl; exact rfl; exact rfl; exact rfl; exact rfl; exact (by omega); (first | exact hx); exact rfl) | (apply v_move; exact rfl; exact rfl) | refine run_seq ?_ | refine run_region ?_ | refine runL_nil ?_ | refine run_skip ?_ | refine run_block ?_ | (apply v_fldA; exact flA rfl; exact rfl; exact rfl; exact rfl) | (apply v_loadA; exact tyA rfl; exact rfl; exact rfl; exact rfl; exact rfl; exact rfl; exact rfl) | (apply v_gtr; exact rfl; exact rfl; exact rfl) | (apply v_lenL; exact slA rfl; exact rfl; exact rfl)))
    refine run_cond rfl (fun h => ?_) (fun h => ?_)
    · have he : 200 < xs[i].l.length := by
        have : (200 : Int) < xs[i].l.length := by simpa using h
        omega
      have hf : greatM xs = true := by
        rw [greatM, Bool.or_eq_true, List.any_eq_true]
        exact .inl ⟨xs[i], List.getElem_mem hlt, by simpa using he⟩
      (repeat (first | (apply v_assign; exact rfl; exact rfl) | refine run_seq ?_ | refine run_region ?_ | refine runL_nil ?_))
      exact run_ret idN _ Try.func51 ⟨_, _, rfl, rfl, rfl⟩ (by rw [hf]; rfl) trivial trivial rfl
    · have he : xs[i].l.length ≤ 200 := by
        have : (xs[i].l.length : Int) ≤ 200 := by simpa using h
        omega
      (repeat (first | (apply v_move; exact rfl; exact rfl) | (apply v_assign; exact rfl; exact rfl) | refine run_region ?_ | refine runL_nil ?_ | refine run_skip ?_ | refine run_inBlock ?_ | (apply v_add; exact rfl; exact rfl; exact rfl; exact (by omega))))
      exact v_again ih (i + 1) idN trivial (by repeat (first | exact trivial | refine ⟨rfl, ?_⟩)) (by repeat (first | exact trivial | refine ⟨rfl, ?_⟩)) rfl ⟨by omega, fun j hj hji => if e : j = i then (by subst e; exact he) else hp j hj (by omega)⟩ (by omega)
  · have hge : i = xs.length := by have : ¬ i < xs.length := (by simpa using h); omega
    have hf : greatM xs = decide ((xs.length : Int) > 300) := by
      have h1 : xs.any (fun x => decide (200 < x.l.length)) = false := by
        rw [← Bool.not_eq_true, List.any_eq_true]
        rintro ⟨x, hx, hgt⟩
        obtain ⟨j, hj, rfl⟩ := List.getElem_of_mem hx
        have := hp j hj (by omega)
        simp at hgt
        omega
      rw [greatM, h1, Bool.false_or]
      congr 1
      simp
      omega
    (repeat (first | (apply v_move; exact rfl; exact rfl) | (apply v_assign; exact rfl; exact rfl) | refine run_seq ?_ | refine run_region ?_ | refine runL_nil ?_ | (apply run_exit; exact rfl) | (apply v_gtr; exact rfl; exact rfl; exact rfl) | (apply v_lenL; exact slA rfl; exact rfl; exact rfl)))
    exact run_ret idN _ Try.func51 ⟨_, _, rfl, rfl, rfl⟩ (by rw [hf]; rfl) trivial trivial rfl
end Go.Proofs.Ytjkidecaciomgaa
