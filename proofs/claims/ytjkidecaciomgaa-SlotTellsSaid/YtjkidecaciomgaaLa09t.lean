/- Law 09: SlotTells. -/
import Derived.Test.YtjkidecaciomgaaLa09
import Derived.Test.YtjkidecaciomgaaRf15
namespace Go.Proofs.Ytjkidecaciomgaa
set_option linter.unusedVariables false
set_option linter.unusedSimpArgs false
set_option maxRecDepth 100000
open Go.RowKit

theorem ints_same {xs : List Int} (hm : xs.length ≤ 1000000) : Fun Try.prog 61 [.sem (listS intE xs), .sem (listS intE xs)] [] (.v (.bool true)) [] := by
  have := ints_f (xs := xs) (ys := xs) hm
  rwa [decide_eq_true rfl] at this
theorem slotTells_f {xs : List Ac} (id : Int) (hm : xs.length ≤ 9223372036854775807) (hs : ∀ x ∈ xs, AcStr x) : Fun Try.prog 20 [.sem (listS acE xs), .v (.int .i64 id)] [] (.v (.bool true)) [] := by
  have hgr := great09 hm
  cases hg : greatM xs with
  | true =>
    rw [hg] at hgr
    refine fun_intro 49 Try.func20 rfl rfl rfl (fun ι F S w => ?_)
    (repeat (first | (apply v_cx; exact rfl; exact cbA rfl; (first | exact awake09 | exact hgr); exact rfl; exact rfl) | (apply v_move; exact rfl; exact rfl) | (apply v_assign; exact rfl; exact rfl) | refine run_seq ?_ | refine run_region ?_ | refine runL_nil ?_ | refine run_skip ?_ | (apply run_cond; exact rfl; rotate_left; (focus (intro hb; cases hb; done)); intro hb; clear hb) | (apply run_cond; exact rfl; (focus (intro hb; cases hb; done)); intro hb; clear hb) | (apply v_not; exact rfl; exact rfl)))
    exact run_ret idN _ Try.func20 ⟨_, _, rfl, rfl, rfl⟩ rfl trivial trivial rfl
  | false =>
    rw [hg] at hgr
    obtain ⟨hl, hx⟩ := acts_ok hg fun x hx => ⟨(hs x hx).s, (hs x hx).name, (hs x hx).want⟩
    have hw := wf_nodes hx
    have hmade := made09 hl hx
    have hnodes := nodes_r hl hx
    generalize nodesM xs = l at hw hmade hnodes
    have h1 := of_f hw id
    have h2 := of9 hw id
    have h3 := assigned_p hw id
    have h4 := (assigned9 hw id).freeze
    have h5 := ints_same (assigned_there hw id)
    have h6 := slots_p hw id
    have h7 := slots9p hw id
    have h8 := ints_same (xs := slotsM l id) (by have := slots_len hw id; omega)
    have h9 := flat_p hw id
    have h10 := flat9 hw id
    have h11 := ints_same (xs := flatM l id) (by have := (flat_ok hw id).2.2; omega)
    generalize ofM l id = a1 at *
    generalize assignedM l id = a2 at *
    generalize slotsM l id = a3 at *
    generalize flatM l id = a4 at *
    refine fun_intro 49 Try.func20 rfl rfl rfl (fun ι F S w => ?_)
    (repeat (first | (apply v_cx; exact rfl; exact cbA rfl; (first | exact awake09 | exact hgr | exact hmade | exact hnodes | exact h1 | exact h2); exact rfl; exact rfl) | (apply v_move; exact rfl; exact rfl) | (apply v_assign; exact rfl; exact rfl) | refine run_seq ?_ | refine run_region ?_ | refine runL_nil ?_ | refine run_skip ?_ | (apply run_cond; exact rfl; (focus (intro hb; cases hb; done)); intro hb; clear hb) | (apply v_not; exact rfl; exact rfl) | (apply v_eql; exact rfl; exact rfl; exact rfl)))
    refine v_is 22 true rfl (by simp) ?_
    (repeat (first | (apply v_cx; exact rfl; exact cbA rfl; (first | exact h3 | exact h4 | exact h5 | exact h6 | exact h7 | exact h8 | exact h9 | exact h10 | exact h11); exact rfl; exact rfl) | (apply v_move; exact rfl; exact rfl) | (apply v_assign; exact rfl; exact rfl) | refine runL_nil ?_ | (apply v_on; exact rfl) | (apply v_pick_t; exact rfl; exact rfl; exact rfl)))
    exact run_ret idN _ Try.func20 ⟨_, _, rfl, rfl, rfl⟩ rfl trivial trivial rfl
theorem slotTells_walk (A : Option Addr) (c0 : Nat) (xs : List Ac) (id : Int) (W : World) (hv : AVRs ι0 (old W) W [.sem (listS acE xs)] [.slice A xs.length c0]) (hs : ∀ x ∈ xs, AcStr x) (hm : xs.length ≤ 9223372036854775807) (w1 : (Lit.int .i64 id).wf = true) : Calls Try.prog 20 #[.slice A xs.length c0, .int .i64 id] W fun e w' => e = .returned (.bool true) ∧ Below W.heap.size W w' :=
  acts_walk (vs := [.int .i64 id]) hv (slotTells_f id hm hs)
end Go.Proofs.Ytjkidecaciomgaa
