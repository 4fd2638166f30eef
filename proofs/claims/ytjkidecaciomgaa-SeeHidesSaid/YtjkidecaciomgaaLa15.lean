/- Law 15: awake, SeeHides, SeeNested. -/
import Derived.Test.YtjkidecaciomgaaLaC15
import Derived.Test.YtjkidecaciomgaaSe2
import Derived.Test.YtjkidecaciomgaaSh2
import Derived.Test.YtjkidecaciomgaaBE
import Derived.Test.YtjkidecaciomgaaFoE
import Derived.Test.YtjkidecaciomgaaKinPlW
namespace Go.Proofs.Ytjkidecaciomgaa
set_option linter.unusedVariables false
set_option linter.unusedSimpArgs false
set_option maxRecDepth 100000
open Go.RowKit

theorem awake15 : Fun Try.prog 130 [] [] (.v (.bool true)) [] := by
  have h1 := from_p (xs := [⟨3, 3, 0, false, false⟩, ⟨2, 0, 0, false, false⟩, ⟨1, 0, 0, false, false⟩]) 2 (by decide)
  rw [show seenP [⟨3, 3, 0, false, false⟩, ⟨2, 0, 0, false, false⟩, ⟨1, 0, 0, false, false⟩] 2 = [3, 2, 1] by decide] at h1
  have h2 := ints_f (xs := [3, 2, 1]) (ys := [3, 2, 1]) (by decide)
  rw [decide_eq_true rfl] at h2
  refine fun_intro 10 Try.func130 rfl rfl rfl (fun ι F S w => ?_)
  (repeat (first | (apply v_assign; exact rfl; exact rfl) | refine run_seq ?_ | refine run_region ?_ | refine runL_nil ?_ | (apply v_b; exact plA rfl; exact tyA rfl; exact rfl; exact rfl; exact rfl)))
  refine v_l stE [⟨3, 3, 0, false, false⟩, ⟨2, 0, 0, false, false⟩, ⟨1, 0, 0, false, false⟩] (slA rfl) (tyA rfl) rfl rfl rfl rfl rfl rfl rfl rfl rfl rfl ?_
  (repeat (first | (apply v_cx; exact rfl; exact cbA rfl; (first | exact h1); exact rfl; exact rfl) | (apply v_move; exact rfl; exact rfl) | (apply v_assign; exact rfl; exact rfl) | refine run_seq ?_ | refine run_region ?_ | refine runL_nil ?_))
  refine v_l intE [3, 2, 1] (slA rfl) (tyA rfl) rfl rfl rfl rfl rfl rfl rfl rfl rfl rfl ?_
  (repeat (first | (apply v_cx; exact rfl; exact cbA rfl; (first | exact h2); exact rfl; exact rfl) | (apply v_assign; exact rfl; exact rfl) | refine runL_nil ?_))
  exact run_ret idN _ Try.func130 ⟨_, _, rfl, rfl, rfl⟩ rfl trivial trivial rfl
theorem seen_mem {l : List Nd} (h : WF l) (target related : Int) (comp : Bool) {i : Nat} {s : St} (hs : (pathM l target related comp)[i]? = some s) : (∀ a ∈ seenP (pathM l target related comp) s.node, hiddenM l a s.node = false) ∧ (∀ t ∈ pathM l target related comp, t.node ∈ seenP (pathM l target related comp) s.node ↔ hiddenM l t.node s.node = false) ∧ (seenP (pathM l target related comp) s.node).length ≤ 130 := by
  rw [see_ok h (path_see h target related comp) hs]
  refine ⟨fun a ha => ?_, fun t ht => ?_, ?_⟩
  · simpa using (List.mem_filter.1 ha).2
  · rw [List.mem_filter]
    constructor
    · intro h1
      simpa using h1.2
    · intro h1
      exact ⟨List.mem_map_of_mem ht, by simp [h1]⟩
  · refine Nat.le_trans (List.length_filter_le _ _) ?_
    rw [List.length_map]
    exact pathM_len _ _ _ _
theorem seeHides_f {xs : List Ac} (target related : Int) (comp : Bool) (hm : xs.length ≤ 9223372036854775807) (hs : ∀ x ∈ xs, AcStr x) : Fun Try.prog 30 [.sem (listS acE xs), .v (.int .i64 target), .v (.int .i64 related), .v (.bool comp)] [] (.v (.bool true)) [] := by
  have hgr := great15 hm
  cases hg : greatM xs with
  | true =>
    rw [hg] at hgr
    refine fun_intro 55 Try.func30 rfl rfl rfl (fun ι F S w => ?_)
    (repeat (first | (apply v_cx; exact rfl; exact cbA rfl; (first | exact awake15 | exact hgr); exact rfl; exact rfl) | (apply v_move; exact rfl; exact rfl) | (apply v_assign; exact rfl; exact rfl) | refine run_seq ?_ | refine run_region ?_ | refine runL_nil ?_ | refine run_skip ?_ | (apply run_cond; exact rfl; rotate_left; (focus (intro hb; cases hb; done)); intro hb; clear hb) | (apply run_cond; exact rfl; (focus (intro hb; cases hb; done)); intro hb; clear hb) | (apply v_not; exact rfl; exact rfl)))
    exact run_ret idN _ Try.func30 ⟨_, _, rfl, rfl, rfl⟩ rfl trivial trivial rfl
  | false =>
    rw [hg] at hgr
    obtain ⟨hl, hx⟩ := acts_ok hg fun x hx => ⟨(hs x hx).s, (hs x hx).name, (hs x hx).want⟩
    have hw := wf_nodes hx
    have hmade := made15 hl hx
    generalize nodesM xs = l at hw hmade
    have hpath := path_p hw target related comp
    have hlen := pathM_len l target related comp
    have hseen := fun (i : Nat) (s : St) => seen_mem hw target related comp (i := i) (s := s)
    have hfrom := fun node => from_p (xs := pathM l target related comp) node (by omega)
    generalize pathM l target related comp = p at *
    refine fun_intro 55 Try.func30 rfl rfl rfl (fun ι F S w => ?_)
    (repeat (first | (apply v_cx; exact rfl; exact cbA rfl; (first | exact awake15 | exact hgr | exact hmade | exact hpath); exact rfl; exact rfl) | (apply v_move; exact rfl; exact rfl) | (apply v_assign; exact rfl; exact rfl) | refine run_seq ?_ | refine run_region ?_ | refine runL_nil ?_ | refine run_skip ?_ | refine run_block ?_ | (apply run_cond; exact rfl; (focus (intro hb; cases hb; done)); intro hb; clear hb) | (apply v_not; exact rfl; exact rfl)))
    refine v_loop (fun i : Nat => ⟨[(9, forA l), (10, .sem (listS stE p)), (11, .v (.int .i64 i))], []⟩) (fun i => i ≤ p.length) (fun i => p.length - i) 0 idN trivial (by repeat (first | exact trivial | refine ⟨rfl, ?_⟩)) (by repeat (first | exact trivial | refine ⟨rfl, ?_⟩)) rfl (by omega) fun i hi ih => ?_
    (repeat (first | (apply v_move; exact rfl; exact rfl) | refine run_seq ?_ | refine run_region ?_ | refine runL_nil ?_ | (apply v_lss; exact rfl; exact rfl; exact rfl) | (apply v_lenL; exact slA rfl; exact rfl; exact rfl)))
    refine run_cond rfl (fun hb => ?_) (fun hb => ?_)
    · have hlt : i < p.length := by simpa using hb
      have hx2 : p[((i : Int)).toNat]? = some p[i] := by simp [hlt]
      obtain ⟨h1, _, h3⟩ := hseen i p[i] (by simp [hlt])
      have hfr := hfrom p[i].node
      clear hseen hfrom
      generalize p[i] = s at *
      generalize seenP p s.node = L at *
      (repeat (first | (apply v_idxL; exact slA rfl; exact tyA rfl; exact rfl; exact rfl; exact rfl; exact rfl; exact (by omega); (first | exact hx2); exact rfl) | (apply v_cx; exact rfl; exact cbA rfl; (first | exact hfr); exact rfl; exact rfl) | (apply v_move; exact rfl; exact rfl) | (apply v_assign; exact rfl; exact rfl) | refine run_seq ?_ | refine run_region ?_ | refine runL_nil ?_ | refine run_skip ?_ | refine run_block ?_ | (apply v_fldA; exact flA rfl; exact rfl; exact rfl; exact rfl) | (apply v_loadA; exact tyA rfl; exact rfl; exact rfl; exact rfl; exact rfl; exact rfl; exact rfl)))
      refine v_loop (fun k : Nat => ⟨[(9, forA l), (10, .sem (listS stE p)), (11, .v (.int .i64 i)), (12, .sem (listS intE L)), (13, .v (.int .i64 k))], []⟩) (fun k => k ≤ L.length) (fun k => L.length - k) 0 idN trivial (by repeat (first | exact trivial | refine ⟨rfl, ?_⟩)) (by repeat (first | exact trivial | refine ⟨rfl, ?_⟩)) rfl (by omega) fun k hk ih2 => ?_
      (repeat (first | (apply v_move; exact rfl; exact rfl) | refine run_seq ?_ | refine run_region ?_ | refine runL_nil ?_ | (apply v_lss; exact rfl; exact rfl; exact rfl) | (apply v_lenL; exact slA rfl; exact rfl; exact rfl)))
      refine run_cond rfl (fun hb2 => ?_) (fun hb2 => ?_)
      · have hlt2 : k < L.length := by simpa using hb2
        have hx3 : L[((k : Int)).toNat]? = some L[k] := by simp [hlt2]
        have ht := hidden_f hw L[k] s.node
        rw [h1 _ (List.getElem_mem hlt2)] at ht
        generalize L[k] = a at *
        (repeat (first | refine run_seq ?_ | refine run_skip ?_ | refine run_block ?_))
        refine run_draws (by kernel_rfl) (by kernel_rfl) ?_
        (repeat (first | (apply p_idxL; exact slA rfl; exact tyA rfl; exact rfl; exact rfl; exact rfl; exact rfl; exact (by omega); (first | exact hx2 | exact hx3); exact rfl; exact rfl) | (apply p_cx; exact rfl; exact cbA rfl; (first | exact ht); exact rfl; exact rfl; exact rfl) | (apply p_move; exact rfl; exact rfl; exact rfl) | (apply p_fldA; exact flA rfl; exact rfl; exact rfl; exact rfl; exact rfl) | (apply p_loadA; exact tyA rfl; exact rfl; exact rfl; exact rfl; exact rfl; exact rfl; exact rfl; exact rfl)))
        refine planL_nil (by kernel_rfl) ?_
        (repeat (first | (apply v_move; exact rfl; exact rfl) | (apply v_assign; exact rfl; exact rfl) | refine run_region ?_ | refine runL_nil ?_ | refine run_skip ?_ | refine run_inBlock ?_ | (apply run_cond; exact rfl; (focus (intro hb; cases hb; done)); intro hb; clear hb) | (apply v_add; exact rfl; exact rfl; exact rfl; exact (by omega))))
        exact v_again ih2 (k + 1) idN trivial (by repeat (first | exact trivial | refine ⟨rfl, ?_⟩)) (by repeat (first | exact trivial | refine ⟨rfl, ?_⟩)) rfl (by omega) (by omega)
      · (repeat (first | (apply v_move; exact rfl; exact rfl) | (apply v_assign; exact rfl; exact rfl) | refine run_region ?_ | refine runL_nil ?_ | refine run_inBlock ?_ | (apply run_exit; exact rfl) | (apply v_add; exact rfl; exact rfl; exact rfl; exact (by omega))))
        exact v_again ih (i + 1) idN trivial (by repeat (first | exact trivial | refine ⟨rfl, ?_⟩)) (by repeat (first | exact trivial | refine ⟨rfl, ?_⟩)) rfl (by omega) (by omega)
    · (repeat (first | (apply v_assign; exact rfl; exact rfl) | refine run_seq ?_ | refine run_region ?_ | refine runL_nil ?_ | (apply run_exit; exact rfl)))
      exact run_ret idN _ Try.func30 ⟨_, _, rfl, rfl, rfl⟩ rfl trivial trivial rfl
theorem seeHides_walk (A : Option Addr) (c0 : Nat) (xs : List Ac) (target related : Int) (comp : Bool) (W : World) (hv : AVRs ι0 (old W) W [.sem (listS acE xs)] [.slice A xs.length c0]) (hs : ∀ x ∈ xs, AcStr x) (hm : xs.length ≤ 9223372036854775807) (w1 : (Lit.int .i64 target).wf = true) (w2 : (Lit.int .i64 related).wf = true) : Calls Try.prog 30 #[.slice A xs.length c0, .int .i64 target, .int .i64 related, .bool comp] W fun e w' => e = .returned (.bool true) ∧ Below W.heap.size W w' :=
  acts_walk (vs := [.int .i64 target, .int .i64 related, .bool comp]) hv (seeHides_f target related comp hm hs)
theorem seeNested_f {xs : List Ac} (target : Int) (comp : Bool) (hm : xs.length ≤ 9223372036854775807) (hs : ∀ x ∈ xs, AcStr x) : Fun Try.prog 31 [.sem (listS acE xs), .v (.int .i64 target), .v (.bool comp)] [] (.v (.bool true)) [] := by
  have hgr := great15 hm
  cases hg : greatM xs with
  | true =>
    rw [hg] at hgr
    refine fun_intro 61 Try.func31 rfl rfl rfl (fun ι F S w => ?_)
    (repeat (first | (apply v_cx; exact rfl; exact cbA rfl; (first | exact awake15 | exact hgr); exact rfl; exact rfl) | (apply v_move; exact rfl; exact rfl) | (apply v_assign; exact rfl; exact rfl) | refine run_seq ?_ | refine run_region ?_ | refine runL_nil ?_ | refine run_skip ?_ | (apply run_cond; exact rfl; rotate_left; (focus (intro hb; cases hb; done)); intro hb; clear hb) | (apply run_cond; exact rfl; (focus (intro hb; cases hb; done)); intro hb; clear hb) | (apply v_not; exact rfl; exact rfl)))
    exact run_ret idN _ Try.func31 ⟨_, _, rfl, rfl, rfl⟩ rfl trivial trivial rfl
  | false =>
    rw [hg] at hgr
    obtain ⟨hl, hx⟩ := acts_ok hg fun x hx => ⟨(hs x hx).s, (hs x hx).name, (hs x hx).want⟩
    have hw := wf_nodes hx
    have hmade := made15 hl hx
    generalize nodesM xs = l at hw hmade
    have hpath := path_p hw target 0 comp
    have hlen := pathM_len l target 0 comp
    have hseen := fun (i : Nat) (s : St) => seen_mem hw target 0 comp (i := i) (s := s)
    have hfrom := fun node => from_p (xs := pathM l target 0 comp) node (by omega)
    generalize pathM l target 0 comp = p at *
    refine fun_intro 61 Try.func31 rfl rfl rfl (fun ι F S w => ?_)
    (repeat (first | (apply v_cx; exact rfl; exact cbA rfl; (first | exact awake15 | exact hgr | exact hmade | exact hpath); exact rfl; exact rfl) | (apply v_move; exact rfl; exact rfl) | (apply v_assign; exact rfl; exact rfl) | refine run_seq ?_ | refine run_region ?_ | refine runL_nil ?_ | refine run_skip ?_ | refine run_block ?_ | (apply run_cond; exact rfl; (focus (intro hb; cases hb; done)); intro hb; clear hb) | (apply v_not; exact rfl; exact rfl)))
    refine v_loop (fun i : Nat => ⟨[(7, forA l), (8, .sem (listS stE p)), (9, .v (.int .i64 i))], []⟩) (fun i => i ≤ p.length) (fun i => p.length - i) 0 idN trivial (by repeat (first | exact trivial | refine ⟨rfl, ?_⟩)) (by repeat (first | exact trivial | refine ⟨rfl, ?_⟩)) rfl (by omega) fun i hi ih => ?_
    (repeat (first | (apply v_move; exact rfl; exact rfl) | refine run_seq ?_ | refine run_region ?_ | refine runL_nil ?_ | (apply v_lss; exact rfl; exact rfl; exact rfl) | (apply v_lenL; exact slA rfl; exact rfl; exact rfl)))
    refine run_cond rfl (fun hb => ?_) (fun hb => ?_)
    · have hlt : i < p.length := by simpa using hb
      have hx2 : p[((i : Int)).toNat]? = some p[i] := by simp [hlt]
      obtain ⟨_, h2, h3⟩ := hseen i p[i] (by simp [hlt])
      have hfr := hfrom p[i].node
      clear hseen hfrom
      generalize p[i] = s at *
      generalize seenP p s.node = L at *
      (repeat (first | (apply v_idxL; exact slA rfl; exact tyA rfl; exact rfl; exact rfl; exact rfl; exact rfl; exact (by omega); (first | exact hx2); exact rfl) | (apply v_cx; exact rfl; exact cbA rfl; (first | exact hfr); exact rfl; exact rfl) | (apply v_move; exact rfl; exact rfl) | (apply v_assign; exact rfl; exact rfl) | refine run_seq ?_ | refine run_region ?_ | refine runL_nil ?_ | refine run_skip ?_ | refine run_block ?_ | (apply v_fldA; exact flA rfl; exact rfl; exact rfl; exact rfl) | (apply v_loadA; exact tyA rfl; exact rfl; exact rfl; exact rfl; exact rfl; exact rfl; exact rfl)))
      refine v_loop (fun k : Nat => ⟨[(7, forA l), (8, .sem (listS stE p)), (9, .v (.int .i64 i)), (10, .sem (listS intE L)), (11, .v (.int .i64 k))], []⟩) (fun k => k ≤ p.length) (fun k => p.length - k) 0 idN trivial (by repeat (first | exact trivial | refine ⟨rfl, ?_⟩)) (by repeat (first | exact trivial | refine ⟨rfl, ?_⟩)) rfl (by omega) fun k hk ih2 => ?_
      (repeat (first | (apply v_move; exact rfl; exact rfl) | refine run_seq ?_ | refine run_region ?_ | refine runL_nil ?_ | (apply v_lss; exact rfl; exact rfl; exact rfl) | (apply v_lenL; exact slA rfl; exact rfl; exact rfl)))
      refine run_cond rfl (fun hb2 => ?_) (fun hb2 => ?_)
      · have hlt2 : k < p.length := by simpa using hb2
        have hx3 : p[((k : Int)).toNat]? = some p[k] := by simp [hlt2]
        have ht := hidden_f hw p[k].node s.node
        have hh := has_r (xs := L) p[k].node (by omega)
        have hin := h2 _ (List.getElem_mem hlt2)
        generalize p[k] = q at *
        cases hid : hiddenM l q.node s.node with
        | true =>
          rw [hid] at ht
          rw [decide_eq_false (fun e => by rw [hin.1 e] at hid; cases hid)] at hh
          (repeat (first | refine run_seq ?_ | refine run_skip ?_ | refine run_block ?_))
          refine run_draws (by kernel_rfl) (by kernel_rfl) ?_
          (repeat (first | (apply p_idxL; exact slA rfl; exact tyA rfl; exact rfl; exact rfl; exact rfl; exact rfl; exact (by omega); (first | exact hx2 | exact hx3); exact rfl; exact rfl) | (apply p_cx; exact rfl; exact cbA rfl; (first | exact ht | exact hh); exact rfl; exact rfl; exact rfl) | (apply p_move; exact rfl; exact rfl; exact rfl) | (apply p_fldA; exact flA rfl; exact rfl; exact rfl; exact rfl; exact rfl) | (apply p_loadA; exact tyA rfl; exact rfl; exact rfl; exact rfl; exact rfl; exact rfl; exact rfl; exact rfl) | (apply p_eqlB; exact boA rfl; exact rfl; exact rfl; exact rfl; exact rfl)))
          refine planL_nil (by kernel_rfl) ?_
          (repeat (first | (apply v_move; exact rfl; exact rfl) | (apply v_assign; exact rfl; exact rfl) | refine run_region ?_ | refine runL_nil ?_ | refine run_skip ?_ | refine run_inBlock ?_ | (apply run_cond; exact rfl; (focus (intro hb; cases hb; done)); intro hb; clear hb) | (apply v_add; exact rfl; exact rfl; exact rfl; exact (by omega))))
          exact v_again ih2 (k + 1) idN trivial (by repeat (first | exact trivial | refine ⟨rfl, ?_⟩)) (by repeat (first | exact trivial | refine ⟨rfl, ?_⟩)) rfl (by omega) (by omega)
        | false =>
          rw [hid] at ht
          rw [decide_eq_true (hin.2 hid)] at hh
          (repeat (first | refine run_seq ?_ | refine run_skip ?_ | refine run_block ?_))
          refine run_draws (by kernel_rfl) (by kernel_rfl) ?_
          (repeat (first | (apply p_idxL; exact slA rfl; exact tyA rfl; exact rfl; exact rfl; exact rfl; exact rfl; exact (by omega); (first | exact hx2 | exact hx3); exact rfl; exact rfl) | (apply p_cx; exact rfl; exact cbA rfl; (first | exact ht | exact hh); exact rfl; exact rfl; exact rfl) | (apply p_move; exact rfl; exact rfl; exact rfl) | (apply p_fldA; exact flA rfl; exact rfl; exact rfl; exact rfl; exact rfl) | (apply p_loadA; exact tyA rfl; exact rfl; exact rfl; exact rfl; exact rfl; exact rfl; exact rfl; exact rfl) | (apply p_eqlB; exact boA rfl; exact rfl; exact rfl; exact rfl; exact rfl)))
          refine planL_nil (by kernel_rfl) ?_
          (repeat (first | (apply v_move; exact rfl; exact rfl) | (apply v_assign; exact rfl; exact rfl) | refine run_region ?_ | refine runL_nil ?_ | refine run_skip ?_ | refine run_inBlock ?_ | (apply run_cond; exact rfl; (focus (intro hb; cases hb; done)); intro hb; clear hb) | (apply v_add; exact rfl; exact rfl; exact rfl; exact (by omega))))
          exact v_again ih2 (k + 1) idN trivial (by repeat (first | exact trivial | refine ⟨rfl, ?_⟩)) (by repeat (first | exact trivial | refine ⟨rfl, ?_⟩)) rfl (by omega) (by omega)
      · (repeat (first | (apply v_move; exact rfl; exact rfl) | (apply v_assign; exact rfl; exact rfl) | refine run_region ?_ | refine runL_nil ?_ | refine run_inBlock ?_ | (apply run_exit; exact rfl) | (apply v_add; exact rfl; exact rfl; exact rfl; exact (by omega))))
        exact v_again ih (i + 1) idN trivial (by repeat (first | exact trivial | refine ⟨rfl, ?_⟩)) (by repeat (first | exact trivial | refine ⟨rfl, ?_⟩)) rfl (by omega) (by omega)
    · (repeat (first | (apply v_assign; exact rfl; exact rfl) | refine run_seq ?_ | refine run_region ?_ | refine runL_nil ?_ | (apply run_exit; exact rfl)))
      exact run_ret idN _ Try.func31 ⟨_, _, rfl, rfl, rfl⟩ rfl trivial trivial rfl
theorem seeNested_walk (A : Option Addr) (c0 : Nat) (xs : List Ac) (target : Int) (comp : Bool) (W : World) (hv : AVRs ι0 (old W) W [.sem (listS acE xs)] [.slice A xs.length c0]) (hs : ∀ x ∈ xs, AcStr x) (hm : xs.length ≤ 9223372036854775807) (w1 : (Lit.int .i64 target).wf = true) : Calls Try.prog 31 #[.slice A xs.length c0, .int .i64 target, .bool comp] W fun e w' => e = .returned (.bool true) ∧ Below W.heap.size W w' :=
  acts_walk (vs := [.int .i64 target, .bool comp]) hv (seeNested_f target comp hm hs)
end Go.Proofs.Ytjkidecaciomgaa
