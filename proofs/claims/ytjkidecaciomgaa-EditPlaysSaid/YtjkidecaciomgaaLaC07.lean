/- Law 07: made, great. -/
import Derived.Test.YtjkidecaciomgaaRf1
namespace Go.Proofs.Ytjkidecaciomgaa
set_option linter.unusedVariables false
set_option linter.unusedSimpArgs false
set_option maxRecDepth 100000
open Go.RowKit

set_option maxHeartbeats 4000000 in
theorem made07 {xs : List Ac} (hl : xs.length ≤ 300) (hx : ∀ x ∈ xs, AcOk x) : Fun Try.prog 114 [.sem (listS acE xs)] [] (forA (nodesM xs)) [] := by
  refine fun_intro 62 Try.func114 rfl rfl rfl (fun ι F S w => ?_)
  (repeat (first | (apply v_assign; exact rfl; exact rfl) | refine run_seq ?_ | refine run_region ?_ | refine runL_nil ?_))
  refine v_cR (mp [(0, 100), (1, 101)]) new_f rfl (cbA rfl) trivial rfl rfl rfl rfl rfl rfl rfl rfl rfl ?_
  (repeat (first | (apply v_assign; exact rfl; exact rfl) | refine run_seq ?_ | refine run_region ?_ | refine runL_nil ?_ | refine run_block ?_))
  refine v_loop (fun i : Nat => ⟨[(0, .sem (listS acE xs)), (3, .ptr 100 0), (4, .v (.int .i64 i))], [(100, .box 53 [.res 101]), (101, .obj (ownS 33 nodeE (nodesM (xs.take i))))]⟩) (fun i => i ≤ xs.length) (fun i => xs.length - i) 0 idN trivial (by repeat (first | exact trivial | refine ⟨rfl, ?_⟩)) (by repeat (first | exact trivial | refine ⟨rfl, ?_⟩)) rfl (by omega) fun i hi ih => ?_
  have hw : WF (nodesM (xs.take i)) := wf_nodes fun x h => hx x (List.mem_of_mem_take h)
  by_cases hlt : i < xs.length
  · have hx2 : xs[((i : Int)).toNat]? = some xs[i] := by simp [hlt]
    have hok := hx _ (List.getElem_mem hlt)
    have hlen := hw.len
    (repeat (first | (apply v_move; exact rfl; exact rfl) | refine run_seq ?_ | refine run_region ?_ | (apply v_lss; exact rfl; exact rfl; exact rfl) | (apply v_lenL; exact slA rfl; exact rfl; exact rfl)))
    refine v_is 11 true rfl (by simpa using hlt) ?_
    (repeat (first | (apply v_move; exact rfl; exact rfl) | refine runL_nil ?_ | (apply v_on; exact rfl) | (apply v_pick_t; exact rfl; exact rfl; exact rfl) | (apply v_lss; exact rfl; exact rfl; exact rfl)))
    refine run_condY rfl (by simp; omega) ?_
    (repeat (first | (apply v_idxL; exact slA rfl; exact tyA rfl; exact rfl; exact rfl; exact rfl; exact rfl; exact (by omega); (first | exact hx2); exact rfl) | (apply v_move; exact rfl; exact rfl) | (apply v_assign; exact rfl; exact rfl) | refine run_seq ?_ | refine run_region ?_ | refine runL_nil ?_ | refine run_skip ?_ | refine run_block ?_ | (apply v_fldP; exact flA rfl; exact rfl; exact rfl; exact rfl) | (apply v_loadB; exact tyA rfl; exact rfl; exact rfl; exact rfl; exact rfl; exact rfl; exact rfl) | (apply v_loadA; exact tyA rfl; exact rfl; exact rfl; exact rfl; exact rfl; exact rfl; exact rfl) | (apply v_eql; exact rfl; exact rfl; exact rfl) | (apply v_allocD; exact tyA rfl; exact rfl; exact rfl; exact rfl; exact rfl) | (apply v_storeW; exact tyA rfl; exact rfl; exact rfl; exact rfl; exact rfl; exact rfl; exact rfl; exact rfl)))
    refine run_cond rfl (fun h => ?_) (fun h => ?_)
    · have hk : xs[i].kind = 0 := by simpa using h
      have hstep : nodesM (xs.take (i + 1)) = (makeM (nodesM (xs.take i)) xs[i].n).1 := by rw [nodes_take hlt, actM]; rw [if_pos hk]
      (repeat (first | (apply v_move; exact rfl; exact rfl) | refine run_region ?_ | (apply v_fldP; exact flA rfl; exact rfl; exact rfl; exact rfl) | (apply v_loadB; exact tyA rfl; exact rfl; exact rfl; exact rfl; exact rfl; exact rfl; exact rfl)))
      refine v_cR (mp [(0, 100), (1, 101), (2, 102)]) (make_f hok.name hok.want hlen) rfl (cbA rfl) ⟨rfl, rfl, trivial⟩ (by kernel_rfl) (by kernel_rfl) (by kernel_rfl) (by kernel_rfl) (by kernel_rfl) (by kernel_rfl) (by kernel_rfl) (by kernel_rfl) rfl ?_
      (repeat (first | (apply v_move; exact rfl; exact rfl) | (apply v_assign; exact rfl; exact rfl) | refine run_region ?_ | refine runL_nil ?_ | refine run_inBlock ?_ | (apply v_add; exact rfl; exact rfl; exact rfl; exact (by omega))))
      exact v_again ih (i + 1) (mp [(101, 102)]) trivial (by repeat (first | exact trivial | refine ⟨rfl, ?_⟩)) ⟨rfl, by rw [hstep]; rfl, trivial⟩ rfl (by omega) (by omega)
    have hk0 : ¬ xs[i].kind = 0 := by simpa using h
    clear h
    (repeat (first | (apply v_assign; exact rfl; exact rfl) | refine run_seq ?_ | refine run_region ?_ | refine runL_nil ?_ | (apply v_eql; exact rfl; exact rfl; exact rfl)))
    refine run_cond rfl (fun h => ?_) (fun h => ?_)
    · have hk : xs[i].kind = 1 := by simpa using h
      have hstep : nodesM (xs.take (i + 1)) = (putM (nodesM (xs.take i)) xs[i].a xs[i].l).1 := by rw [nodes_take hlt, actM]; rw [if_neg (show ¬ xs[i].kind = 0 by omega)]; rw [if_pos hk]
      (repeat (first | (apply v_move; exact rfl; exact rfl) | refine run_region ?_ | (apply v_fldP; exact flA rfl; exact rfl; exact rfl; exact rfl) | (apply v_loadB; exact tyA rfl; exact rfl; exact rfl; exact rfl; exact rfl; exact rfl; exact rfl)))
      refine v_cR (mp [(0, 100), (1, 101), (2, 102)]) (put_f hw.ups xs[i].a xs[i].l (by omega) hok.l (kids_ok hw _)) rfl (cbA rfl) ⟨rfl, rfl, trivial⟩ (by kernel_rfl) (by kernel_rfl) (by kernel_rfl) (by kernel_rfl) (by kernel_rfl) (by kernel_rfl) (by kernel_rfl) (by kernel_rfl) rfl ?_
      (repeat (first | (apply v_move; exact rfl; exact rfl) | (apply v_assign; exact rfl; exact rfl) | refine run_region ?_ | refine runL_nil ?_ | refine run_inBlock ?_ | (apply v_add; exact rfl; exact rfl; exact rfl; exact (by omega))))
      exact v_again ih (i + 1) (mp [(101, 102)]) trivial (by repeat (first | exact trivial | refine ⟨rfl, ?_⟩)) ⟨rfl, by rw [hstep]; rfl, trivial⟩ rfl (by omega) (by omega)
    have hk1 : ¬ xs[i].kind = 1 := by simpa using h
    clear h
    (repeat (first | (apply v_assign; exact rfl; exact rfl) | refine run_seq ?_ | refine run_region ?_ | refine runL_nil ?_ | (apply v_eql; exact rfl; exact rfl; exact rfl)))
    refine run_cond rfl (fun h => ?_) (fun h => ?_)
    · have hk : xs[i].kind = 2 := by simpa using h
      have hstep : nodesM (xs.take (i + 1)) = (tieM (nodesM (xs.take i)) xs[i].a xs[i].b).1 := by rw [nodes_take hlt, actM]; rw [if_neg (show ¬ xs[i].kind = 0 by omega)]; rw [if_neg (show ¬ xs[i].kind = 1 by omega)]; rw [if_pos hk]
      (repeat (first | (apply v_move; exact rfl; exact rfl) | refine run_region ?_ | (apply v_fldP; exact flA rfl; exact rfl; exact rfl; exact rfl) | (apply v_loadB; exact tyA rfl; exact rfl; exact rfl; exact rfl; exact rfl; exact rfl; exact rfl)))
      refine v_cR (mp [(0, 100), (1, 101), (2, 102)]) (tie_f hw.ups xs[i].a xs[i].b (by omega)) rfl (cbA rfl) ⟨rfl, rfl, trivial⟩ (by kernel_rfl) (by kernel_rfl) (by kernel_rfl) (by kernel_rfl) (by kernel_rfl) (by kernel_rfl) (by kernel_rfl) (by kernel_rfl) rfl ?_
      (repeat (first | (apply v_move; exact rfl; exact rfl) | (apply v_assign; exact rfl; exact rfl) | refine run_region ?_ | refine runL_nil ?_ | refine run_inBlock ?_ | (apply v_add; exact rfl; exact rfl; exact rfl; exact (by omega))))
      exact v_again ih (i + 1) (mp [(101, 102)]) trivial (by repeat (first | exact trivial | refine ⟨rfl, ?_⟩)) ⟨rfl, by rw [hstep]; rfl, trivial⟩ rfl (by omega) (by omega)
    have hk2 : ¬ xs[i].kind = 2 := by simpa using h
    clear h
    (repeat (first | (apply v_assign; exact rfl; exact rfl) | refine run_seq ?_ | refine run_region ?_ | refine runL_nil ?_ | (apply v_eql; exact rfl; exact rfl; exact rfl)))
    refine run_cond rfl (fun h => ?_) (fun h => ?_)
    · have hk : xs[i].kind = 3 := by simpa using h
      have hstep : nodesM (xs.take (i + 1)) = (nameM (nodesM (xs.take i)) xs[i].a xs[i].s).1 := by rw [nodes_take hlt, actM]; rw [if_neg (show ¬ xs[i].kind = 0 by omega)]; rw [if_neg (show ¬ xs[i].kind = 1 by omega)]; rw [if_neg (show ¬ xs[i].kind = 2 by omega)]; rw [if_pos hk]
      (repeat (first | (apply v_move; exact rfl; exact rfl) | refine run_region ?_ | (apply v_fldP; exact flA rfl; exact rfl; exact rfl; exact rfl) | (apply v_loadB; exact tyA rfl; exact rfl; exact rfl; exact rfl; exact rfl; exact rfl; exact rfl)))
      refine v_cR (mp [(0, 100), (1, 101), (2, 102)]) (name_f xs[i].a hok.s (by omega)) rfl (cbA rfl) ⟨rfl, rfl, trivial⟩ (by kernel_rfl) (by kernel_rfl) (by kernel_rfl) (by kernel_rfl) (by kernel_rfl) (by kernel_rfl) (by kernel_rfl) (by kernel_rfl) rfl ?_
      (repeat (first | (apply v_move; exact rfl; exact rfl) | (apply v_assign; exact rfl; exact rfl) | refine run_region ?_ | refine runL_nil ?_ | refine run_inBlock ?_ | (apply v_add; exact rfl; exact rfl; exact rfl; exact (by omega))))
      exact v_again ih (i + 1) (mp [(101, 102)]) trivial (by repeat (first | exact trivial | refine ⟨rfl, ?_⟩)) ⟨rfl, by rw [hstep]; rfl, trivial⟩ rfl (by omega) (by omega)
    have hk3 : ¬ xs[i].kind = 3 := by simpa using h
    clear h
    (repeat (first | (apply v_assign; exact rfl; exact rfl) | refine run_seq ?_ | refine run_region ?_ | refine runL_nil ?_ | (apply v_eql; exact rfl; exact rfl; exact rfl)))
    refine run_cond rfl (fun h => ?_) (fun h => ?_)
    · have hk : xs[i].kind = 4 := by simpa using h
      have hstep : nodesM (xs.take (i + 1)) = (wantM (nodesM (xs.take i)) xs[i].a xs[i].s).1 := by rw [nodes_take hlt, actM]; rw [if_neg (show ¬ xs[i].kind = 0 by omega)]; rw [if_neg (show ¬ xs[i].kind = 1 by omega)]; rw [if_neg (show ¬ xs[i].kind = 2 by omega)]; rw [if_neg (show ¬ xs[i].kind = 3 by omega)]; rw [if_pos hk]
      (repeat (first | (apply v_move; exact rfl; exact rfl) | refine run_region ?_ | (apply v_fldP; exact flA rfl; exact rfl; exact rfl; exact rfl) | (apply v_loadB; exact tyA rfl; exact rfl; exact rfl; exact rfl; exact rfl; exact rfl; exact rfl)))
      refine v_cR (mp [(0, 100), (1, 101), (2, 102)]) (want_f xs[i].a hok.s (by omega)) rfl (cbA rfl) ⟨rfl, rfl, trivial⟩ (by kernel_rfl) (by kernel_rfl) (by kernel_rfl) (by kernel_rfl) (by kernel_rfl) (by kernel_rfl) (by kernel_rfl) (by kernel_rfl) rfl ?_
      (repeat (first | (apply v_move; exact rfl; exact rfl) | (apply v_assign; exact rfl; exact rfl) | refine run_region ?_ | refine runL_nil ?_ | refine run_inBlock ?_ | (apply v_add; exact rfl; exact rfl; exact rfl; exact (by omega))))
      exact v_again ih (i + 1) (mp [(101, 102)]) trivial (by repeat (first | exact trivial | refine ⟨rfl, ?_⟩)) ⟨rfl, by rw [hstep]; rfl, trivial⟩ rfl (by omega) (by omega)
    have hk4 : ¬ xs[i].kind = 4 := by simpa using h
    clear h
    (repeat (first | (apply v_move; exact rfl; exact rfl) | (apply v_assign; exact rfl; exact rfl) | refine run_region ?_ | refine runL_nil ?_ | refine run_skip ?_ | refine run_inBlock ?_ | (apply v_add; exact rfl; exact rfl; exact rfl; exact (by omega))))
    have hstep : nodesM (xs.take (i + 1)) = nodesM (xs.take i) := by rw [nodes_take hlt, actM, if_neg hk0, if_neg hk1, if_neg hk2, if_neg hk3, if_neg hk4]
    exact v_again ih (i + 1) idN trivial (by repeat (first | exact trivial | refine ⟨rfl, ?_⟩)) ⟨rfl, by rw [hstep]; rfl, trivial⟩ rfl (by omega) (by omega)
  · have hge : i = xs.length := by omega
    (repeat (first | (apply v_move; exact rfl; exact rfl) | refine run_seq ?_ | refine run_region ?_ | (apply v_lss; exact rfl; exact rfl; exact rfl) | (apply v_lenL; exact slA rfl; exact rfl; exact rfl)))
    refine v_is 11 false rfl (by simpa using hlt) ?_
    (repeat (first | (apply v_move; exact rfl; exact rfl) | (apply v_assign; exact rfl; exact rfl) | refine run_seq ?_ | refine run_region ?_ | refine runL_nil ?_ | (apply run_exit; exact rfl) | (apply v_off; exact rfl; exact rfl) | (apply v_pick_f; exact rfl; exact rfl; exact rfl) | (apply run_cond; exact rfl; (focus (intro hb; cases hb; done)); intro hb; clear hb)))
    refine run_freezeIn 100 101 rfl rfl rfl ?_
    refine run_pub 2 100 rfl rfl rfl ?_
    exact run_ret idN _ Try.func114 ⟨_, _, rfl, rfl, rfl⟩ (by rw [hge, List.take_length]; rfl) trivial trivial rfl
theorem great07 {xs : List Ac} (hm : xs.length ≤ 9223372036854775807) : Fun Try.prog 113 [.sem (listS acE xs)] [] (.v (.bool (greatM xs))) [] := by
  refine fun_intro 20 Try.func113 rfl rfl rfl (fun ι F S w => ?_)
  (repeat (first | (apply v_assign; exact rfl; exact rfl) | refine run_seq ?_ | refine run_region ?_ | refine runL_nil ?_ | refine run_block ?_))
  refine v_loop (fun i : Nat => ⟨[(0, .sem (listS acE xs)), (3, .v (.int .i64 i))], []⟩) (fun i => i ≤ xs.length ∧ ∀ j (hj : j < xs.length), j < i → xs[j].l.length ≤ 200) (fun i => xs.length - i) 0 idN trivial (by repeat (first | exact trivial | refine ⟨rfl, ?_⟩)) (by repeat (first | exact trivial | refine ⟨rfl, ?_⟩)) rfl ⟨by omega, fun j _ hj => by omega⟩ fun i ⟨hi, hp⟩ ih => ?_
  (repeat (first | (apply v_move; exact rfl; exact rfl) | refine run_seq ?_ | refine run_region ?_ | refine runL_nil ?_ | (apply v_lss; exact rfl; exact rfl; exact rfl) | (apply v_lenL; exact slA rfl; exact rfl; exact rfl)))
  refine run_cond rfl (fun h => ?_) (fun h => ?_)
  · have hlt : i < xs.length := by simpa using h
    have hx : xs[((i : Int)).toNat]? = some xs[i] := by simp [hlt]
    (repeat (first | (apply v_idxL; exact slA rfl; exact tyA rfl; exact rfl; exact rfl; exact rfl; exact rfl; exact (by omega); (first | exact hx); exact rfl) | (apply v_move; exact rfl; exact rfl) | refine run_seq ?_ | refine run_region ?_ | refine runL_nil ?_ | refine run_skip ?_ | refine run_block ?_ | (apply v_fldA; exact flA rfl; exact rfl; exact rfl; exact rfl) | (apply v_loadA; exact tyA rfl; exact rfl; exact rfl; exact rfl; exact rfl; exact rfl; exact rfl) | (apply v_gtr; exact rfl; exact rfl; exact rfl) | (apply v_lenL; exact slA rfl; exact rfl; exact rfl)))
    refine run_cond rfl (fun h => ?_) (fun h => ?_)
    · have he : 200 < xs[i].l.length := by
        have : (200 : Int) < xs[i].l.length := by simpa using h
        omega
      have hf : greatM xs = true := by
        rw [greatM, Bool.or_eq_true, List.any_eq_true]
        exact .inl ⟨xs[i], List.getElem_mem hlt, by simpa using he⟩
      (repeat (first | (apply v_assign; exact rfl; exact rfl) | refine run_seq ?_ | refine run_region ?_ | refine runL_nil ?_))
      exact run_ret idN _ Try.func113 ⟨_, _, rfl, rfl, rfl⟩ (by rw [hf]; rfl) trivial trivial rfl
    · have he : xs[i].l.length ≤ 200 := by
        have : (xs[i].l.length : Int) ≤ 200 := by simpa using h
        omega
      (repeat (first | (apply v_move; exact rfl; exact rfl) | (apply v_assign; exact rfl; exact rfl) | refine run_region ?_ | refine runL_nil ?_ | refine run_skip ?_ | refine run_inBlock ?_ | (apply v_add; exact rfl; exact rfl; exact rfl; exact (by omega))))
      exact v_again ih (i + 1) idN trivial (by repeat (first | exact trivial | refine ⟨rfl, ?_⟩)) (by repeat (first | exact trivial | refine ⟨rfl, ?_⟩)) rfl ⟨by omega, fun j hj hji => if e : j = i then (by subst e; exact he) else hp j hj (by omega)⟩ (by omega)
  · have hge : i = xs.length := by have : ¬ i < xs.length := (by simpa using h); omega
    have hf : greatM xs = decide ((xs.length : Int) > 300) := by
      have h1 : xs.any (fun x => decide (200 < x.l.length)) = false := by
        rw [← Bool.not_eq_true, List.any_eq_true]
        rintro ⟨x, hx, hgt⟩
        obtain ⟨j, hj, rfl⟩ := List.getElem_of_mem hx
        have := hp j hj (by omega)
        simp at hgt
        omega
      rw [greatM, h1, Bool.false_or]
      congr 1
      simp
      omega
    (repeat (first | (apply v_move; exact rfl; exact rfl) | (apply v_assign; exact rfl; exact rfl) | refine run_seq ?_ | refine run_region ?_ | refine runL_nil ?_ | (apply run_exit; exact rfl) | (apply v_gtr; exact rfl; exact rfl; exact rfl) | (apply v_lenL; exact slA rfl; exact rfl; exact rfl)))
    exact run_ret idN _ Try.func113 ⟨_, _, rfl, rfl, rfl⟩ (by rw [hf]; rfl) trivial trivial rfl
set_option maxHeartbeats 4000000 in
theorem madeL07 {xs : List Ac} (hl : xs.length ≤ 300) (hx : ∀ x ∈ xs, AcOk x) : Fun Try.prog 114 [.sem (listS acE xs)] [] (.ptr 0 0) (forR 1 (nodesM xs)) := by
  refine fun_intro 62 Try.func114 rfl rfl rfl (fun ι F S w => ?_)
  (repeat (first | (apply v_assign; exact rfl; exact rfl) | refine run_seq ?_ | refine run_region ?_ | refine runL_nil ?_))
  refine v_cR (mp [(0, 100), (1, 101)]) new_f rfl (cbA rfl) trivial rfl rfl rfl rfl rfl rfl rfl rfl rfl ?_
  (repeat (first | (apply v_assign; exact rfl; exact rfl) | refine run_seq ?_ | refine run_region ?_ | refine runL_nil ?_ | refine run_block ?_))
  refine v_loop (fun i : Nat => ⟨[(0, .sem (listS acE xs)), (3, .ptr 100 0), (4, .v (.int .i64 i))], [(100, .box 53 [.res 101]), (101, .obj (ownS 33 nodeE (nodesM (xs.take i))))]⟩) (fun i => i ≤ xs.length) (fun i => xs.length - i) 0 idN trivial (by repeat (first | exact trivial | refine ⟨rfl, ?_⟩)) (by repeat (first | exact trivial | refine ⟨rfl, ?_⟩)) rfl (by omega) fun i hi ih => ?_
  have hw : WF (nodesM (xs.take i)) := wf_nodes fun x h => hx x (List.mem_of_mem_take h)
  by_cases hlt : i < xs.length
  · have hx2 : xs[((i : Int)).toNat]? = some xs[i] := by simp [hlt]
    have hok := hx _ (List.getElem_mem hlt)
    have hlen := hw.len
    (repeat (first | (apply v_move; exact rfl; exact rfl) | refine run_seq ?_ | refine run_region ?_ | (apply v_lss; exact rfl; exact rfl; exact rfl) | (apply v_lenL; exact slA rfl; exact rfl; exact rfl)))
    refine v_is 11 true rfl (by simpa using hlt) ?_
    (repeat (first | (apply v_move; exact rfl; exact rfl) | refine runL_nil ?_ | (apply v_on; exact rfl) | (apply v_pick_t; exact rfl; exact rfl; exact rfl) | (apply v_lss; exact rfl; exact rfl; exact rfl)))
    refine run_condY rfl (by simp; omega) ?_
    (repeat (first | (apply v_idxL; exact slA rfl; exact tyA rfl; exact rfl; exact rfl; exact rfl; exact rfl; exact (by omega); (first | exact hx2); exact rfl) | (apply v_move; exact rfl; exact rfl) | (apply v_assign; exact rfl; exact rfl) | refine run_seq ?_ | refine run_region ?_ | refine runL_nil ?_ | refine run_skip ?_ | refine run_block ?_ | (apply v_fldP; exact flA rfl; exact rfl; exact rfl; exact rfl) | (apply v_loadB; exact tyA rfl; exact rfl; exact rfl; exact rfl; exact rfl; exact rfl; exact rfl) | (apply v_loadA; exact tyA rfl; exact rfl; exact rfl; exact rfl; exact rfl; exact rfl; exact rfl) | (apply v_eql; exact rfl; exact rfl; exact rfl) | (apply v_allocD; exact tyA rfl; exact rfl; exact rfl; exact rfl; exact rfl) | (apply v_storeW; exact tyA rfl; exact rfl; exact rfl; exact rfl; exact rfl; exact rfl; exact rfl; exact rfl)))
    refine run_cond rfl (fun h => ?_) (fun h => ?_)
    · have hk : xs[i].kind = 0 := by simpa using h
      have hstep : nodesM (xs.take (i + 1)) = (makeM (nodesM (xs.take i)) xs[i].n).1 := by rw [nodes_take hlt, actM]; rw [if_pos hk]
      (repeat (first | (apply v_move; exact rfl; exact rfl) | refine run_region ?_ | (apply v_fldP; exact flA rfl; exact rfl; exact rfl; exact rfl) | (apply v_loadB; exact tyA rfl; exact rfl; exact rfl; exact rfl; exact rfl; exact rfl; exact rfl)))
      refine v_cR (mp [(0, 100), (1, 101), (2, 102)]) (make_f hok.name hok.want hlen) rfl (cbA rfl) ⟨rfl, rfl, trivial⟩ (by kernel_rfl) (by kernel_rfl) (by kernel_rfl) (by kernel_rfl) (by kernel_rfl) (by kernel_rfl) (by kernel_rfl) (by kernel_rfl) rfl ?_
      (repeat (first | (apply v_move; exact rfl; exact rfl) | (apply v_assign; exact rfl; exact rfl) | refine run_region ?_ | refine runL_nil ?_ | refine run_inBlock ?_ | (apply v_add; exact rfl; exact rfl; exact rfl; exact (by omega))))
      exact v_again ih (i + 1) (mp [(101, 102)]) trivial (by repeat (first | exact trivial | refine ⟨rfl, ?_⟩)) ⟨rfl, by rw [hstep]; rfl, trivial⟩ rfl (by omega) (by omega)
    have hk0 : ¬ xs[i].kind = 0 := by simpa using h
    clear h
    (repeat (first | (apply v_assign; exact rfl; exact rfl) | refine run_seq ?_ | refine run_region ?_ | refine runL_nil ?_ | (apply v_eql; exact rfl; exact rfl; exact rfl)))
    refine run_cond rfl (fun h => ?_) (fun h => ?_)
    · have hk : xs[i].kind = 1 := by simpa using h
      have hstep : nodesM (xs.take (i + 1)) = (putM (nodesM (xs.take i)) xs[i].a xs[i].l).1 := by rw [nodes_take hlt, actM]; rw [if_neg (show ¬ xs[i].kind = 0 by omega)]; rw [if_pos hk]
      (repeat (first | (apply v_move; exact rfl; exact rfl) | refine run_region ?_ | (apply v_fldP; exact flA rfl; exact rfl; exact rfl; exact rfl) | (apply v_loadB; exact tyA rfl; exact rfl; exact rfl; exact rfl; exact rfl; exact rfl; exact rfl)))
      refine v_cR (mp [(0, 100), (1, 101), (2, 102)]) (put_f hw.ups xs[i].a xs[i].l (by omega) hok.l (kids_ok hw _)) rfl (cbA rfl) ⟨rfl, rfl, trivial⟩ (by kernel_rfl) (by kernel_rfl) (by kernel_rfl) (by kernel_rfl) (by kernel_rfl) (by kernel_rfl) (by kernel_rfl) (by kernel_rfl) rfl ?_
      (repeat (first | (apply v_move; exact rfl; exact rfl) | (apply v_assign; exact rfl; exact rfl) | refine run_region ?_ | refine runL_nil ?_ | refine run_inBlock ?_ | (apply v_add; exact rfl; exact rfl; exact rfl; exact (by omega))))
      exact v_again ih (i + 1) (mp [(101, 102)]) trivial (by repeat (first | exact trivial | refine ⟨rfl, ?_⟩)) ⟨rfl, by rw [hstep]; rfl, trivial⟩ rfl (by omega) (by omega)
    have hk1 : ¬ xs[i].kind = 1 := by simpa using h
    clear h
    (repeat (first | (apply v_assign; exact rfl; exact rfl) | refine run_seq ?_ | refine run_region ?_ | refine runL_nil ?_ | (apply v_eql; exact rfl; exact rfl; exact rfl)))
    refine run_cond rfl (fun h => ?_) (fun h => ?_)
    · have hk : xs[i].kind = 2 := by simpa using h
      have hstep : nodesM (xs.take (i + 1)) = (tieM (nodesM (xs.take i)) xs[i].a xs[i].b).1 := by rw [nodes_take hlt, actM]; rw [if_neg (show ¬ xs[i].kind = 0 by omega)]; rw [if_neg (show ¬ xs[i].kind = 1 by omega)]; rw [if_pos hk]
      (repeat (first | (apply v_move; exact rfl; exact rfl) | refine run_region ?_ | (apply v_fldP; exact flA rfl; exact rfl; exact rfl; exact rfl) | (apply v_loadB; exact tyA rfl; exact rfl; exact rfl; exact rfl; exact rfl; exact rfl; exact rfl)))
      refine v_cR (mp [(0, 100), (1, 101), (2, 102)]) (tie_f hw.ups xs[i].a xs[i].b (by omega)) rfl (cbA rfl) ⟨rfl, rfl, trivial⟩ (by kernel_rfl) (by kernel_rfl) (by kernel_rfl) (by kernel_rfl) (by kernel_rfl) (by kernel_rfl) (by kernel_rfl) (by kernel_rfl) rfl ?_
      (repeat (first | (apply v_move; exact rfl; exact rfl) | (apply v_assign; exact rfl; exact rfl) | refine run_region ?_ | refine runL_nil ?_ | refine run_inBlock ?_ | (apply v_add; exact rfl; exact rfl; exact rfl; exact (by omega))))
      exact v_again ih (i + 1) (mp [(101, 102)]) trivial (by repeat (first | exact trivial | refine ⟨rfl, ?_⟩)) ⟨rfl, by rw [hstep]; rfl, trivial⟩ rfl (by omega) (by omega)
    have hk2 : ¬ xs[i].kind = 2 := by simpa using h
    clear h
    (repeat (first | (apply v_assign; exact rfl; exact rfl) | refine run_seq ?_ | refine run_region ?_ | refine runL_nil ?_ | (apply v_eql; exact rfl; exact rfl; exact rfl)))
    refine run_cond rfl (fun h => ?_) (fun h => ?_)
    · have hk : xs[i].kind = 3 := by simpa using h
      have hstep : nodesM (xs.take (i + 1)) = (nameM (nodesM (xs.take i)) xs[i].a xs[i].s).1 := by rw [nodes_take hlt, actM]; rw [if_neg (show ¬ xs[i].kind = 0 by omega)]; rw [if_neg (show ¬ xs[i].kind = 1 by omega)]; rw [if_neg (show ¬ xs[i].kind = 2 by omega)]; rw [if_pos hk]
      (repeat (first | (apply v_move; exact rfl; exact rfl) | refine run_region ?_ | (apply v_fldP; exact flA rfl; exact rfl; exact rfl; exact rfl) | (apply v_loadB; exact tyA rfl; exact rfl; exact rfl; exact rfl; exact rfl; exact rfl; exact rfl)))
      refine v_cR (mp [(0, 100), (1, 101), (2, 102)]) (name_f xs[i].a hok.s (by omega)) rfl (cbA rfl) ⟨rfl, rfl, trivial⟩ (by kernel_rfl) (by kernel_rfl) (by kernel_rfl) (by kernel_rfl) (by kernel_rfl) (by kernel_rfl) (by kernel_rfl) (by kernel_rfl) rfl ?_
      (repeat (first | (apply v_move; exact rfl; exact rfl) | (apply v_assign; exact rfl; exact rfl) | refine run_region ?_ | refine runL_nil ?_ | refine run_inBlock ?_ | (apply v_add; exact rfl; exact rfl; exact rfl; exact (by omega))))
      exact v_again ih (i + 1) (mp [(101, 102)]) trivial (by repeat (first | exact trivial | refine ⟨rfl, ?_⟩)) ⟨rfl, by rw [hstep]; rfl, trivial⟩ rfl (by omega) (by omega)
    have hk3 : ¬ xs[i].kind = 3 := by simpa using h
    clear h
    (repeat (first | (apply v_assign; exact rfl; exact rfl) | refine run_seq ?_ | refine run_region ?_ | refine runL_nil ?_ | (apply v_eql; exact rfl; exact rfl; exact rfl)))
    refine run_cond rfl (fun h => ?_) (fun h => ?_)
    · have hk : xs[i].kind = 4 := by simpa using h
      have hstep : nodesM (xs.take (i + 1)) = (wantM (nodesM (xs.take i)) xs[i].a xs[i].s).1 := by rw [nodes_take hlt, actM]; rw [if_neg (show ¬ xs[i].kind = 0 by omega)]; rw [if_neg (show ¬ xs[i].kind = 1 by omega)]; rw [if_neg (show ¬ xs[i].kind = 2 by omega)]; rw [if_neg (show ¬ xs[i].kind = 3 by omega)]; rw [if_pos hk]
      (repeat (first | (apply v_move; exact rfl; exact rfl) | refine run_region ?_ | (apply v_fldP; exact flA rfl; exact rfl; exact rfl; exact rfl) | (apply v_loadB; exact tyA rfl; exact rfl; exact rfl; exact rfl; exact rfl; exact rfl; exact rfl)))
      refine v_cR (mp [(0, 100), (1, 101), (2, 102)]) (want_f xs[i].a hok.s (by omega)) rfl (cbA rfl) ⟨rfl, rfl, trivial⟩ (by kernel_rfl) (by kernel_rfl) (by kernel_rfl) (by kernel_rfl) (by kernel_rfl) (by kernel_rfl) (by kernel_rfl) (by kernel_rfl) rfl ?_
      (repeat (first | (apply v_move; exact rfl; exact rfl) | (apply v_assign; exact rfl; exact rfl) | refine run_region ?_ | refine runL_nil ?_ | refine run_inBlock ?_ | (apply v_add; exact rfl; exact rfl; exact rfl; exact (by omega))))
      exact v_again ih (i + 1) (mp [(101, 102)]) trivial (by repeat (first | exact trivial | refine ⟨rfl, ?_⟩)) ⟨rfl, by rw [hstep]; rfl, trivial⟩ rfl (by omega) (by omega)
    have hk4 : ¬ xs[i].kind = 4 := by simpa using h
    clear h
    (repeat (first | (apply v_move; exact rfl; exact rfl) | (apply v_assign; exact rfl; exact rfl) | refine run_region ?_ | refine runL_nil ?_ | refine run_skip ?_ | refine run_inBlock ?_ | (apply v_add; exact rfl; exact rfl; exact rfl; exact (by omega))))
    have hstep : nodesM (xs.take (i + 1)) = nodesM (xs.take i) := by rw [nodes_take hlt, actM, if_neg hk0, if_neg hk1, if_neg hk2, if_neg hk3, if_neg hk4]
    exact v_again ih (i + 1) idN trivial (by repeat (first | exact trivial | refine ⟨rfl, ?_⟩)) ⟨rfl, by rw [hstep]; rfl, trivial⟩ rfl (by omega) (by omega)
  · have hge : i = xs.length := by omega
    (repeat (first | (apply v_move; exact rfl; exact rfl) | refine run_seq ?_ | refine run_region ?_ | (apply v_lss; exact rfl; exact rfl; exact rfl) | (apply v_lenL; exact slA rfl; exact rfl; exact rfl)))
    refine v_is 11 false rfl (by simpa using hlt) ?_
    (repeat (first | (apply v_move; exact rfl; exact rfl) | (apply v_assign; exact rfl; exact rfl) | refine run_seq ?_ | refine run_region ?_ | refine runL_nil ?_ | (apply run_exit; exact rfl) | (apply v_off; exact rfl; exact rfl) | (apply v_pick_f; exact rfl; exact rfl; exact rfl) | (apply run_cond; exact rfl; (focus (intro hb; cases hb; done)); intro hb; clear hb)))
    exact run_ret (mp [(0, 100), (1, 101)]) _ Try.func114 ⟨_, _, rfl, rfl, rfl⟩ rfl trivial ⟨rfl, by rw [hge, List.take_length]; rfl, trivial⟩ rfl
end Go.Proofs.Ytjkidecaciomgaa
