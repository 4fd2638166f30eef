/- Law 04: do, made, great, awake. -/
import Derived.Test.YtjkidecaciomgaaRf9
import Derived.Test.YtjkidecaciomgaaVL16
import Derived.Test.YtjkidecaciomgaaFoE
import Derived.Test.YtjkidecaciomgaaKinPlW
namespace Go.Proofs.Ytjkidecaciomgaa
set_option linter.unusedVariables false
set_option linter.unusedSimpArgs false
set_option maxRecDepth 100000
open Go.RowKit

theorem dol_f {l : List Nd} (h : WF l) {x : Ac} (hx : AcOk x) : Fun Try.prog 35 [.ptr 0 0, .agg (acE.f x)] (forR 1 l) (.tup [.v (.int .i64 (doM l x).2.1), .v (.int .i64 (doM l x).2.2)]) (forR 2 (doM l x).1) := by
  have hlen := h.len
  have h0 := make_f (l := l) (x := x.n) hx.name hx.want h.len
  have h1 := put_f h.ups x.a x.l (by omega) hx.l (kids_ok h _)
  have h2 := tie_f h.ups x.a x.b (by omega)
  have h3 := name_f (l := l) x.a hx.s (by omega)
  have h4 := want_f (l := l) x.a hx.s (by omega)
  have hxl := hx.l
  have hd : doM l x = if x.kind = 0 then makeM l x.n else if x.kind = 1 then ((putM l x.a x.l).1, 0, (putM l x.a x.l).2) else if x.kind = 2 then ((tieM l x.a x.b).1, 0, (tieM l x.a x.b).2) else if x.kind = 3 then ((nameM l x.a x.s).1, 0, (nameM l x.a x.s).2) else if x.kind = 4 then ((wantM l x.a x.s).1, 0, (wantM l x.a x.s).2) else (l, 0, 0) := rfl
  generalize doM l x = D at *
  refine fun_intro 50 Try.func35 rfl rfl rfl (fun ι F S w => ?_)
  (repeat (first | (apply v_assign; exact rfl; exact rfl) | refine run_seq ?_ | refine run_region ?_ | refine runL_nil ?_ | refine run_block ?_ | (apply v_fldP; exact flA rfl; exact rfl; exact rfl; exact rfl) | (apply v_loadB; exact tyA rfl; exact rfl; exact rfl; exact rfl; exact rfl; exact rfl; exact rfl) | (apply v_eql; exact rfl; exact rfl; exact rfl) | (apply v_boxD; exact rfl; exact rfl; exact rfl; exact rfl; exact rfl; exact rfl; exact rfl)))
  refine run_cond rfl (fun hb => ?_) (fun hb => ?_)
  · have hk : x.kind = 0 := by simpa using hb
    rw [if_pos hk] at hd
    subst hd
    (repeat (first | (apply v_move; exact rfl; exact rfl) | refine run_seq ?_ | refine run_region ?_ | (apply v_fldP; exact flA rfl; exact rfl; exact rfl; exact rfl) | (apply v_loadB; exact tyA rfl; exact rfl; exact rfl; exact rfl; exact rfl; exact rfl; exact rfl)))
    refine v_cR (mp [(2, 101)]) h0 rfl (cbA rfl) ⟨rfl, rfl, trivial⟩ (by kernel_rfl) (by kernel_rfl) (by kernel_rfl) (by kernel_rfl) (by kernel_rfl) (by kernel_rfl) (by kernel_rfl) (by kernel_rfl) rfl ?_
    (repeat (first | (apply v_assign; exact rfl; exact rfl) | refine runL_nil ?_ | (apply v_extract; exact rfl; exact rfl; exact rfl)))
    exact run_ret (mp [(2, 101)]) _ Try.func35 ⟨_, _, rfl, rfl, _, _, rfl, rfl, rfl⟩ rfl ⟨rfl, rfl, trivial⟩ ⟨rfl, rfl, trivial⟩ rfl
  have hk0 : ¬ x.kind = 0 := by simpa using hb
  clear hb
  rw [if_neg hk0] at hd
  (repeat (first | (apply v_assign; exact rfl; exact rfl) | refine run_seq ?_ | refine run_region ?_ | refine runL_nil ?_ | (apply v_eql; exact rfl; exact rfl; exact rfl)))
  refine run_cond rfl (fun hb => ?_) (fun hb => ?_)
  · have hk : x.kind = 1 := by simpa using hb
    rw [if_pos hk] at hd
    subst hd
    (repeat (first | refine run_seq ?_))
    refine run_draws (by kernel_rfl) (by kernel_rfl) ?_
    (repeat (first | (apply p_move; exact rfl; exact rfl; exact rfl) | (apply p_fldP; exact flA rfl; exact rfl; exact rfl; exact rfl; exact rfl) | (apply p_loadB; exact tyA rfl; exact rfl; exact rfl; exact rfl; exact rfl; exact rfl; exact rfl; exact rfl)))
    refine p_lO intE [] (slA rfl) (tyA rfl) rfl rfl rfl rfl rfl rfl rfl rfl rfl rfl rfl rfl rfl ?_
    (repeat (first | (apply p_fldP; exact flA rfl; exact rfl; exact rfl; exact rfl; exact rfl) | (apply p_loadB; exact tyA rfl; exact rfl; exact rfl; exact rfl; exact rfl; exact rfl; exact rfl; exact rfl)))
    refine p_appendF (slA rfl) (tyA rfl) rfl rfl rfl rfl rfl rfl rfl (by simp; omega) rfl rfl rfl ?_
    skip
    refine p_cR (mp [(2, 101)]) h1 rfl (cbA rfl) ⟨rfl, rfl, trivial⟩ (by kernel_rfl) (by kernel_rfl) (by kernel_rfl) (by kernel_rfl) (by kernel_rfl) (by kernel_rfl) (by kernel_rfl) rfl rfl ?_
    (repeat (first | (apply p_assign; exact rfl; exact rfl; exact rfl)))
    refine planL_nil (by kernel_rfl) ?_
    skip
    exact run_ret (mp [(2, 101)]) _ Try.func35 ⟨_, _, rfl, rfl, _, _, rfl, rfl, rfl⟩ rfl ⟨rfl, rfl, trivial⟩ ⟨rfl, rfl, trivial⟩ rfl
  have hk1 : ¬ x.kind = 1 := by simpa using hb
  clear hb
  rw [if_neg hk1] at hd
  (repeat (first | (apply v_assign; exact rfl; exact rfl) | refine run_seq ?_ | refine run_region ?_ | refine runL_nil ?_ | (apply v_eql; exact rfl; exact rfl; exact rfl)))
  refine run_cond rfl (fun hb => ?_) (fun hb => ?_)
  · have hk : x.kind = 2 := by simpa using hb
    rw [if_pos hk] at hd
    subst hd
    (repeat (first | (apply v_move; exact rfl; exact rfl) | refine run_seq ?_ | refine run_region ?_ | (apply v_fldP; exact flA rfl; exact rfl; exact rfl; exact rfl) | (apply v_loadB; exact tyA rfl; exact rfl; exact rfl; exact rfl; exact rfl; exact rfl; exact rfl)))
    refine v_cR (mp [(2, 101)]) h2 rfl (cbA rfl) ⟨rfl, rfl, trivial⟩ (by kernel_rfl) (by kernel_rfl) (by kernel_rfl) (by kernel_rfl) (by kernel_rfl) (by kernel_rfl) (by kernel_rfl) (by kernel_rfl) rfl ?_
    (repeat (first | (apply v_assign; exact rfl; exact rfl) | refine runL_nil ?_))
    exact run_ret (mp [(2, 101)]) _ Try.func35 ⟨_, _, rfl, rfl, _, _, rfl, rfl, rfl⟩ rfl ⟨rfl, rfl, trivial⟩ ⟨rfl, rfl, trivial⟩ rfl
  have hk2 : ¬ x.kind = 2 := by simpa using hb
  clear hb
  rw [if_neg hk2] at hd
  (repeat (first | (apply v_assign; exact rfl; exact rfl) | refine run_seq ?_ | refine run_region ?_ | refine runL_nil ?_ | (apply v_eql; exact rfl; exact rfl; exact rfl)))
  refine run_cond rfl (fun hb => ?_) (fun hb => ?_)
  · have hk : x.kind = 3 := by simpa using hb
    rw [if_pos hk] at hd
    subst hd
    (repeat (first | (apply v_move; exact rfl; exact rfl) | refine run_seq ?_ | refine run_region ?_ | (apply v_fldP; exact flA rfl; exact rfl; exact rfl; exact rfl) | (apply v_loadB; exact tyA rfl; exact rfl; exact rfl; exact rfl; exact rfl; exact rfl; exact rfl)))
    refine v_cR (mp [(2, 101)]) h3 rfl (cbA rfl) ⟨rfl, rfl, trivial⟩ (by kernel_rfl) (by kernel_rfl) (by kernel_rfl) (by kernel_rfl) (by kernel_rfl) (by kernel_rfl) (by kernel_rfl) (by kernel_rfl) rfl ?_
    (repeat (first | (apply v_assign; exact rfl; exact rfl) | refine runL_nil ?_))
    exact run_ret (mp [(2, 101)]) _ Try.func35 ⟨_, _, rfl, rfl, _, _, rfl, rfl, rfl⟩ rfl ⟨rfl, rfl, trivial⟩ ⟨rfl, rfl, trivial⟩ rfl
  have hk3 : ¬ x.kind = 3 := by simpa using hb
  clear hb
  rw [if_neg hk3] at hd
  (repeat (first | (apply v_assign; exact rfl; exact rfl) | refine run_seq ?_ | refine run_region ?_ | refine runL_nil ?_ | (apply v_eql; exact rfl; exact rfl; exact rfl)))
  refine run_cond rfl (fun hb => ?_) (fun hb => ?_)
  · have hk : x.kind = 4 := by simpa using hb
    rw [if_pos hk] at hd
    subst hd
    (repeat (first | (apply v_move; exact rfl; exact rfl) | refine run_seq ?_ | refine run_region ?_ | (apply v_fldP; exact flA rfl; exact rfl; exact rfl; exact rfl) | (apply v_loadB; exact tyA rfl; exact rfl; exact rfl; exact rfl; exact rfl; exact rfl; exact rfl)))
    refine v_cR (mp [(2, 101)]) h4 rfl (cbA rfl) ⟨rfl, rfl, trivial⟩ (by kernel_rfl) (by kernel_rfl) (by kernel_rfl) (by kernel_rfl) (by kernel_rfl) (by kernel_rfl) (by kernel_rfl) (by kernel_rfl) rfl ?_
    (repeat (first | (apply v_assign; exact rfl; exact rfl) | refine runL_nil ?_))
    exact run_ret (mp [(2, 101)]) _ Try.func35 ⟨_, _, rfl, rfl, _, _, rfl, rfl, rfl⟩ rfl ⟨rfl, rfl, trivial⟩ ⟨rfl, rfl, trivial⟩ rfl
  have hk4 : ¬ x.kind = 4 := by simpa using hb
  clear hb
  rw [if_neg hk4] at hd
  subst hd
  (repeat (first | (apply v_assign; exact rfl; exact rfl) | refine run_seq ?_ | refine run_region ?_ | refine runL_nil ?_ | refine run_skip ?_ | refine run_inBlock ?_))
  exact run_ret (mp [(2, 1)]) _ Try.func35 ⟨_, _, rfl, rfl, _, _, rfl, rfl, rfl⟩ rfl ⟨rfl, rfl, trivial⟩ ⟨rfl, rfl, trivial⟩ rfl
theorem made04 {xs : List Ac} (hl : xs.length ≤ 300) (hx : ∀ x ∈ xs, AcOk x) : Fun Try.prog 43 [.sem (listS acE xs)] [] (forA (nodesM xs)) [] := by
  refine fun_intro 19 Try.func43 rfl rfl rfl (fun ι F S w => ?_)
  (repeat (first | (apply v_assign; exact rfl; exact rfl) | refine run_seq ?_ | refine run_region ?_ | refine runL_nil ?_))
  refine v_cR (mp [(0, 100), (1, 101)]) new_f rfl (cbA rfl) trivial rfl rfl rfl rfl rfl rfl rfl rfl rfl ?_
  (repeat (first | (apply v_assign; exact rfl; exact rfl) | refine run_seq ?_ | refine run_region ?_ | refine runL_nil ?_ | refine run_block ?_))
  refine v_loop (fun i : Nat => ⟨[(0, .sem (listS acE xs)), (3, .ptr 100 0), (4, .v (.int .i64 i))], [(100, .box 53 [.res 101]), (101, .obj (ownS 33 nodeE (nodesM (xs.take i))))]⟩) (fun i => i ≤ xs.length) (fun i => xs.length - i) 0 idN trivial (by repeat (first | exact trivial | refine ⟨rfl, ?_⟩)) (by repeat (first | exact trivial | refine ⟨rfl, ?_⟩)) rfl (by omega) fun i hi ih => ?_
  have hw : WF (nodesM (xs.take i)) := wf_nodes fun x h => hx x (List.mem_of_mem_take h)
  (repeat (first | (apply v_move; exact rfl; exact rfl) | refine run_seq ?_ | refine run_region ?_ | refine runL_nil ?_ | (apply v_lss; exact rfl; exact rfl; exact rfl) | (apply v_lenL; exact slA rfl; exact rfl; exact rfl)))
  refine run_cond rfl (fun hb => ?_) (fun hb => ?_)
  · have hlt : i < xs.length := by simpa using hb
    have hx2 : xs[((i : Int)).toNat]? = some xs[i] := by simp [hlt]
    have hd := dol_f hw (hx _ (List.getElem_mem hlt))
    have hst : nodesM (xs.take (i + 1)) = (doM (nodesM (xs.take i)) xs[i]).1 := by rw [nodes_take hlt, do_act]
    generalize doM (nodesM (xs.take i)) xs[i] = D at *
    (repeat (first | (apply v_idxL; exact slA rfl; exact tyA rfl; exact rfl; exact rfl; exact rfl; exact rfl; exact (by omega); (first | exact hx2); exact rfl) | (apply v_move; exact rfl; exact rfl) | refine run_seq ?_ | refine run_region ?_ | refine run_skip ?_ | refine run_block ?_ | (apply v_loadA; exact tyA rfl; exact rfl; exact rfl; exact rfl; exact rfl; exact rfl; exact rfl)))
    refine v_cR (mp [(0, 100), (1, 101), (2, 102)]) hd rfl (cbA rfl) ⟨rfl, rfl, trivial⟩ (by kernel_rfl) (by kernel_rfl) (by kernel_rfl) (by kernel_rfl) (by kernel_rfl) (by kernel_rfl) (by kernel_rfl) (by kernel_rfl) rfl ?_
    (repeat (first | (apply v_move; exact rfl; exact rfl) | (apply v_assign; exact rfl; exact rfl) | refine run_region ?_ | refine runL_nil ?_ | refine run_inBlock ?_ | (apply v_add; exact rfl; exact rfl; exact rfl; exact (by omega))))
    exact v_again ih (i + 1) (mp [(101, 102)]) trivial (by repeat (first | exact trivial | refine ⟨rfl, ?_⟩)) ⟨rfl, by rw [hst]; rfl, trivial⟩ rfl (by omega) (by omega)
  · have hge : i = xs.length := by have : ¬ i < xs.length := (by simpa using hb); omega
    (repeat (first | (apply v_move; exact rfl; exact rfl) | (apply v_assign; exact rfl; exact rfl) | refine run_seq ?_ | refine run_region ?_ | refine runL_nil ?_ | (apply run_exit; exact rfl)))
    refine run_freezeIn 100 101 rfl rfl rfl ?_
    refine run_pub 2 100 rfl rfl rfl ?_
    exact run_ret idN _ Try.func43 ⟨_, _, rfl, rfl, rfl⟩ (by rw [hge, List.take_length]; rfl) trivial trivial rfl
theorem great04 {xs : List Ac} (hm : xs.length ≤ 9223372036854775807) : Fun Try.prog 33 [.sem (listS acE xs)] [] (.v (.bool (greatM xs))) [] := by
  by_cases h3 : 300 < xs.length
  · have hf : greatM xs = true := by rw [greatM, decide_eq_true h3, Bool.or_true]
    rw [hf]
    refine fun_intro 20 Try.func33 rfl rfl rfl (fun ι F S w => ?_)
    (repeat (first | (apply v_move; exact rfl; exact rfl) | (apply v_assign; exact rfl; exact rfl) | refine run_seq ?_ | refine run_region ?_ | refine runL_nil ?_ | (apply v_gtr; exact rfl; exact rfl; exact rfl) | (apply v_lenL; exact slA rfl; exact rfl; exact rfl)))
    refine run_condY rfl (by simp; omega) ?_
    (repeat (first | (apply v_assign; exact rfl; exact rfl) | refine run_seq ?_ | refine run_region ?_ | refine runL_nil ?_))
    exact run_ret idN _ Try.func33 ⟨_, _, rfl, rfl, rfl⟩ rfl trivial trivial rfl
  · refine fun_intro 20 Try.func33 rfl rfl rfl (fun ι F S w => ?_)
    (repeat (first | (apply v_move; exact rfl; exact rfl) | (apply v_assign; exact rfl; exact rfl) | refine run_seq ?_ | refine run_region ?_ | refine runL_nil ?_ | (apply v_gtr; exact rfl; exact rfl; exact rfl) | (apply v_lenL; exact slA rfl; exact rfl; exact rfl)))
    refine run_condN rfl (by simp; omega) ?_
    (repeat (first | (apply v_assign; exact rfl; exact rfl) | refine run_seq ?_ | refine run_region ?_ | refine runL_nil ?_ | refine run_skip ?_ | refine run_block ?_))
    refine v_loop (fun i : Nat => ⟨[(0, .sem (listS acE xs)), (3, .v (.int .i64 i))], []⟩) (fun i => i ≤ xs.length ∧ ∀ j (hj : j < xs.length), j < i → xs[j].l.length ≤ 200) (fun i => xs.length - i) 0 idN trivial (by repeat (first | exact trivial | refine ⟨rfl, ?_⟩)) (by repeat (first | exact trivial | refine ⟨rfl, ?_⟩)) rfl ⟨by omega, fun j _ hj => by omega⟩ fun i ⟨hi, hp⟩ ih => ?_
    (repeat (first | (apply v_move; exact rfl; exact rfl) | refine run_seq ?_ | refine run_region ?_ | refine runL_nil ?_ | (apply v_lss; exact rfl; exact rfl; exact rfl) | (apply v_lenL; exact slA rfl; exact rfl; exact rfl)))
    refine run_cond rfl (fun h => ?_) (fun h => ?_)
    · have hlt : i < xs.length := by simpa using h
      have hx : xs[((i : Int)).toNat]? = some xs[i] := by simp [hlt]
      (repeat (first | (apply v_idxL; exact slA rfl; exact tyA rfl; exact rfl; exact rfl; exact rfl; exact rfl; exact (by omega); (first | exact hx); exact rfl) | (apply v_move; exact rfl; exact rfl) | refine run_seq ?_ | refine run_region ?_ | refine runL_nil ?_ | refine run_skip ?_ | refine run_block ?_ | (apply v_fldA; exact flA rfl; exact rfl; exact rfl; exact rfl) | (apply v_loadA; exact tyA rfl; exact rfl; exact rfl; exact rfl; exact rfl; exact rfl; exact rfl) | (apply v_gtr; exact rfl; exact rfl; exact rfl) | (apply v_lenL; exact slA rfl; exact rfl; exact rfl)))
      refine run_cond rfl (fun h => ?_) (fun h => ?_)
      · have he : 200 < xs[i].l.length := by
          have : (200 : Int) < xs[i].l.length := by simpa using h
          omega
        have hf : greatM xs = true := by
          rw [greatM, Bool.or_eq_true, List.any_eq_true]
          exact .inl ⟨xs[i], List.getElem_mem hlt, by simpa using he⟩
        rw [hf]
        (repeat (first | (apply v_assign; exact rfl; exact rfl) | refine run_seq ?_ | refine run_region ?_ | refine runL_nil ?_))
        exact run_ret idN _ Try.func33 ⟨_, _, rfl, rfl, rfl⟩ rfl trivial trivial rfl
      · have he : xs[i].l.length ≤ 200 := by
          have : (xs[i].l.length : Int) ≤ 200 := by simpa using h
          omega
        (repeat (first | (apply v_move; exact rfl; exact rfl) | (apply v_assign; exact rfl; exact rfl) | refine run_region ?_ | refine runL_nil ?_ | refine run_skip ?_ | refine run_inBlock ?_ | (apply v_add; exact rfl; exact rfl; exact rfl; exact (by omega))))
        exact v_again ih (i + 1) idN trivial (by repeat (first | exact trivial | refine ⟨rfl, ?_⟩)) (by repeat (first | exact trivial | refine ⟨rfl, ?_⟩)) rfl ⟨by omega, fun j hj hji => if e : j = i then (by subst e; exact he) else hp j hj (by omega)⟩ (by omega)
    · have hge : i = xs.length := by have : ¬ i < xs.length := (by simpa using h); omega
      have hf : greatM xs = false := by
        have h1 : xs.any (fun x => decide (200 < x.l.length)) = false := by
          rw [← Bool.not_eq_true, List.any_eq_true]
          rintro ⟨x, hx, hgt⟩
          obtain ⟨j, hj, rfl⟩ := List.getElem_of_mem hx
          have := hp j hj (by omega)
          simp at hgt
          omega
        rw [greatM, h1, Bool.false_or]
        simpa using h3
      rw [hf]
      (repeat (first | (apply v_assign; exact rfl; exact rfl) | refine run_seq ?_ | refine run_region ?_ | refine runL_nil ?_ | (apply run_exit; exact rfl)))
      exact run_ret idN _ Try.func33 ⟨_, _, rfl, rfl, rfl⟩ rfl trivial trivial rfl
def fo04 : List Nd := [{ ndE with kids := [2] }, { ndE with parent := 1 }]
theorem mk04 : makeM [] ndE = ([ndE], 1, 0) := by kernel_rfl
theorem mk04b : makeM [ndE] ndE = ([ndE, ndE], 2, 0) := by kernel_rfl
theorem wf04a : WF [ndE] := by
  have := wf_make wf_nil (n := ndE) (by decide) (by decide)
  rwa [mk04] at this
theorem wf04b : WF [ndE, ndE] := by
  have := wf_make wf04a (n := ndE) (by decide) (by decide)
  rwa [mk04b] at this
theorem pt04 : putM [ndE, ndE] 1 [2] = (fo04, 0) := (put_C wf04b 1 [2]).trans (by kernel_rfl)
theorem wf04 : WF fo04 := by
  have := wf_put wf04b 1 [2]
  rwa [pt04] at this
theorem awake04 : Fun Try.prog 32 [] [] (.v (.bool true)) [] := by
  have h1 := make_f (l := []) (x := ndE) (by decide) (by decide) (by decide)
  rw [mk04] at h1
  have h2 := make_f (l := [ndE]) (x := ndE) (by decide) (by decide) (by decide)
  rw [mk04b] at h2
  have h3 := put_f wf04b.ups 1 [2] (by decide) (by decide) (kids_ok wf04b _)
  rw [pt04] at h3
  have h4 := node_s wf04 (id := 2) (x := { ndE with parent := 1 }) rfl
  refine fun_intro 30 Try.func32 rfl rfl rfl (fun ι F S w => ?_)
  (repeat (first | (apply v_assign; exact rfl; exact rfl) | refine run_seq ?_ | refine run_region ?_ | refine runL_nil ?_))
  refine v_cR (mp [(0, 100), (1, 101)]) new_f rfl (cbA rfl) trivial rfl rfl rfl rfl rfl rfl rfl rfl rfl ?_
  (repeat (first | (apply v_move; exact rfl; exact rfl) | (apply v_assign; exact rfl; exact rfl) | refine run_seq ?_ | refine run_region ?_ | refine runL_nil ?_ | (apply v_b; exact plA rfl; exact tyA rfl; exact rfl; exact rfl; exact rfl)))
  refine runL_le 7 rfl (y := .agg (nodeL (ndE))) (Le.agg (by repeat (first | exact trivial | refine ⟨Le.refl, ?_⟩ | refine ⟨Le.nil, ?_⟩))) ?_
  refine v_cR (mp [(0, 100), (1, 101), (2, 102)]) h1 rfl (cbA rfl) ⟨rfl, rfl, trivial⟩ (by kernel_rfl) (by kernel_rfl) (by kernel_rfl) (by kernel_rfl) (by kernel_rfl) (by kernel_rfl) (by kernel_rfl) (by kernel_rfl) rfl ?_
  (repeat (first | (apply v_move; exact rfl; exact rfl) | refine run_seq ?_ | refine run_region ?_ | refine runL_nil ?_ | (apply v_b; exact plA rfl; exact tyA rfl; exact rfl; exact rfl; exact rfl)))
  refine runL_le 10 rfl (y := .agg (nodeL (ndE))) (Le.agg (by repeat (first | exact trivial | refine ⟨Le.refl, ?_⟩ | refine ⟨Le.nil, ?_⟩))) ?_
  refine v_cR (mp [(0, 100), (1, 102), (2, 103)]) h2 rfl (cbA rfl) ⟨rfl, rfl, trivial⟩ (by kernel_rfl) (by kernel_rfl) (by kernel_rfl) (by kernel_rfl) (by kernel_rfl) (by kernel_rfl) (by kernel_rfl) (by kernel_rfl) rfl ?_
  (repeat (first | (apply v_move; exact rfl; exact rfl) | refine run_seq ?_ | refine run_region ?_ | refine runL_nil ?_))
  refine v_l intE [2] (slA rfl) (tyA rfl) rfl rfl rfl rfl rfl rfl rfl rfl rfl rfl ?_
  skip
  refine v_cR (mp [(0, 100), (1, 103), (2, 104)]) h3 rfl (cbA rfl) ⟨rfl, rfl, trivial⟩ (by kernel_rfl) (by kernel_rfl) (by kernel_rfl) (by kernel_rfl) (by kernel_rfl) (by kernel_rfl) (by kernel_rfl) (by kernel_rfl) rfl ?_
  (repeat (first | (apply v_move; exact rfl; exact rfl) | (apply v_assign; exact rfl; exact rfl) | refine run_seq ?_ | refine run_region ?_ | refine runL_nil ?_))
  refine runL_freezeIn 100 104 rfl rfl rfl ?_
  refine runL_pub 16 100 rfl rfl rfl ?_
  (repeat (first | (apply v_cx; exact rfl; exact cbA rfl; (first | exact h4); exact rfl; exact rfl) | (apply v_move; exact rfl; exact rfl) | (apply v_assign; exact rfl; exact rfl) | refine run_seq ?_ | refine run_region ?_ | refine runL_nil ?_ | (apply v_extract; exact rfl; exact rfl; exact rfl) | (apply v_fldP; exact flA rfl; exact rfl; exact rfl; exact rfl) | (apply v_loadB; exact tyA rfl; exact rfl; exact rfl; exact rfl; exact rfl; exact rfl; exact rfl) | (apply v_on; exact rfl) | (apply v_pick_t; exact rfl; exact rfl; exact rfl) | (apply v_eql; exact rfl; exact rfl; exact rfl) | (apply v_allocD; exact tyA rfl; exact rfl; exact rfl; exact rfl; exact rfl) | (apply v_storeW; exact tyA rfl; exact rfl; exact rfl; exact rfl; exact rfl; exact rfl; exact rfl; exact rfl)))
  exact run_ret idN _ Try.func32 ⟨_, _, rfl, rfl, rfl⟩ rfl trivial trivial rfl
end Go.Proofs.Ytjkidecaciomgaa
