/- Forests that calls make: law 05's. -/
import Derived.Test.YtjkidecaciomgaaFoN
import Derived.Test.YtjkidecaciomgaaBC
namespace Go.Proofs.Ytjkidecaciomgaa
set_option linter.unusedVariables false
set_option linter.unusedSimpArgs false
set_option maxRecDepth 100000
open Go.RowKit

structure Ac where
  kind : Int
  a : Int
  b : Int
  s : ByteArray
  n : Nd
  l : List Int
def acE : Enc Ac where
  sz := 14
  f := fun x => [.v (.int .i64 x.kind), .v (.int .i64 x.a), .v (.int .i64 x.b), .v (.string x.s), .v (.int .i64 x.n.kind), .v (.int .i64 x.n.parent), .v (.int .i64 x.n.host), .v (.int .i64 x.n.shadow), .v (.int .i64 x.n.mode), .v (.bool x.n.slot), .v (.string x.n.name), .v (.string x.n.want), .sem (listS intE x.n.kids), .sem (listS intE x.l)]
  len := fun _ => rfl
  leaf := fun _ => rfl
/-- What a call makes of the nodes. -/
noncomputable def actM (l : List Nd) (x : Ac) : List Nd :=
  if x.kind = 0 then (makeM l x.n).1
  else if x.kind = 1 then (putM l x.a x.l).1
  else if x.kind = 2 then (tieM l x.a x.b).1
  else if x.kind = 3 then (nameM l x.a x.s).1
  else if x.kind = 4 then (wantM l x.a x.s).1
  else l
noncomputable def nodesM (xs : List Ac) : List Nd := xs.foldl actM []
/-- Calls that are looked at. -/
structure AcOk (x : Ac) : Prop where
  s : x.s.size ≤ 9223372036854775807
  name : x.n.name.size ≤ 9223372036854775807
  want : x.n.want.size ≤ 9223372036854775807
  l : x.l.length ≤ 1000000
theorem wf_act {l : List Nd} (h : WF l) {x : Ac} (hx : AcOk x) : WF (actM l x) := by
  unfold actM
  repeat' split
  · exact wf_make h hx.name hx.want
  · exact wf_put h _ _
  · exact wf_tie h _ _
  · exact wf_name h _ hx.s
  · exact wf_want h _ hx.s
  · exact h
theorem wf_nodes {xs : List Ac} (hx : ∀ x ∈ xs, AcOk x) : WF (nodesM xs) := by
  have : ∀ (xs : List Ac) (l : List Nd), WF l → (∀ x ∈ xs, AcOk x) → WF (xs.foldl actM l) := by
    intro xs
    induction xs with
    | nil => intro l h _; exact h
    | cons x xs ih => intro l h hx; exact ih _ (wf_act h (hx x (by simp))) fun y hy => hx y (by simp [hy])
  exact this xs [] wf_nil hx
theorem nodup_len : ∀ (n : Nat) (ks : List Int), ks.Nodup → (∀ c ∈ ks, 1 ≤ c ∧ c ≤ (n : Int)) → ks.length ≤ n
  | 0, ks, _, h => by
    cases ks with
    | nil => simp
    | cons c ks => have := h c (by simp); omega
  | n + 1, ks, hn, h => by
    by_cases hm : ((n : Int) + 1) ∈ ks
    · have h1 := nodup_len n (ks.erase ((n : Int) + 1)) (hn.erase _) fun c hc => by
        have hc' := (hn.mem_erase_iff).1 hc
        have := h c hc'.2
        have := hc'.1
        omega
      rw [List.length_erase_of_mem hm] at h1
      omega
    · have := nodup_len n ks hn fun c hc => by
        have h2 := h c hc
        have : c ≠ (n : Int) + 1 := fun e => hm (e ▸ hc)
        omega
      omega
theorem kids_ok {l : List Nd} (h : WF l) (p : Int) : ∀ x, nodeAt l p = some x → x.kids.length ≤ 1000000 ∧ ∀ c ∈ x.kids, (nodeAt l c).isSome = true := fun x hx => by
  have hc : ∀ c ∈ x.kids, (nodeAt l c).isSome = true := fun c hc => by
    obtain ⟨y, hy, _⟩ := h.kid hx hc
    rw [hy]; rfl
  refine ⟨?_, hc⟩
  have h1 := nodup_len l.length x.kids (h.nod hx) fun c hm => nodeAt_isSome.1 (hc c hm)
  have := h.len
  omega
theorem new_f : Fun Try.prog 34 [] [] (.ptr 0 0) (forR 1 []) := by
  refine fun_intro 3 Try.func34 rfl rfl rfl (fun ι F S w => ?_)
  (repeat (first | (apply v_assign; exact rfl; exact rfl) | refine run_seq ?_ | refine run_region ?_ | refine runL_nil ?_ | (apply v_boxD; exact rfl; exact rfl; exact rfl; exact rfl; exact rfl; exact rfl; exact rfl) | (apply v_b; exact plA rfl; exact tyA rfl; exact rfl; exact rfl; exact rfl)))
  refine run_ownB 2 0 50 33 nodeE rfl rfl rfl rfl rfl rfl rfl ?_
  exact run_ret (mp [(0, 2), (1, 50)]) _ Try.func34 ⟨_, _, rfl, rfl, rfl⟩ rfl trivial ⟨rfl, rfl, trivial⟩ rfl
theorem nodes_take {xs : List Ac} {i : Nat} (h : i < xs.length) : nodesM (xs.take (i + 1)) = actM (nodesM (xs.take i)) xs[i] := by
  rw [List.take_add_one, List.getElem?_eq_getElem h, nodesM, nodesM, List.foldl_append]
  rfl
set_option maxHeartbeats 4000000 in
theorem made5 {xs : List Ac} (hl : xs.length ≤ 300) (hx : ∀ x ∈ xs, AcOk x) : Fun Try.prog 52 [.sem (listS acE xs)] [] (forA (nodesM xs)) [] := by
  refine fun_intro 62 Try.func52 rfl rfl rfl (fun ι F S w => ?_)
  (repeat (first | (apply v_assign; exact rfl; exact rfl) | refine run_seq ?_ | refine run_region ?_ | refine runL_nil ?_))
  refine v_cR (mp [(0, 100), (1, 101)]) new_f rfl (cbA rfl) trivial rfl rfl rfl rfl rfl rfl rfl rfl rfl ?_
  (repeat (first | (apply v_assign; exact rfl; exact rfl) | refine run_seq ?_ | refine run_region ?_ | refine runL_nil ?_ | refine run_block ?_))
  refine v_loop (fun i : Nat => ⟨[(0, .sem (listS acE xs)), (3, .ptr 100 0), (4, .v (.int .i64 i))], [(100, .box 53 [.res 101]), (101, .obj (ownS 33 nodeE (nodesM (xs.take i))))]⟩) (fun i => i ≤ xs.length) (fun i => xs.length - i) 0 idN trivial (by repeat (first | exact trivial | refine ⟨rfl, ?_⟩)) (by repeat (first | exact trivial | refine ⟨rfl, ?_⟩)) rfl (by omega) fun i hi ih => ?_
  have hw : WF (nodesM (xs.take i)) := wf_nodes fun x h => hx x (List.mem_of_mem_take h)
  by_cases hlt : i < xs.length
  · have hx2 : xs[((i : Int)).toNat]? = some xs[i] := by simp [hlt]
    have hok := hx _ (List.getElem_mem hlt)
    have hlen := hw.len
    (repeat (first | (apply v_move; exact rfl; exact rfl) | refine run_seq ?_ | refine run_region ?_ | (apply v_lss; exact rfl; exact rfl; exact rfl) | (apply v_lenL; exact slA rfl; exact rfl; exact rfl)))
    refine v_is 11 true rfl (by simpa using hlt) ?_
    (repeat (first | (apply v_move; exact rfl; exact rfl) | refine runL_nil ?_ | (apply v_on; exact rfl) | (apply v_pick_t; exact rfl; exact rfl; exact rfl) | (apply v_lss; exact rfl; exact rfl; exact rfl)))
    refine run_condY rfl (by simp; omega) ?_
    (repeat (first | (apply v_idxL; exact slA rfl; exact tyA rfl; exact rfl; exact rfl; exact rfl; exact rfl; exact (by omega); (first | exact hx2); exact rfl) | (apply v_move; exact rfl; exact rfl) | (apply v_assign; exact rfl; exact rfl) | refine run_seq ?_ | refine run_region ?_ | refine runL_nil ?_ | refine run_skip ?_ | refine run_block ?_ | (apply v_fldP; exact flA rfl; exact rfl; exact rfl; exact rfl) | (apply v_loadB; exact tyA rfl; exact rfl; exact rfl; exact rfl; exact rfl; exact rfl; exact rfl) | (apply v_loadA; exact tyA rfl; exact rfl; exact rfl; exact rfl; exact rfl; exact rfl; exact rfl) | (apply v_eql; exact rfl; exact rfl; exact rfl) | (apply v_allocD; exact tyA rfl; exact rfl; exact rfl; exact rfl; exact rfl) | (apply v_storeW; exact tyA rfl; exact rfl; exact rfl; exact rfl; exact rfl; exact rfl; exact rfl; exact rfl)))
    refine run_cond rfl (fun h => ?_) (fun h => ?_)
    · have hk : xs[i].kind = 0 := by simpa using h
      have hstep : nodesM (xs.take (i + 1)) = (makeM (nodesM (xs.take i)) xs[i].n).1 := by rw [nodes_take hlt, actM]; rw [if_pos hk]
      (repeat (first | (apply v_move; exact rfl; exact rfl) | refine run_region ?_ | (apply v_fldP; exact flA rfl; exact rfl; exact rfl; exact rfl) | (apply v_loadB; exact tyA rfl; exact rfl; exact rfl; exact rfl; exact rfl; exact rfl; exact rfl)))
      refine v_cR (mp [(0, 100), (1, 101), (2, 102)]) (make_f hok.name hok.want hlen) rfl (cbA rfl) ⟨rfl, rfl, trivial⟩ (by kernel_rfl) (by kernel_rfl) (by kernel_rfl) (by kernel_rfl) (by kernel_rfl) (by kernel_rfl) (by kernel_rfl) (by kernel_rfl) rfl ?_
      (repeat (first | (apply v_move; exact rfl; exact rfl) | (apply v_assign; exact rfl; exact rfl) | refine run_region ?_ | refine runL_nil ?_ | refine run_inBlock ?_ | (apply v_add; exact rfl; exact rfl; exact rfl; exact (by omega))))
      exact v_again ih (i + 1) (mp [(101, 102)]) trivial (by repeat (first | exact trivial | refine ⟨rfl, ?_⟩)) ⟨rfl, by rw [hstep]; rfl, trivial⟩ rfl (by omega) (by omega)
    have hk0 : ¬ xs[i].kind = 0 := by simpa using h
    clear h
    (repeat (first | (apply v_assign; exact rfl; exact rfl) | refine run_seq ?_ | refine run_region ?_ | refine runL_nil ?_ | (apply v_eql; exact rfl; exact rfl; exact rfl)))
    refine run_cond rfl (fun h => ?_) (fun h => ?_)
    · have hk : xs[i].kind = 1 := by simpa using h
      have hstep : nodesM (xs.take (i + 1)) = (putM (nodesM (xs.take i)) xs[i].a xs[i].l).1 := by rw [nodes_take hlt, actM]; rw [if_neg (show ¬ xs[i].kind = 0 by omega)]; rw [if_pos hk]
      (repeat (first | (apply v_move; exact rfl; exact rfl) | refine run_region ?_ | (apply v_fldP; exact flA rfl; exact rfl; exact rfl; exact rfl) | (apply v_loadB; exact tyA rfl; exact rfl; exact rfl; exact rfl; exact rfl; exact rfl; exact rfl)))
      refine v_cR (mp [(0, 100), (1, 101), (2, 102)]) (put_f hw.ups xs[i].a xs[i].l (by omega) hok.l (kids_ok hw _)) rfl (cbA rfl) ⟨rfl, rfl, trivial⟩ (by kernel_rfl) (by kernel_rfl) (by kernel_rfl) (by kernel_rfl) (by kernel_rfl) (by kernel_rfl) (by kernel_rfl) (by kernel_rfl) rfl ?_
      (repeat (first | (apply v_move; exact rfl; exact rfl) | (apply v_assign; exact rfl; exact rfl) | refine run_region ?_ | refine runL_nil ?_ | refine run_inBlock ?_ | (apply v_add; exact rfl; exact rfl; exact rfl; exact (by omega))))
      exact v_again ih (i + 1) (mp [(101, 102)]) trivial (by repeat (first | exact trivial | refine ⟨rfl, ?_⟩)) ⟨rfl, by rw [hstep]; rfl, trivial⟩ rfl (by omega) (by omega)
    have hk1 : ¬ xs[i].kind = 1 := by simpa using h
    clear h
    (repeat (first | (apply v_assign; exact rfl; exact rfl) | refine run_seq ?_ | refine run_region ?_ | refine runL_nil ?_ | (apply v_eql; exact rfl; exact rfl; exact rfl)))
    refine run_cond rfl (fun h => ?_) (fun h => ?_)
    · have hk : xs[i].kind = 2 := by simpa using h
      have hstep : nodesM (xs.take (i + 1)) = (tieM (nodesM (xs.take i)) xs[i].a xs[i].b).1 := by rw [nodes_take hlt, actM]; rw [if_neg (show ¬ xs[i].kind = 0 by omega)]; rw [if_neg (show ¬ xs[i].kind = 1 by omega)]; rw [if_pos hk]
      (repeat (first | (apply v_move; exact rfl; exact rfl) | refine run_region ?_ | (apply v_fldP; exact flA rfl; exact rfl; exact rfl; exact rfl) | (apply v_loadB; exact tyA rfl; exact rfl; exact rfl; exact rfl; exact rfl; exact rfl; exact rfl)))
      refine v_cR (mp [(0, 100), (1, 101), (2, 102)]) (tie_f hw.ups xs[i].a xs[i].b (by omega)) rfl (cbA rfl) ⟨rfl, rfl, trivial⟩ (by kernel_rfl) (by kernel_rfl) (by kernel_rfl) (by kernel_rfl) (by kernel_rfl) (by kernel_rfl) (by kernel_rfl) (by kernel_rfl) rfl ?_
      (repeat (first | (apply v_move; exact rfl; exact rfl) | (apply v_assign; exact rfl; exact rfl) | refine run_region ?_ | refine runL_nil ?_ | refine run_inBlock ?_ | (apply v_add; exact rfl; exact rfl; exact rfl; exact (by omega))))
      exact v_again ih (i + 1) (mp [(101, 102)]) trivial (by repeat (first | exact trivial | refine ⟨rfl, ?_⟩)) ⟨rfl, by rw [hstep]; rfl, trivial⟩ rfl (by omega) (by omega)
    have hk2 : ¬ xs[i].kind = 2 := by simpa using h
    clear h
    (repeat (first | (apply v_assign; exact rfl; exact rfl) | refine run_seq ?_ | refine run_region ?_ | refine runL_nil ?_ | (apply v_eql; exact rfl; exact rfl; exact rfl)))
    refine run_cond rfl (fun h => ?_) (fun h => ?_)
    · have hk : xs[i].kind = 3 := by simpa using h
      have hstep : nodesM (xs.take (i + 1)) = (nameM (nodesM (xs.take i)) xs[i].a xs[i].s).1 := by rw [nodes_take hlt, actM]; rw [if_neg (show ¬ xs[i].kind = 0 by omega)]; rw [if_neg (show ¬ xs[i].kind = 1 by omega)]; rw [if_neg (show ¬ xs[i].kind = 2 by omega)]; rw [if_pos hk]
      (repeat (first | (apply v_move; exact rfl; exact rfl) | refine run_region ?_ | (apply v_fldP; exact flA rfl; exact rfl; exact rfl; exact rfl) | (apply v_loadB; exact tyA rfl; exact rfl; exact rfl; exact rfl; exact rfl; exact rfl; exact rfl)))
      refine v_cR (mp [(0, 100), (1, 101), (2, 102)]) (name_f xs[i].a hok.s (by omega)) rfl (cbA rfl) ⟨rfl, rfl, trivial⟩ (by kernel_rfl) (by kernel_rfl) (by kernel_rfl) (by kernel_rfl) (by kernel_rfl) (by kernel_rfl) (by kernel_rfl) (by kernel_rfl) rfl ?_
      (repeat (first | (apply v_move; exact rfl; exact rfl) | (apply v_assign; exact rfl; exact rfl) | refine run_region ?_ | refine runL_nil ?_ | refine run_inBlock ?_ | (apply v_add; exact rfl; exact rfl; exact rfl; exact (by omega))))
      exact v_again ih (i + 1) (mp [(101, 102)]) trivial (by repeat (first | exact trivial | refine ⟨rfl, ?_⟩)) ⟨rfl, by rw [hstep]; rfl, trivial⟩ rfl (by omega) (by omega)
    have hk3 : ¬ xs[i].kind = 3 := by simpa using h
    clear h
    (repeat (first | (apply v_assign; exact rfl; exact rfl) | refine run_seq ?_ | refine run_region ?_ | refine runL_nil ?_ | (apply v_eql; exact rfl; exact rfl; exact rfl)))
    refine run_cond rfl (fun h => ?_) (fun h => ?_)
    · have hk : xs[i].kind = 4 := by simpa using h
      have hstep : nodesM (xs.take (i + 1)) = (wantM (nodesM (xs.take i)) xs[i].a xs[i].s).1 := by rw [nodes_take hlt, actM]; rw [if_neg (show ¬ xs[i].kind = 0 by omega)]; rw [if_neg (show ¬ xs[i].kind = 1 by omega)]; rw [if_neg (show ¬ xs[i].kind = 2 by omega)]; rw [if_neg (show ¬ xs[i].kind = 3 by omega)]; rw [if_pos hk]
      (repeat (first | (apply v_move; exact rfl; exact rfl) | refine run_region ?_ | (apply v_fldP; exact flA rfl; exact rfl; exact rfl; exact rfl) | (apply v_loadB; exact tyA rfl; exact rfl; exact rfl; exact rfl; exact rfl; exact rfl; exact rfl)))
      refine v_cR (mp [(0, 100), (1, 101), (2, 102)]) (want_f xs[i].a hok.s (by omega)) rfl (cbA rfl) ⟨rfl, rfl, trivial⟩ (by kernel_rfl) (by kernel_rfl) (by kernel_rfl) (by kernel_rfl) (by kernel_rfl) (by kernel_rfl) (by kernel_rfl) (by kernel_rfl) rfl ?_
      (repeat (first | (apply v_move; exact rfl; exact rfl) | (apply v_assign; exact rfl; exact rfl) | refine run_region ?_ | refine runL_nil ?_ | refine run_inBlock ?_ | (apply v_add; exact rfl; exact rfl; exact rfl; exact (by omega))))
      exact v_again ih (i + 1) (mp [(101, 102)]) trivial (by repeat (first | exact trivial | refine ⟨rfl, ?_⟩)) ⟨rfl, by rw [hstep]; rfl, trivial⟩ rfl (by omega) (by omega)
    have hk4 : ¬ xs[i].kind = 4 := by simpa using h
    clear h
    (repeat (first | (apply v_move; exact rfl; exact rfl) | (apply v_assign; exact rfl; exact rfl) | refine run_region ?_ | refine runL_nil ?_ | refine run_skip ?_ | refine run_inBlock ?_ | (apply v_add; exact rfl; exact rfl; exact rfl; exact (by omega))))
    have hstep : nodesM (xs.take (i + 1)) = nodesM (xs.take i) := by rw [nodes_take hlt, actM, if_neg hk0, if_neg hk1, if_neg hk2, if_neg hk3, if_neg hk4]
    exact v_again ih (i + 1) idN trivial (by repeat (first | exact trivial | refine ⟨rfl, ?_⟩)) ⟨rfl, by rw [hstep]; rfl, trivial⟩ rfl (by omega) (by omega)
  · have hge : i = xs.length := by omega
    (repeat (first | (apply v_move; exact rfl; exact rfl) | refine run_seq ?_ | refine run_region ?_ | (apply v_lss; exact rfl; exact rfl; exact rfl) | (apply v_lenL; exact slA rfl; exact rfl; exact rfl)))
    refine v_is 11 false rfl (by simpa using hlt) ?_
    (repeat (first | (apply v_move; exact rfl; exact rfl) | (apply v_assign; exact rfl; exact rfl) | refine run_seq ?_ | refine run_region ?_ | refine runL_nil ?_ | (apply run_exit; exact rfl) | (apply v_off; exact rfl; exact rfl) | (apply v_pick_f; exact rfl; exact rfl; exact rfl) | (apply run_cond; exact rfl; (focus (intro hb; cases hb; done)); intro hb; clear hb)))
    refine run_freezeIn 100 101 rfl rfl rfl ?_
    refine run_pub 2 100 rfl rfl rfl ?_
    exact run_ret idN _ Try.func52 ⟨_, _, rfl, rfl, rfl⟩ (by rw [hge, List.take_length]; rfl) trivial trivial rfl
end Go.Proofs.Ytjkidecaciomgaa
