/- valid: Host, document, Check; the reference 06. -/
import Derived.Test.YtjkidecaciomgaaVa1
import Derived.Test.YtjkidecaciomgaaBC
namespace Go.Proofs.Ytjkidecaciomgaa
set_option linter.unusedVariables false
set_option linter.unusedSimpArgs false
set_option maxRecDepth 100000
open Go.RowKit

theorem vhost_f {l : List Nd} (h : WF l) (a b : Int) : Fun Try.prog 86 [forA l, .v (.int .i64 a), .v (.int .i64 b)] [] (.v (.bool (decide (a ∈ ch l upX b)))) [] := by
  have hlen := h.len
  refine fun_intro 38 Try.func86 rfl rfl rfl (fun ι F S w => ?_)
  (repeat (first | (apply v_assign; exact rfl; exact rfl) | refine run_seq ?_ | refine run_region ?_ | refine runL_nil ?_))
  refine v_makeMap rfl rfl rfl rfl ?_
  (repeat (first | (apply v_assign; exact rfl; exact rfl) | refine run_seq ?_ | refine runL_nil ?_ | refine run_block ?_))
  refine v_loop (fun q : Int × List Int => ⟨[(0, forA l), (1, .v (.int .i64 a)), (2, .v (.int .i64 q.1)), (7, .res 10)], [(10, .obj (mapS q.2))]⟩) (fun q => (a ∈ ch l upX q.1 ↔ a ∈ ch l upX b) ∧ ∀ m ∈ q.2, (ch l upX q.1).length < (ch l upX m).length) (fun q => (ch l upX q.1).length) (b, []) idN trivial (by repeat (first | exact trivial | refine ⟨rfl, ?_⟩)) (by repeat (first | exact trivial | refine ⟨rfl, ?_⟩)) rfl ⟨Iff.rfl, fun m hm => by cases hm⟩ fun ⟨c, M⟩ ⟨hc, hM⟩ ih => ?_
  dsimp only at hc hM ⊢
  have hnc : c ∉ M := fun e => by have := hM c e; omega
  (repeat (first | (apply v_move; exact rfl; exact rfl) | refine run_seq ?_ | refine run_region ?_))
  refine v_lookup (kt := 3) (et := 4) (by kernel_rfl) Try.underlying3 (by kernel_rfl) rfl rfl rfl rfl ?_
  (repeat (first | refine runL_nil ?_ | (apply v_not; exact rfl; exact rfl)))
  refine run_condY rfl (by simpa using hnc) ?_
  have hab := above_k h a c
  by_cases hm : a ∈ ch l Nd.parent c
  · have hd : decide (a ∈ ch l upX b) = true := decide_eq_true (hc.1 (par_up h hm))
    rw [decide_eq_true hm] at hab
    rw [hd]
    (repeat (first | (apply v_cx; exact rfl; exact cbA rfl; (first | exact hab); exact rfl; exact rfl) | (apply v_move; exact rfl; exact rfl) | (apply v_assign; exact rfl; exact rfl) | refine run_seq ?_ | refine run_region ?_ | refine runL_nil ?_ | refine run_skip ?_ | refine run_block ?_ | (apply run_cond; exact rfl; rotate_left; (focus (intro hb; cases hb; done)); intro hb; clear hb)))
    exact run_ret idN _ Try.func86 ⟨_, _, rfl, rfl, rfl⟩ rfl trivial trivial rfl
  · rw [decide_eq_false hm] at hab
    have hrt := root_f h c
    have hsp := up_split h c
    cases hx : nodeAt l c with
    | none =>
      have hd : decide (a ∈ ch l upX b) = false := decide_eq_false fun e => by
        have := hc.2 e
        rw [ch_none hx] at this
        cases this
      rw [root_none h hx] at hrt
      rw [hd]
      (repeat (first | (apply v_cx; exact rfl; exact cbA rfl; (first | exact hab); exact rfl; exact rfl) | (apply v_move; exact rfl; exact rfl) | refine run_seq ?_ | refine run_region ?_ | refine runL_nil ?_ | refine run_skip ?_ | refine run_block ?_ | (apply run_cond; exact rfl; (focus (intro hb; cases hb; done)); intro hb; clear hb)))
      refine v_mapUpdate (kt := 3) (et := 4) (by kernel_rfl) Try.underlying3 rfl rfl rfl rfl ?_
      (repeat (first | (apply v_cx; exact rfl; exact cbA rfl; (first | exact hrt | exact node_n h nodeAt_zero); exact rfl; exact rfl) | (apply v_move; exact rfl; exact rfl) | (apply v_assign; exact rfl; exact rfl) | refine run_seq ?_ | refine run_region ?_ | refine runL_nil ?_ | (apply v_extract; exact rfl; exact rfl; exact rfl) | (apply v_off; exact rfl; exact rfl) | (apply v_pick_t; exact rfl; exact rfl; exact rfl) | (apply run_cond; exact rfl; rotate_left; (focus (intro hb; cases hb; done)); intro hb; clear hb) | (apply v_not; exact rfl; exact rfl) | (apply v_allocD; exact tyA rfl; exact rfl; exact rfl; exact rfl; exact rfl) | (apply v_storeW; exact tyA rfl; exact rfl; exact rfl; exact rfl; exact rfl; exact rfl; exact rfl; exact rfl)))
      exact run_ret idN _ Try.func86 ⟨_, _, rfl, rfl, rfl⟩ rfl trivial trivial rfl
    | some x =>
      obtain ⟨r, hr, _⟩ := root_some h hx
      have hhr : hostM l c = r.host := by rw [hostM, nodeR_some hr]
      have hlt := host_lt h hx
      rw [hhr] at hsp hlt
      have hiff : a ∈ ch l upX r.host ↔ a ∈ ch l upX c := by
        rw [hsp, List.mem_append]
        exact ⟨fun e => .inr e, fun e => e.resolve_left hm⟩
      (repeat (first | (apply v_cx; exact rfl; exact cbA rfl; (first | exact hab); exact rfl; exact rfl) | (apply v_move; exact rfl; exact rfl) | refine run_seq ?_ | refine run_region ?_ | refine runL_nil ?_ | refine run_skip ?_ | refine run_block ?_ | (apply run_cond; exact rfl; (focus (intro hb; cases hb; done)); intro hb; clear hb)))
      refine v_mapUpdate (kt := 3) (et := 4) (by kernel_rfl) Try.underlying3 rfl rfl rfl rfl ?_
      (repeat (first | (apply v_cx; exact rfl; exact cbA rfl; (first | exact hrt | exact node_s h hr); exact rfl; exact rfl) | (apply v_move; exact rfl; exact rfl) | (apply v_assign; exact rfl; exact rfl) | refine run_seq ?_ | refine run_region ?_ | refine runL_nil ?_ | (apply v_extract; exact rfl; exact rfl; exact rfl) | (apply v_fldP; exact flA rfl; exact rfl; exact rfl; exact rfl) | (apply v_loadB; exact tyA rfl; exact rfl; exact rfl; exact rfl; exact rfl; exact rfl; exact rfl) | (apply v_on; exact rfl) | (apply v_pick_f; exact rfl; exact rfl; exact rfl) | (apply v_not; exact rfl; exact rfl) | (apply v_eql; exact rfl; exact rfl; exact rfl) | (apply v_allocD; exact tyA rfl; exact rfl; exact rfl; exact rfl; exact rfl) | (apply v_storeW; exact tyA rfl; exact rfl; exact rfl; exact rfl; exact rfl; exact rfl; exact rfl; exact rfl)))
      refine run_cond rfl (fun hb => ?_) (fun hb => ?_)
      · have h0 : r.host = 0 := by simpa using hb
        have hd : decide (a ∈ ch l upX b) = false := decide_eq_false fun e => by
          have := hiff.2 (hc.2 e)
          rw [h0, ch_none nodeAt_zero] at this
          cases this
        rw [hd]
        (repeat (first | (apply v_assign; exact rfl; exact rfl) | refine run_seq ?_ | refine run_region ?_ | refine runL_nil ?_))
        exact run_ret idN _ Try.func86 ⟨_, _, rfl, rfl, rfl⟩ rfl trivial trivial rfl
      · (repeat (first | (apply v_assign; exact rfl; exact rfl) | refine run_region ?_ | refine runL_nil ?_ | refine run_skip ?_ | refine run_inBlock ?_ | (apply v_fldP; exact flA rfl; exact rfl; exact rfl; exact rfl) | (apply v_loadB; exact tyA rfl; exact rfl; exact rfl; exact rfl; exact rfl; exact rfl; exact rfl)))
        exact v_again ih (r.host, c :: M) idN trivial (by repeat (first | exact trivial | refine ⟨rfl, ?_⟩)) ⟨rfl, trivial⟩ rfl ⟨hiff.trans hc, fun m hm => by
          dsimp only at hm ⊢
          rcases List.mem_cons.1 hm with rfl | hm
          · exact hlt
          · have := hM m hm; omega⟩ hlt
def docB (l : List Nd) (kind node parent : Int) : Bool :=
  if kind = 2 then decide (cntM l parent 2 = 0)
  else if kind = 4 then decide (cntM l node 2 = 0) || (decide (cntM l node 2 = 1) && decide (cntM l parent 2 = 0))
  else true
theorem cnt_le {l : List Nd} (h : WF l) (id kind : Int) : cntM l id kind ≤ 1000000 := by
  rw [cnt_eq h, cnt5M]
  split
  · have := h.len
    exact Nat.le_trans (List.length_filter_le _ _) (by omega)
  · omega
theorem document_f {l : List Nd} (h : WF l) (x : Nd) (node parent : Int) : Fun Try.prog 154 [forA l, .agg (nodeL x), .v (.int .i64 node), .v (.int .i64 parent)] [] (.v (.bool (docB l x.kind node parent))) [] := by
  have hp := count_f h parent 2
  have hn := count_f h node 2
  have hd : docB l x.kind node parent = if x.kind = 2 then decide (cntM l parent 2 = 0)
    else if x.kind = 4 then decide (cntM l node 2 = 0) || (decide (cntM l node 2 = 1) && decide (cntM l parent 2 = 0))
    else true := rfl
  generalize cntM l parent 2 = cp at *
  generalize cntM l node 2 = cn at *
  by_cases h2 : x.kind = 2
  · rw [hd, if_pos h2]
    refine fun_intro 31 Try.func154 rfl rfl rfl (fun ι F S w => ?_)
    (repeat (first | (apply v_assign; exact rfl; exact rfl) | refine run_seq ?_ | refine run_region ?_ | refine runL_nil ?_ | refine run_block ?_ | (apply v_fldP; exact flA rfl; exact rfl; exact rfl; exact rfl) | (apply v_loadB; exact tyA rfl; exact rfl; exact rfl; exact rfl; exact rfl; exact rfl; exact rfl) | (apply v_eql; exact rfl; exact rfl; exact rfl) | (apply v_boxD; exact rfl; exact rfl; exact rfl; exact rfl; exact rfl; exact rfl; exact rfl)))
    refine run_condY rfl (by simpa using h2) ?_
    (repeat (first | (apply v_cx; exact rfl; exact cbA rfl; (first | exact hp); exact rfl; exact rfl) | (apply v_move; exact rfl; exact rfl) | (apply v_assign; exact rfl; exact rfl) | refine run_seq ?_ | refine run_region ?_ | refine runL_nil ?_ | refine run_inBlock ?_ | (apply v_on; exact rfl) | (apply v_pick_t; exact rfl; exact rfl; exact rfl) | (apply v_pick_f; exact rfl; exact rfl; exact rfl) | (apply v_eql; exact rfl; exact rfl; exact rfl)))
    exact run_ret idN _ Try.func154 ⟨_, _, rfl, rfl, rfl⟩ (by simp [AV.ren, oneA]; rw [Bool.eq_iff_iff]; simp) trivial trivial rfl
  · rw [hd, if_neg h2]
    by_cases h4 : x.kind = 4
    · rw [if_pos h4]
      refine fun_intro 31 Try.func154 rfl rfl rfl (fun ι F S w => ?_)
      (repeat (first | (apply v_assign; exact rfl; exact rfl) | refine run_seq ?_ | refine run_region ?_ | refine runL_nil ?_ | refine run_block ?_ | (apply v_fldP; exact flA rfl; exact rfl; exact rfl; exact rfl) | (apply v_loadB; exact tyA rfl; exact rfl; exact rfl; exact rfl; exact rfl; exact rfl; exact rfl) | (apply v_eql; exact rfl; exact rfl; exact rfl) | (apply v_boxD; exact rfl; exact rfl; exact rfl; exact rfl; exact rfl; exact rfl; exact rfl)))
      refine run_condN rfl (by simpa using h2) ?_
      (repeat (first | (apply v_assign; exact rfl; exact rfl) | refine run_seq ?_ | refine run_region ?_ | refine runL_nil ?_ | (apply v_eql; exact rfl; exact rfl; exact rfl)))
      refine run_condY rfl (by simpa using h4) ?_
      (repeat (first | (apply v_cx; exact rfl; exact cbA rfl; (first | exact hn); exact rfl; exact rfl) | (apply v_move; exact rfl; exact rfl) | (apply v_assign; exact rfl; exact rfl) | refine run_seq ?_ | refine run_region ?_ | refine runL_nil ?_ | refine run_inBlock ?_ | (apply v_eql; exact rfl; exact rfl; exact rfl)))
      by_cases e0 : cn = 0
      · refine v_is 21 true rfl (by simpa using e0) ?_
        (repeat (first | (apply v_assign; exact rfl; exact rfl) | refine runL_nil ?_ | (apply v_off; exact rfl; exact rfl) | (apply v_pick_t; exact rfl; exact rfl; exact rfl)))
        exact run_ret idN _ Try.func154 ⟨_, _, rfl, rfl, rfl⟩ (by simp [AV.ren, oneA, e0]) trivial trivial rfl
      · refine v_is 21 false rfl (by simpa using e0) ?_
        (repeat (first | (apply v_move; exact rfl; exact rfl) | (apply v_on; exact rfl) | (apply v_eql; exact rfl; exact rfl; exact rfl)))
        by_cases e1 : cn = 1
        · refine v_is 24 true rfl (by simp; omega) ?_
          (repeat (first | (apply v_cx; exact rfl; exact cbA rfl; (first | exact hp); exact rfl; exact rfl) | (apply v_move; exact rfl; exact rfl) | (apply v_assign; exact rfl; exact rfl) | refine runL_nil ?_ | (apply v_on; exact rfl) | (apply v_pick_t; exact rfl; exact rfl; exact rfl) | (apply v_pick_f; exact rfl; exact rfl; exact rfl) | (apply v_eql; exact rfl; exact rfl; exact rfl)))
          exact run_ret idN _ Try.func154 ⟨_, _, rfl, rfl, rfl⟩ (by simp [AV.ren, oneA, e0, e1]; rw [Bool.eq_iff_iff]; simp) trivial trivial rfl
        · refine v_is 24 false rfl (by simp; omega) ?_
          (repeat (first | (apply v_assign; exact rfl; exact rfl) | refine runL_nil ?_ | (apply v_on; exact rfl) | (apply v_off; exact rfl; exact rfl) | (apply v_pick_f; exact rfl; exact rfl; exact rfl)))
          exact run_ret idN _ Try.func154 ⟨_, _, rfl, rfl, rfl⟩ (by simp [AV.ren, oneA, e0, e1]) trivial trivial rfl
    · rw [if_neg h4]
      refine fun_intro 31 Try.func154 rfl rfl rfl (fun ι F S w => ?_)
      (repeat (first | (apply v_assign; exact rfl; exact rfl) | refine run_seq ?_ | refine run_region ?_ | refine runL_nil ?_ | refine run_block ?_ | (apply v_fldP; exact flA rfl; exact rfl; exact rfl; exact rfl) | (apply v_loadB; exact tyA rfl; exact rfl; exact rfl; exact rfl; exact rfl; exact rfl; exact rfl) | (apply v_eql; exact rfl; exact rfl; exact rfl) | (apply v_boxD; exact rfl; exact rfl; exact rfl; exact rfl; exact rfl; exact rfl; exact rfl)))
      refine run_condN rfl (by simpa using h2) ?_
      (repeat (first | (apply v_assign; exact rfl; exact rfl) | refine run_seq ?_ | refine run_region ?_ | refine runL_nil ?_ | (apply v_eql; exact rfl; exact rfl; exact rfl)))
      refine run_condN rfl (by simpa using h4) ?_
      (repeat (first | (apply v_move; exact rfl; exact rfl) | (apply v_assign; exact rfl; exact rfl) | refine run_seq ?_ | refine run_region ?_ | refine runL_nil ?_ | refine run_skip ?_ | refine run_inBlock ?_ | (apply v_off; exact rfl; exact rfl) | (apply v_pick_t; exact rfl; exact rfl; exact rfl) | (apply v_eql; exact rfl; exact rfl; exact rfl)))
      exact run_ret idN _ Try.func154 ⟨_, _, rfl, rfl, rfl⟩ rfl trivial trivial rfl
def checkM (l : List Nd) (node parent child : Int) : Int :=
  match nodeAt l node, nodeAt l parent with
  | some n, some p =>
    match nodeAt l child with
    | none => if child ≠ 0 then 1 else if decide (node ∈ ch l upX parent) = true then 3 else if n.kind = 1 ∨ n.kind = 3 then 3 else if p.kind = 1 ∧ docB l n.kind node parent = false then 3 else 0
    | some c => if decide (node ∈ ch l upX parent) = true then 3 else if c.parent ≠ parent then 4 else if n.kind = 1 ∨ n.kind = 3 then 3 else if p.kind = 1 ∧ docB l n.kind node parent = false then 3 else 0
  | _, _ => 1
theorem check_f {l : List Nd} (h : WF l) (node parent child : Int) : Fun Try.prog 85 [forA l, .v (.int .i64 node), .v (.int .i64 parent), .v (.int .i64 child)] [] (.v (.int .i64 (checkM l node parent child))) [] := by
  have hho := vhost_f h node parent
  generalize hR : checkM l node parent child = R
  cases hn : nodeAt l node with
  | none =>
    obtain rfl : R = 1 := by rw [← hR]; simp [checkM, hn]
    have hp := node_w h parent
    have hc := node_w h child
    refine fun_intro 82 Try.func85 rfl rfl rfl (fun ι F S w => ?_)
    (repeat (first | (apply v_cx; exact rfl; exact cbA rfl; (first | exact node_n h hn | exact hp | exact hc); exact rfl; exact rfl) | (apply v_move; exact rfl; exact rfl) | (apply v_assign; exact rfl; exact rfl) | refine run_seq ?_ | refine run_region ?_ | refine runL_nil ?_ | refine run_block ?_ | (apply v_extract; exact rfl; exact rfl; exact rfl) | (apply v_off; exact rfl; exact rfl) | (apply v_pick_t; exact rfl; exact rfl; exact rfl) | (apply run_cond; exact rfl; rotate_left; (focus (intro hb; cases hb; done)); intro hb; clear hb) | (apply v_not; exact rfl; exact rfl) | (apply v_allocD; exact tyA rfl; exact rfl; exact rfl; exact rfl; exact rfl) | (apply v_storeW; exact tyA rfl; exact rfl; exact rfl; exact rfl; exact rfl; exact rfl; exact rfl; exact rfl)))
    exact run_ret idN _ Try.func85 ⟨_, _, rfl, rfl, rfl⟩ rfl trivial trivial rfl
  | some n =>
    cases hp : nodeAt l parent with
    | none =>
      obtain rfl : R = 1 := by rw [← hR]; simp [checkM, hn, hp]
      have hc := node_w h child
      refine fun_intro 82 Try.func85 rfl rfl rfl (fun ι F S w => ?_)
      (repeat (first | (apply v_cx; exact rfl; exact cbA rfl; (first | exact node_s h hn | exact node_n h hp | exact hc); exact rfl; exact rfl) | (apply v_move; exact rfl; exact rfl) | (apply v_assign; exact rfl; exact rfl) | refine run_seq ?_ | refine run_region ?_ | refine runL_nil ?_ | refine run_block ?_ | (apply v_extract; exact rfl; exact rfl; exact rfl) | (apply v_on; exact rfl) | (apply v_off; exact rfl; exact rfl) | (apply v_pick_t; exact rfl; exact rfl; exact rfl) | (apply v_pick_f; exact rfl; exact rfl; exact rfl) | (apply run_cond; exact rfl; rotate_left; (focus (intro hb; cases hb; done)); intro hb; clear hb) | (apply v_not; exact rfl; exact rfl) | (apply v_allocD; exact tyA rfl; exact rfl; exact rfl; exact rfl; exact rfl) | (apply v_storeW; exact tyA rfl; exact rfl; exact rfl; exact rfl; exact rfl; exact rfl; exact rfl; exact rfl)))
      exact run_ret idN _ Try.func85 ⟨_, _, rfl, rfl, rfl⟩ rfl trivial trivial rfl
    | some p =>
      have hdo := document_f h n node parent
      generalize hdb : docB l n.kind node parent = db at *
      cases hc : nodeAt l child with
      | none =>
        have hR2 : R = if child ≠ 0 then 1 else if decide (node ∈ ch l upX parent) = true then 3 else if n.kind = 1 ∨ n.kind = 3 then 3 else if p.kind = 1 ∧ db = false then 3 else 0 := by
          rw [← hR]; simp only [checkM, hn, hp, hc, hdb]
        generalize decide (node ∈ ch l upX parent) = hb0 at *
        clear hR
        refine fun_intro 82 Try.func85 rfl rfl rfl (fun ι F S w => ?_)
        (repeat' (first | (apply v_cx; exact rfl; exact cbA rfl; (first | exact node_s h hn | exact node_s h hp | exact node_n h hc | exact hho | exact hdo); exact rfl; exact rfl) | (apply v_move; exact rfl; exact rfl) | (apply v_assign; exact rfl; exact rfl) | refine run_seq ?_ | refine run_region ?_ | refine runL_nil ?_ | refine run_skip ?_ | refine run_block ?_ | refine run_inBlock ?_ | (apply v_extract; exact rfl; exact rfl; exact rfl) | (apply v_fldP; exact flA rfl; exact rfl; exact rfl; exact rfl) | (apply v_loadB; exact tyA rfl; exact rfl; exact rfl; exact rfl; exact rfl; exact rfl; exact rfl) | (apply v_on; exact rfl) | (apply v_off; exact rfl; exact rfl) | (apply v_pick_t; exact rfl; exact rfl; exact rfl) | (apply v_pick_f; exact rfl; exact rfl; exact rfl) | (apply run_cond; exact rfl; rotate_left; (focus (intro hb; cases hb; done)); intro hb; clear hb) | (apply run_cond; exact rfl; (focus (intro hb; cases hb; done)); intro hb; clear hb) | (apply v_not; exact rfl; exact rfl) | (apply v_eql; exact rfl; exact rfl; exact rfl) | (apply v_neq; exact rfl; exact rfl; exact rfl) | (apply v_allocD; exact tyA rfl; exact rfl; exact rfl; exact rfl; exact rfl) | (apply v_storeW; exact tyA rfl; exact rfl; exact rfl; exact rfl; exact rfl; exact rfl; exact rfl; exact rfl) | (apply v_gsplit; exact rfl; exact rfl; exact rfl; all_goals intro hb) | (apply run_cond; exact rfl; all_goals intro hb)))
        all_goals exact run_ret idN _ Try.func85 ⟨_, _, rfl, rfl, rfl⟩ (by subst hR2; simp_all [AV.ren, oneA]) trivial trivial rfl
      | some c =>
        have hR2 : R = if decide (node ∈ ch l upX parent) = true then 3 else if c.parent ≠ parent then 4 else if n.kind = 1 ∨ n.kind = 3 then 3 else if p.kind = 1 ∧ db = false then 3 else 0 := by
          rw [← hR]; simp only [checkM, hn, hp, hc, hdb]
        generalize decide (node ∈ ch l upX parent) = hb0 at *
        clear hR
        refine fun_intro 82 Try.func85 rfl rfl rfl (fun ι F S w => ?_)
        (repeat' (first | (apply v_cx; exact rfl; exact cbA rfl; (first | exact node_s h hn | exact node_s h hp | exact node_s h hc | exact hho | exact hdo); exact rfl; exact rfl) | (apply v_move; exact rfl; exact rfl) | (apply v_assign; exact rfl; exact rfl) | refine run_seq ?_ | refine run_region ?_ | refine runL_nil ?_ | refine run_skip ?_ | refine run_block ?_ | refine run_inBlock ?_ | (apply v_extract; exact rfl; exact rfl; exact rfl) | (apply v_fldP; exact flA rfl; exact rfl; exact rfl; exact rfl) | (apply v_loadB; exact tyA rfl; exact rfl; exact rfl; exact rfl; exact rfl; exact rfl; exact rfl) | (apply v_on; exact rfl) | (apply v_off; exact rfl; exact rfl) | (apply v_pick_t; exact rfl; exact rfl; exact rfl) | (apply v_pick_f; exact rfl; exact rfl; exact rfl) | (apply run_cond; exact rfl; rotate_left; (focus (intro hb; cases hb; done)); intro hb; clear hb) | (apply run_cond; exact rfl; (focus (intro hb; cases hb; done)); intro hb; clear hb) | (apply v_not; exact rfl; exact rfl) | (apply v_eql; exact rfl; exact rfl; exact rfl) | (apply v_neq; exact rfl; exact rfl; exact rfl) | (apply v_allocD; exact tyA rfl; exact rfl; exact rfl; exact rfl; exact rfl) | (apply v_storeW; exact tyA rfl; exact rfl; exact rfl; exact rfl; exact rfl; exact rfl; exact rfl; exact rfl) | (apply v_gsplit; exact rfl; exact rfl; exact rfl; all_goals intro hb) | (apply run_cond; exact rfl; all_goals intro hb)))
        all_goals exact run_ret idN _ Try.func85 ⟨_, _, rfl, rfl, rfl⟩ (by subst hR2; simp_all [AV.ren, oneA]) trivial trivial rfl
end Go.Proofs.Ytjkidecaciomgaa
