/- The reference 05: Index, Next, Order. -/
import Derived.Test.YtjkidecaciomgaaVa1
import Derived.Test.YtjkidecaciomgaaVL16
import Derived.Test.YtjkidecaciomgaaFoO
namespace Go.Proofs.Ytjkidecaciomgaa
set_option linter.unusedVariables false
set_option linter.unusedSimpArgs false
set_option maxRecDepth 100000
open Go.RowKit

theorem ordN_more {l : List Nd} (h : WF l) : ∀ (n : Nat) (c : Int), 129 ≤ (ch l Nd.parent c).length + n → ordN l (n + 1) c = ordN l n c
  | 0, c, hn => by have := ch_len (desc_par h) c; have := h.len; omega
  | n + 1, c, hn => by
    have e : ∀ m, ordN l (m + 1) c = match nodeAt l c with | none => [] | some x => c :: x.kids.flatMap (ordN l m) := fun m => rfl
    rw [e, e]
    cases hx : nodeAt l c with
    | none => rfl
    | some x =>
      simp only [List.cons.injEq, true_and]
      rw [List.flatMap_def, List.flatMap_def]
      congr 1
      apply List.map_congr_left
      intro k hk
      exact ordN_more h n k (by have := kid_chain h hx hk; omega)
theorem order_step {l : List Nd} (h : WF l) {c : Int} {x : Nd} (hx : nodeAt l c = some x) : orderM l c = c :: x.kids.flatMap (orderM l) := by
  have e : orderM l c = c :: x.kids.flatMap (ordN l 128) := by rw [orderM, ordN, hx]
  rw [e, List.flatMap_def, List.flatMap_def]
  congr 2
  apply List.map_congr_left
  intro k hk
  obtain ⟨y, hy, _⟩ := h.kid hx hk
  have := par_step h hy
  exact (ordN_more h 128 k (by rw [this, List.length_cons]; omega)).symm
theorem order5 {l : List Nd} (h : WF l) (id : Int) : Fun Try.prog 64 [.sem (listS nodeE l), .v (.int .i64 id)] [] (.res 0) [(0, .obj (ownS 3 intE (orderM l id)))] := by
  have hlen := h.len
  have hol := ord_len h id
  cases hx : nodeAt l id with
  | none =>
    rw [show orderM l id = [] by rw [orderM, ordN, hx]]
    refine fun_intro 69 Try.func64 rfl rfl rfl (fun ι F S w => ?_)
    (repeat (first | (apply v_move; exact rfl; exact rfl) | (apply v_assign; exact rfl; exact rfl) | refine run_seq ?_ | refine run_region ?_ | refine runL_nil ?_))
    refine runL_own 5 5 3 intE rfl rfl rfl rfl ?_
    (repeat (first | (apply v_cx; exact rfl; exact cbA rfl; (first | exact there_n hx); exact rfl; exact rfl) | (apply v_move; exact rfl; exact rfl) | (apply v_assign; exact rfl; exact rfl) | refine run_seq ?_ | refine run_region ?_ | refine runL_nil ?_ | (apply run_cond; exact rfl; rotate_left; (focus (intro hb; cases hb; done)); intro hb; clear hb) | (apply v_not; exact rfl; exact rfl)))
    exact run_ret (mp [(0, 5)]) _ Try.func64 ⟨_, _, rfl, rfl, rfl⟩ rfl trivial ⟨rfl, trivial⟩ rfl
  | some x =>
    refine fun_intro 69 Try.func64 rfl rfl rfl (fun ι F S w => ?_)
    (repeat (first | (apply v_cx; exact rfl; exact cbA rfl; (first | exact there_s hx); exact rfl; exact rfl) | (apply v_move; exact rfl; exact rfl) | (apply v_assign; exact rfl; exact rfl) | refine run_seq ?_ | refine run_region ?_ | refine runL_nil ?_ | refine run_skip ?_ | (apply run_cond; exact rfl; (focus (intro hb; cases hb; done)); intro hb; clear hb) | (apply v_not; exact rfl; exact rfl)))
    refine v_l intE [id] (slA rfl) (tyA rfl) rfl rfl rfl rfl rfl rfl rfl rfl rfl rfl ?_
    (repeat (first | (apply v_assign; exact rfl; exact rfl) | refine run_seq ?_ | refine run_region ?_ | refine runL_nil ?_ | refine run_block ?_))
    refine run_own 5 5 3 intE rfl rfl rfl rfl ?_
    refine v_loop (fun q : Nat × List Int × List Int => ⟨[(0, .sem (listS nodeE l)), (5, .res 5), (6, .sem (listS intE q.2.2)), (7, .v (.int .i64 q.1))], [(5, .obj (ownS 3 intE q.2.1))]⟩) (fun q => q.2.1 ++ q.2.2.reverse.flatMap (orderM l) = orderM l id ∧ q.2.1.length = q.1 ∧ ∀ c ∈ q.2.2, ∃ y, nodeAt l c = some y) (fun q => (q.2.2.reverse.flatMap (orderM l)).length) (0, [], [id]) idN trivial (by repeat (first | exact trivial | refine ⟨rfl, ?_⟩)) (by repeat (first | exact trivial | refine ⟨rfl, ?_⟩)) rfl ⟨by simp, rfl, fun c hc => ⟨x, by rw [List.mem_singleton] at hc; rw [hc]; exact hx⟩⟩ fun ⟨i, out, ws⟩ ⟨hq, ho, hws⟩ ih => ?_
    dsimp only at hq ho hws ⊢
    have htot := congrArg List.length hq
    rw [List.length_append] at htot
    rcases List.eq_nil_or_concat ws with rfl | ⟨wt, c, rfl⟩
    · simp only [List.reverse_nil, List.flatMap_nil, List.append_nil] at hq
      (repeat (first | (apply v_move; exact rfl; exact rfl) | (apply v_assign; exact rfl; exact rfl) | refine run_seq ?_ | refine run_region ?_ | refine runL_nil ?_ | (apply run_exit; exact rfl) | (apply v_off; exact rfl; exact rfl) | (apply v_pick_f; exact rfl; exact rfl; exact rfl) | (apply run_cond; exact rfl; (focus (intro hb; cases hb; done)); intro hb; clear hb) | (apply v_gtr; exact rfl; exact rfl; exact rfl) | (apply v_lenL; exact slA rfl; exact rfl; exact rfl)))
      exact run_ret (mp [(0, 5)]) _ Try.func64 ⟨_, _, rfl, rfl, rfl⟩ rfl trivial ⟨by rw [← hq]; rfl, trivial⟩ rfl
    · rw [List.concat_eq_append] at *
      obtain ⟨y, hy⟩ := hws c (by simp)
      obtain ⟨y1, y2, y3⟩ := nodeAt_some hy
      have hst := order_step h hy
      have hkl : y.kids.length ≤ l.length := nodup_len l.length y.kids (h.nod hy) fun e he => nodeAt_isSome.1 ((kids_ok h c y hy).2 e he)
      have hrv : (wt ++ [c]).reverse.flatMap (orderM l) = c :: (y.kids.flatMap (orderM l) ++ wt.reverse.flatMap (orderM l)) := by
        rw [List.reverse_append, List.reverse_singleton, List.singleton_append, List.flatMap_cons, hst, List.cons_append]
      rw [hrv] at hq htot
      have hwl : (wt ++ [c]).length = wt.length + 1 := by simp
      have hsub : ∀ w : List Int, (∀ c ∈ w, ∃ y, nodeAt l c = some y) → w.length ≤ (w.reverse.flatMap (orderM l)).length := fun w => by
        induction w with
        | nil => intro _; simp
        | cons d w ihw =>
          intro hd
          obtain ⟨z, hz⟩ := hd d (by simp)
          have h1 := ihw fun e he => hd e (by simp [he])
          rw [List.reverse_cons, List.flatMap_append, List.length_append, List.flatMap_singleton, order_step h hz, List.length_cons, List.length_cons]
          omega
      have hwt := hsub wt fun e he => hws e (by simp [he])
      simp only [List.length_cons, List.length_append] at htot
      have hlast : (wt ++ [c])[(((wt ++ [c]).length : Int) - 1).toNat]? = some c := by
        rw [hwl, show (((wt.length + 1 : Nat) : Int) - 1).toNat = wt.length by omega]
        simp
      have htake : (wt ++ [c]).take (((wt ++ [c]).length : Int) - 1).toNat = wt := by
        rw [hwl, show (((wt.length + 1 : Nat) : Int) - 1).toNat = wt.length by omega]
        simp
      have hws2 : ∀ e ∈ wt ++ y.kids.reverse, ∃ y, nodeAt l e = some y := fun e he => by
        rcases List.mem_append.1 he with he | he
        · exact hws e (by simp [he])
        · obtain ⟨z, hz, _⟩ := h.kid hy (List.mem_reverse.1 he)
          exact ⟨z, hz⟩
      generalize hW : wt ++ [c] = W at *
      (repeat (first | (apply v_move; exact rfl; exact rfl) | refine run_seq ?_ | refine run_region ?_ | (apply v_gtr; exact rfl; exact rfl; exact rfl) | (apply v_lenL; exact slA rfl; exact rfl; exact rfl)))
      refine v_is 20 true rfl (by simp; omega) ?_
      (repeat (first | (apply v_move; exact rfl; exact rfl) | refine runL_nil ?_ | (apply v_on; exact rfl) | (apply v_pick_t; exact rfl; exact rfl; exact rfl) | (apply v_lss; exact rfl; exact rfl; exact rfl)))
      refine run_condY rfl (by simp; omega) ?_
      (repeat (first | (apply v_idxL; exact slA rfl; exact tyA rfl; exact rfl; exact rfl; exact rfl; exact rfl; exact (by omega); (first | exact hlast); exact rfl) | (apply v_move; exact rfl; exact rfl) | (apply v_assign; exact rfl; exact rfl) | refine run_seq ?_ | refine run_region ?_ | refine runL_nil ?_ | refine run_skip ?_ | refine run_block ?_ | (apply v_loadA; exact tyA rfl; exact rfl; exact rfl; exact rfl; exact rfl; exact rfl; exact rfl) | (apply v_lenL; exact slA rfl; exact rfl; exact rfl) | (apply v_sub; exact rfl; exact rfl; exact rfl; exact (by omega))))
      refine v_sliceM (slA rfl) (tyA rfl) rfl rfl rfl rfl rfl (by omega) (by omega) rfl ?_
      rw [htake]
      (repeat (first | (apply v_move; exact rfl; exact rfl) | (apply v_assign; exact rfl; exact rfl) | refine run_seq ?_ | refine run_region ?_ | refine runL_nil ?_))
      refine v_l intE [c] (slA rfl) (tyA rfl) rfl rfl rfl rfl rfl rfl rfl rfl rfl rfl ?_
      refine v_appendD (slA rfl) (tyA rfl) rfl rfl rfl rfl rfl rfl rfl (by simp; omega) rfl rfl rfl rfl ?_
      (repeat (first | (apply v_idxL; exact slA rfl; exact tyA rfl; exact rfl; exact rfl; exact rfl; exact rfl; exact (by omega); (first | exact y3); exact rfl) | (apply v_move; exact rfl; exact rfl) | (apply v_assign; exact rfl; exact rfl) | refine run_seq ?_ | refine run_region ?_ | refine runL_nil ?_ | refine run_block ?_ | (apply v_fldA; exact flA rfl; exact rfl; exact rfl; exact rfl) | (apply v_loadA; exact tyA rfl; exact rfl; exact rfl; exact rfl; exact rfl; exact rfl; exact rfl) | (apply v_lenL; exact slA rfl; exact rfl; exact rfl) | (apply v_sub; exact rfl; exact rfl; exact rfl; exact (by omega))))
      refine run_app 6 6 3 rfl rfl rfl rfl ?_
      refine v_loop (fun j : Nat => ⟨[(0, .sem (listS nodeE l)), (5, .res 43), (6, .res 6), (7, .v (.int .i64 i)), (8, .v (.int .i64 c)), (9, .v (.int .i64 ((y.kids.length : Int) - 1 - j)))], [(43, .obj (ownS 3 intE (out ++ [c]))), (6, .obj (appS 3 intE (wt ++ y.kids.reverse.take j)))]⟩) (fun j => j ≤ y.kids.length) (fun j => y.kids.length - j) 0 idN trivial ⟨rfl, rfl, rfl, rfl, rfl, by simp [AV.ren]; rfl, trivial⟩ ⟨rfl, by simp [RK.ren]; rfl, trivial⟩ rfl (by omega) fun j hj ih2 => ?_
      (repeat (first | (apply v_move; exact rfl; exact rfl) | refine run_seq ?_ | refine run_region ?_ | refine runL_nil ?_ | (apply v_geq; exact rfl; exact rfl; exact rfl)))
      refine run_cond rfl (fun hb => ?_) (fun hb => ?_)
      · have hlt : j < y.kids.length := by have := (by simpa using hb : (0 : Int) ≤ (y.kids.length : Int) - 1 - j); omega
        have hkx : y.kids[((y.kids.length : Int) - 1 - j).toNat]? = some (y.kids[y.kids.length - 1 - j]'(by omega)) := by
          rw [show ((y.kids.length : Int) - 1 - j).toNat = y.kids.length - 1 - j by omega]
          exact List.getElem?_eq_getElem _
        have hrt : y.kids.reverse.take (j + 1) = y.kids.reverse.take j ++ [y.kids[y.kids.length - 1 - j]'(by omega)] := by
          rw [List.take_add_one, List.getElem?_reverse hlt, List.getElem?_eq_getElem (by omega)]
          rfl
        generalize y.kids[y.kids.length - 1 - j]'(by omega) = kx at *
        (repeat (first | (apply v_idxL; exact slA rfl; exact tyA rfl; exact rfl; exact rfl; exact rfl; exact rfl; exact (by omega); (first | exact y3 | exact hkx); exact rfl) | (apply v_move; exact rfl; exact rfl) | refine run_seq ?_ | refine run_region ?_ | refine run_skip ?_ | refine run_block ?_ | (apply v_fldA; exact flA rfl; exact rfl; exact rfl; exact rfl) | (apply v_loadA; exact tyA rfl; exact rfl; exact rfl; exact rfl; exact rfl; exact rfl; exact rfl) | (apply v_sub; exact rfl; exact rfl; exact rfl; exact (by omega))))
        refine v_l intE [kx] (slA rfl) (tyA rfl) rfl rfl rfl rfl rfl rfl rfl rfl rfl rfl ?_
        refine v_appendA (slA rfl) (tyA rfl) rfl rfl rfl rfl rfl rfl (by simp) rfl (by simp; omega) rfl rfl rfl rfl ?_
        (repeat (first | (apply v_move; exact rfl; exact rfl) | (apply v_assign; exact rfl; exact rfl) | refine run_region ?_ | refine runL_nil ?_ | refine run_inBlock ?_ | (apply v_sub; exact rfl; exact rfl; exact rfl; exact (by omega))))
        exact v_again ih2 (j + 1) (mp [(6, 67)]) trivial ⟨rfl, rfl, rfl, rfl, rfl, by rw [show (y.kids.length : Int) - 1 - ((j + 1 : Nat) : Int) = (y.kids.length : Int) - 1 - j - 1 by omega]; rfl, trivial⟩ ⟨rfl, by rw [hrt, ← List.append_assoc]; rfl, trivial⟩ rfl (by omega) (by omega)
      · have hge : j = y.kids.length := by have : ¬ ((0 : Int) ≤ (y.kids.length : Int) - 1 - j) := (by simpa using hb); omega
        have hal : y.kids.reverse.take j = y.kids.reverse := by rw [hge, List.take_of_length_le (by simp)]
        rw [hal]
        clear ih2
        refine run_freezeA 6 6 rfl rfl ?_
        (repeat (first | (apply v_move; exact rfl; exact rfl) | (apply v_assign; exact rfl; exact rfl) | refine run_region ?_ | refine runL_nil ?_ | refine run_inBlock ?_ | (apply run_exit; exact rfl) | (apply v_add; exact rfl; exact rfl; exact rfl; exact (by omega))))
        exact v_again ih (i + 1, out ++ [c], wt ++ y.kids.reverse) (mp [(5, 43)]) trivial (by repeat (first | exact trivial | refine ⟨rfl, ?_⟩)) ⟨rfl, trivial⟩ rfl ⟨by dsimp only; rw [← hq, List.reverse_append, List.reverse_reverse, List.flatMap_append, List.append_assoc]; rfl, by dsimp only; rw [List.length_append, ho]; rfl, hws2⟩ (by dsimp only; rw [hrv, List.reverse_append, List.reverse_reverse, List.flatMap_append]; simp)
theorem order5p {l : List Nd} (h : WF l) (id : Int) : Fun Try.prog 64 [.sem (listS nodeE l), .v (.int .i64 id)] [] (.sem (listS intE (orderM l id))) [] := (order5 h id).freeze
end Go.Proofs.Ytjkidecaciomgaa
