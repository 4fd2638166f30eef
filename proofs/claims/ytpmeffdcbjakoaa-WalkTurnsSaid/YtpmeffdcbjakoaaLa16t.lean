/- Law 16: WalkTurns. -/
import Derived.Test.YtpmeffdcbjakoaaLa16e
import Derived.Test.YtpmeffdcbjakoaaWtT
namespace Go.Proofs.Ytpmeffdcbjakoaa
set_option linter.unusedVariables false
set_option linter.unusedSimpArgs false
set_option maxRecDepth 100000
open Go.RowKit

attribute [local go_sem] Oper.semAt_some guard_turn
attribute [local go_sem high] neq_turn
theorem target_p {xs : List St} (at_ : Int) (hlen : xs.length ≤ 1000) : Fun Try.prog 24 [.sem (listS stE xs), .v (.int .i64 at_)] [] (.v (.int .i64 (targetM xs at_))) [] := fun ι F S w vals hh hv => by
  simp only [AVRs, AVR] at hv
  obtain ⟨u, r, rfl, ⟨A, c, rfl, hc, hr⟩, u2, r2, rfl, rfl, rfl⟩ := hv
  refine (target_calls A c xs at_ hlen hc w (list_stAt16 hr)).mono fun e w' ⟨he, hb⟩ => ?_
  exact ⟨ι, F, S, _, he, ⟨fun _ _ _ h => (by cases h), fun _ _ h => (by cases h), fun _ _ _ _ h => (by cases h), fun _ _ h => (by cases h), fun k hk => Nat.lt_of_lt_of_le (hh.bnd k hk) hb.size⟩, by simp [AVR], ⟨fun _ h => h, fun k _ hk => hb.block k hk⟩, fun _ _ _ _ => rfl, But.of_below hb, fun k hk => .inl hk, fun _ _ h => (by cases h)⟩
theorem But.grown {D : Nat → Prop} {w W W' : World} {row : Option Nat} (h : But D w W) (hg : W.grownBy W' row) (hr : ∀ k, row = some k → w.heap.size ≤ k) : But D w W' :=
  ⟨hg.os.trans h.os, hg.tape.trans h.tape, hg.output.trans h.output, Nat.le_trans h.size hg.size, fun k hk hn => (hg.block k (Nat.lt_of_lt_of_le hk h.size) fun e => by have := hr k e.symm; omega).trans (h.block k hk hn)⟩
theorem boxed_but {D : Nat → Prop} {w W : World} {B : Nat} {t : TypeId} {v : Value} (hB : Boxed w B t v) (h : But D w W) (hn : ¬ D B) : Boxed W B t v := (h.block B hB.lt hn).trans hB
/-- The invariant of the loop. -/
def TuI (b11 : Nat) (w : World) (T : List Tn) (pre : List Tn) (W : World) : Prop := Boxed W b11 3 (.int .i64 (pre.length : Int)) ∧ pre <+: T ∧ But (fun k => k = b11) w W
def TuS (b8 b11 : Nat) (w : World) (T : List Tn) (c : Code) (pre : List Tn) (W : World) : Prop := c = .ret ∧ (¬ pre <+: T ∨ (Boxed W b8 4 (.bool true) ∧ But (fun k => k = b11 ∨ k = b8) w W))
theorem TuI.own {B b11 : Nat} {w : World} (h1 : w.heap.size ≤ B) (T : List Tn) : OwnFrom B (TuI b11 w T) := fun pre X Y row ⟨q1, q2, q3⟩ hg hr =>
  ⟨q1.kept hg (boxed_notRow q1 fun r e => (hr r e).2), q2, q3.grown hg fun k e => Nat.le_trans h1 (hr k e).1⟩
theorem TuS.own {B b8 b11 : Nat} {w : World} (h1 : w.heap.size ≤ B) (T : List Tn) (c : Code) : OwnFrom B (TuS b8 b11 w T c) := fun pre X Y row ⟨hc, h⟩ hg hr => by
  rcases h with h | ⟨q1, q3⟩
  · exact ⟨hc, .inl h⟩
  · exact ⟨hc, .inr ⟨q1.kept hg (boxed_notRow q1 fun r e => (hr r e).2), q3.grown hg fun k e => Nat.le_trans h1 (hr k e).1⟩⟩
theorem tu_step {n₀ b11 bP bB B lo : Nat} {w W : World} {T pre : List Tn} {x : Tn} (hk : Boxed W b11 3 (.int .i64 (pre.length : Int))) (hB : But (fun k => k = b11) w W) (hx : pre ++ [x] <+: T) (h1 : n₀ ≤ b11) (h2 : bP ≠ b11) (h3 : bB ≠ b11) (h4 : b11 < lo) :
    KeepsFrom B W (W.drew.setCell ⟨b11, 0, none⟩ (.int .i64 ((pre.length : Int) + 1))) ∧ KpE n₀ bP bB lo W (W.drew.setCell ⟨b11, 0, none⟩ (.int .i64 ((pre.length : Int) + 1))) ∧ TuI b11 w T (pre ++ [x]) (W.drew.setCell ⟨b11, 0, none⟩ (.int .i64 ((pre.length : Int) + 1))) := by
  have hd : KpE n₀ bP bB lo W W.drew := ⟨(Below.refl n₀ W).drew, rfl, rfl, fun _ _ _ => rfl, (KeepsOthers.drew W).from _⟩
  have hk2 : Boxed W.drew b11 3 (.int .i64 (pre.length : Int)) := hk
  refine ⟨((KeepsOthers.drew W).trans (KeepsOthers.setCell _ _ _)).from _, hd.t (KpE.set h1 h2 h3 h4), ?_, hx, hB.drew.step _ _ rfl⟩
  have := hk2.set (.int .i64 ((pre.length : Int) + 1))
  rw [List.length_append, List.length_singleton, Int.natCast_add]
  exact this
theorem list_tnS {w : World} {S : Bl} {A : Option Addr} {ts : List Tn} (h : RowAt w S A (tnE.all ts)) (ad : Addr) (hn : 0 < ts.length) (he : A = some ad) : S ad.block := by
  rcases h with h | ⟨b, off, hA, hb, us, h1, h2⟩
  · exfalso
    have := tnE.all_len ts
    rw [h] at this
    have e : tnE.sz = 3 := rfl
    rw [e] at this
    simp at this
    omega
  · rw [hA] at he
    cases he
    exact hb
theorem TnAt.but {D : Nat → Prop} {w w' : World} {A : Option Addr} {ts : List Tn} (h : TnAt w A ts) (hn : ∀ ad, 0 < ts.length → A = some ad → ¬ D ad.block) (hb : But D w w') : TnAt w' A ts := fun hl => by
  obtain ⟨b, off, rfl, hlt, hc⟩ := h hl
  have hD := hn _ hl rfl
  exact ⟨b, off, rfl, Nat.lt_of_lt_of_le hlt hb.size, fun i j hi hj => (hb.cell (p := ⟨b, off + i * 3 + j, none⟩) hlt hD).trans (hc i j hi hj)⟩
theorem tail_ret {C : Cx} {k : List Item} {n : Nat} {a : Act} {w : World} (h : LeavesInM Fence.wide n C.P C.fn a.tmps C.R a.defers .returning w) : tailPost C k n .ret a w := h
theorem below_but {D : Nat → Prop} {w W : World} {n : Nat} (h : But D w W) (hD : ∀ k, D k → n ≤ k) (hn : n ≤ w.heap.size) : Below n w W :=
  ⟨h.os, h.tape, h.output, h.size, fun k hk => h.block k (Nat.lt_of_lt_of_le hk hn) fun q => Nat.lt_irrefl _ (Nat.lt_of_lt_of_le hk (hD k q))⟩
theorem tu_out {n₀ b8 b11 bP bB B lo : Nat} {w W : World} {T pre : List Tn} {x : Tn} {v : Value} (h8 : Boxed W b8 4 v) (hk : Boxed W b11 3 (.int .i64 (pre.length : Int))) (hB : But (fun k => k = b11) w W) (hx : pre ++ [x] <+: T) (h0 : n₀ ≤ b8) (h1 : n₀ ≤ b11) (h2 : bP ≠ b11) (h3 : bB ≠ b11) (p2 : bP ≠ b8) (p3 : bB ≠ b8) (d8 : b8 ≠ b11) (h4 : b8 < lo) (h5 : b11 < lo) :
    KeepsFrom B W ((W.drew.setCell ⟨b11, 0, none⟩ (.int .i64 ((pre.length : Int) + 1))).setCell ⟨b8, 0, none⟩ (.bool true)) ∧ KpE n₀ bP bB lo W ((W.drew.setCell ⟨b11, 0, none⟩ (.int .i64 ((pre.length : Int) + 1))).setCell ⟨b8, 0, none⟩ (.bool true)) ∧ TuS b8 b11 w T .ret (pre ++ [x]) ((W.drew.setCell ⟨b11, 0, none⟩ (.int .i64 ((pre.length : Int) + 1))).setCell ⟨b8, 0, none⟩ (.bool true)) := by
  obtain ⟨q1, q2, q5⟩ := tu_step (B := B) hk hB hx h1 h2 h3 h5
  refine ⟨q1.trans ((KeepsOthers.setCell _ _ _).from _), q2.t (KpE.set h0 p2 p3 h4), rfl, .inr ⟨?_, ?_⟩⟩
  · have h8' : Boxed (W.drew.setCell ⟨b11, 0, none⟩ (.int .i64 ((pre.length : Int) + 1))) b8 4 v := (Below.heap_setCell W.drew ⟨b11, 0, none⟩ _ b8 d8).trans h8
    exact h8'.set _
  · exact (q5.2.2.mono fun k _ e => .inl e).step _ _ (.inr rfl)
set_option maxHeartbeats 4000000 in
theorem walkTurns_f {xs : List St} (bub : Bool) (at_ few : Int) (h8 : 0 ≤ few) (h82 : few ≤ 255) (hm : xs.length ≤ 9223372036854775807) : Fun Try.prog 7 [.sem (listS stE xs), .v (.bool bub), .v (.int .i64 at_), .v (.int .u8 few)] [] (.v (.bool true)) [] := by
  by_cases h3 : xs.length > 300
  · refine fun_intro 65 Try.func7 rfl rfl rfl (fun ι F S w => ?_)
    (repeat (first | (apply v_cx; exact rfl; exact cbA rfl; (first | exact awake16); exact rfl; exact rfl) | (apply v_move; exact rfl; exact rfl) | (apply v_assign; exact rfl; exact rfl) | refine run_seq ?_ | refine run_region ?_ | refine runL_nil ?_ | refine run_skip ?_ | refine run_block ?_ | refine run_inBlock ?_ | (apply run_exit; exact rfl) | (apply v_extract; exact rfl; exact rfl; exact rfl) | (apply v_fldP; exact flA rfl; exact rfl; exact rfl; exact rfl) | (apply v_fldA; exact flA rfl; exact rfl; exact rfl; exact rfl) | (apply v_loadB; exact tyA rfl; exact rfl; exact rfl; exact rfl; exact rfl; exact rfl; exact rfl) | (apply v_loadA; exact tyA rfl; exact rfl; exact rfl; exact rfl; exact rfl; exact rfl; exact rfl) | (apply v_on; exact rfl) | (apply v_off; exact rfl; exact rfl) | (apply v_off0; exact rfl) | (apply v_pick_t; exact rfl; exact rfl; exact rfl) | (apply v_pick_f; exact rfl; exact rfl; exact rfl) | (apply run_cond; exact rfl; rotate_left; (focus (intro hb; cases hb; done)); intro hb; clear hb) | (apply run_cond; exact rfl; (focus (intro hb; cases hb; done)); intro hb; clear hb) | (apply v_not; exact rfl; exact rfl) | (apply v_lss; exact rfl; exact rfl; exact rfl) | (apply v_eql; exact rfl; exact rfl; exact rfl) | (apply v_neq; exact rfl; exact rfl; exact rfl) | (apply v_gtr; exact rfl; exact rfl; exact rfl) | (apply v_leq; exact rfl; exact rfl; exact rfl) | (apply v_geq; exact rfl; exact rfl; exact rfl) | (apply v_lenL; exact slA rfl; exact rfl; exact rfl) | (apply v_lenO; exact slA rfl; exact rfl; exact rfl; exact rfl) | (apply v_lenN; exact slA rfl; exact rfl; exact rfl) | (apply v_nilEql; exact ptA rfl; exact rfl; exact rfl) | (apply v_nilNeq; exact ptA rfl; exact rfl; exact rfl) | (apply v_eqlNil; exact ptA rfl; exact rfl; exact NN.adr; exact rfl) | (apply v_neqNil; exact ptA rfl; exact rfl; exact NN.adr; exact rfl) | (apply v_eqlNil; exact ptA rfl; exact rfl; exact NN.ptr; exact rfl) | (apply v_neqNil; exact ptA rfl; exact rfl; exact NN.ptr; exact rfl) | (apply v_eqlNil; exact ptA rfl; exact rfl; exact NN.box rfl; exact rfl) | (apply v_neqNil; exact ptA rfl; exact rfl; exact NN.box rfl; exact rfl) | (apply v_nilCheck; exact rfl; exact NN.adr; exact rfl) | (apply v_nilCheck; exact rfl; exact NN.ptr; exact rfl) | (apply v_nilCheck; exact rfl; exact NN.box rfl; exact rfl) | (apply v_allocD; exact tyA rfl; exact rfl; exact rfl; exact rfl; exact rfl) | (apply v_boxD; exact rfl; exact rfl; exact rfl; exact rfl; exact rfl; exact rfl; exact rfl) | (apply v_storeW; exact tyA rfl; exact rfl; exact rfl; exact rfl; exact rfl; exact rfl; exact rfl; exact rfl) | (apply v_storeB; exact tyA rfl; exact rfl; exact rfl; exact rfl; exact rfl; exact rfl; exact rfl; exact rfl) | (apply v_eqlS; exact rfl; exact rfl; exact rfl) | (apply v_neqS; exact rfl; exact rfl; exact rfl) | (apply v_eqlB; exact boA rfl; exact rfl; exact rfl; exact rfl) | (apply v_neqB; exact boA rfl; exact rfl; exact rfl; exact rfl) | (apply v_b; exact plA rfl; exact tyA rfl; exact rfl; exact rfl; exact rfl) | (apply v_f; exact rfl; exact rfl) | (apply v_sliceH; exact slA rfl; exact tyA rfl; exact rfl; exact rfl; exact rfl; exact (by omega); exact (by omega); exact rfl) | (apply v_sliceL; exact slA rfl; exact tyA rfl; exact rfl; exact rfl; exact rfl; exact (by omega); exact (by omega); exact rfl) | (apply v_add; exact rfl; exact rfl; exact rfl; exact (by omega)) | (apply v_sub; exact rfl; exact rfl; exact rfl; exact (by omega))))
    refine run_condY rfl (by simp; omega) ?_
    (repeat (first | (apply v_move; exact rfl; exact rfl) | (apply v_assign; exact rfl; exact rfl) | refine run_seq ?_ | refine run_region ?_ | refine runL_nil ?_ | refine run_skip ?_ | refine run_block ?_ | refine run_inBlock ?_ | (apply run_exit; exact rfl) | (apply v_extract; exact rfl; exact rfl; exact rfl) | (apply v_fldP; exact flA rfl; exact rfl; exact rfl; exact rfl) | (apply v_fldA; exact flA rfl; exact rfl; exact rfl; exact rfl) | (apply v_loadB; exact tyA rfl; exact rfl; exact rfl; exact rfl; exact rfl; exact rfl; exact rfl) | (apply v_loadA; exact tyA rfl; exact rfl; exact rfl; exact rfl; exact rfl; exact rfl; exact rfl) | (apply v_on; exact rfl) | (apply v_off; exact rfl; exact rfl) | (apply v_off0; exact rfl) | (apply v_pick_t; exact rfl; exact rfl; exact rfl) | (apply v_pick_f; exact rfl; exact rfl; exact rfl) | (apply run_cond; exact rfl; rotate_left; (focus (intro hb; cases hb; done)); intro hb; clear hb) | (apply run_cond; exact rfl; (focus (intro hb; cases hb; done)); intro hb; clear hb) | (apply v_not; exact rfl; exact rfl) | (apply v_lss; exact rfl; exact rfl; exact rfl) | (apply v_eql; exact rfl; exact rfl; exact rfl) | (apply v_neq; exact rfl; exact rfl; exact rfl) | (apply v_gtr; exact rfl; exact rfl; exact rfl) | (apply v_leq; exact rfl; exact rfl; exact rfl) | (apply v_geq; exact rfl; exact rfl; exact rfl) | (apply v_lenL; exact slA rfl; exact rfl; exact rfl) | (apply v_lenO; exact slA rfl; exact rfl; exact rfl; exact rfl) | (apply v_lenN; exact slA rfl; exact rfl; exact rfl) | (apply v_nilEql; exact ptA rfl; exact rfl; exact rfl) | (apply v_nilNeq; exact ptA rfl; exact rfl; exact rfl) | (apply v_eqlNil; exact ptA rfl; exact rfl; exact NN.adr; exact rfl) | (apply v_neqNil; exact ptA rfl; exact rfl; exact NN.adr; exact rfl) | (apply v_eqlNil; exact ptA rfl; exact rfl; exact NN.ptr; exact rfl) | (apply v_neqNil; exact ptA rfl; exact rfl; exact NN.ptr; exact rfl) | (apply v_eqlNil; exact ptA rfl; exact rfl; exact NN.box rfl; exact rfl) | (apply v_neqNil; exact ptA rfl; exact rfl; exact NN.box rfl; exact rfl) | (apply v_nilCheck; exact rfl; exact NN.adr; exact rfl) | (apply v_nilCheck; exact rfl; exact NN.ptr; exact rfl) | (apply v_nilCheck; exact rfl; exact NN.box rfl; exact rfl) | (apply v_allocD; exact tyA rfl; exact rfl; exact rfl; exact rfl; exact rfl) | (apply v_boxD; exact rfl; exact rfl; exact rfl; exact rfl; exact rfl; exact rfl; exact rfl) | (apply v_storeW; exact tyA rfl; exact rfl; exact rfl; exact rfl; exact rfl; exact rfl; exact rfl; exact rfl) | (apply v_storeB; exact tyA rfl; exact rfl; exact rfl; exact rfl; exact rfl; exact rfl; exact rfl; exact rfl) | (apply v_eqlS; exact rfl; exact rfl; exact rfl) | (apply v_neqS; exact rfl; exact rfl; exact rfl) | (apply v_eqlB; exact boA rfl; exact rfl; exact rfl; exact rfl) | (apply v_neqB; exact boA rfl; exact rfl; exact rfl; exact rfl) | (apply v_b; exact plA rfl; exact tyA rfl; exact rfl; exact rfl; exact rfl) | (apply v_f; exact rfl; exact rfl) | (apply v_sliceH; exact slA rfl; exact tyA rfl; exact rfl; exact rfl; exact rfl; exact (by omega); exact (by omega); exact rfl) | (apply v_sliceL; exact slA rfl; exact tyA rfl; exact rfl; exact rfl; exact rfl; exact (by omega); exact (by omega); exact rfl) | (apply v_add; exact rfl; exact rfl; exact rfl; exact (by omega)) | (apply v_sub; exact rfl; exact rfl; exact rfl; exact (by omega))))
    exact run_ret idN _ Try.func7 ⟨_, _, _, _, _, _, rfl, rfl, rfl, tyA rfl, rfl, fun _ => rfl, rfl, rfl⟩ rfl trivial trivial rfl
  · have hT := turns_p (xs := xs) bub (by omega)
    have hR := refTurns_p (xs := xs) bub (by omega)
    have hG := target_p (xs := xs) at_ (by omega)
    have hRG := refTarget_f (xs := xs) at_ (by omega)
    have hTl := turnsM_le xs bub (by omega)
    have hS := sameTurns_f (a := turnsM xs bub) (b := turnsM xs bub) (by omega) (by omega)
    rw [decide_eq_true rfl] at hS
    refine fun_pin 65 Try.func7 rfl rfl fun ι F S w vals hh hv => ⟨[.sem (listB w.heap.size stE xs), .v (.bool bub), .v (.int .i64 at_), .v (.int .u8 few)], ?_, rfl, ?_⟩
    · obtain ⟨u, r, e, hu, hr⟩ := hv
      exact ⟨u, r, e, listB_of hu (by decide) hh.bnd, hr⟩
    have hT2 := hT.arg (l' := [.sem (listB w.heap.size stE xs), .v (.bool bub)]) ⟨listB_le _ _ _, Le.refl, trivial⟩
    have hR2 := hR.arg (l' := [.sem (listB w.heap.size stE xs), .v (.bool bub)]) ⟨listB_le _ _ _, Le.refl, trivial⟩
    have hG2 := hG.arg (l' := [.sem (listB w.heap.size stE xs), .v (.int .i64 at_)]) ⟨listB_le _ _ _, Le.refl, trivial⟩
    have hRG2 := hRG.arg (l' := [.sem (listB w.heap.size stE xs), .v (.int .i64 at_)]) ⟨listB_le _ _ _, Le.refl, trivial⟩
    have hE := each_f (listB w.heap.size stE xs) bub
    generalize targetM xs at_ = tg at *
    (repeat (first | (apply v_cx; exact rfl; exact cbA rfl; (first | exact awake16); exact rfl; exact rfl) | (apply v_move; exact rfl; exact rfl) | (apply v_assign; exact rfl; exact rfl) | refine run_seq ?_ | refine run_region ?_ | refine runL_nil ?_ | refine run_skip ?_ | refine run_block ?_ | refine run_inBlock ?_ | (apply run_exit; exact rfl) | (apply v_extract; exact rfl; exact rfl; exact rfl) | (apply v_fldP; exact flA rfl; exact rfl; exact rfl; exact rfl) | (apply v_fldA; exact flA rfl; exact rfl; exact rfl; exact rfl) | (apply v_loadB; exact tyA rfl; exact rfl; exact rfl; exact rfl; exact rfl; exact rfl; exact rfl) | (apply v_loadA; exact tyA rfl; exact rfl; exact rfl; exact rfl; exact rfl; exact rfl; exact rfl) | (apply v_on; exact rfl) | (apply v_off; exact rfl; exact rfl) | (apply v_off0; exact rfl) | (apply v_pick_t; exact rfl; exact rfl; exact rfl) | (apply v_pick_f; exact rfl; exact rfl; exact rfl) | (apply run_cond; exact rfl; rotate_left; (focus (intro hb; cases hb; done)); intro hb; clear hb) | (apply run_cond; exact rfl; (focus (intro hb; cases hb; done)); intro hb; clear hb) | (apply v_not; exact rfl; exact rfl) | (apply v_lss; exact rfl; exact rfl; exact rfl) | (apply v_eql; exact rfl; exact rfl; exact rfl) | (apply v_neq; exact rfl; exact rfl; exact rfl) | (apply v_gtr; exact rfl; exact rfl; exact rfl) | (apply v_leq; exact rfl; exact rfl; exact rfl) | (apply v_geq; exact rfl; exact rfl; exact rfl) | (apply v_lenL; exact slA rfl; exact rfl; exact rfl) | (apply v_lenO; exact slA rfl; exact rfl; exact rfl; exact rfl) | (apply v_lenN; exact slA rfl; exact rfl; exact rfl) | (apply v_nilEql; exact ptA rfl; exact rfl; exact rfl) | (apply v_nilNeq; exact ptA rfl; exact rfl; exact rfl) | (apply v_eqlNil; exact ptA rfl; exact rfl; exact NN.adr; exact rfl) | (apply v_neqNil; exact ptA rfl; exact rfl; exact NN.adr; exact rfl) | (apply v_eqlNil; exact ptA rfl; exact rfl; exact NN.ptr; exact rfl) | (apply v_neqNil; exact ptA rfl; exact rfl; exact NN.ptr; exact rfl) | (apply v_eqlNil; exact ptA rfl; exact rfl; exact NN.box rfl; exact rfl) | (apply v_neqNil; exact ptA rfl; exact rfl; exact NN.box rfl; exact rfl) | (apply v_nilCheck; exact rfl; exact NN.adr; exact rfl) | (apply v_nilCheck; exact rfl; exact NN.ptr; exact rfl) | (apply v_nilCheck; exact rfl; exact NN.box rfl; exact rfl) | (apply v_allocD; exact tyA rfl; exact rfl; exact rfl; exact rfl; exact rfl) | (apply v_boxD; exact rfl; exact rfl; exact rfl; exact rfl; exact rfl; exact rfl; exact rfl) | (apply v_storeW; exact tyA rfl; exact rfl; exact rfl; exact rfl; exact rfl; exact rfl; exact rfl; exact rfl) | (apply v_storeB; exact tyA rfl; exact rfl; exact rfl; exact rfl; exact rfl; exact rfl; exact rfl; exact rfl) | (apply v_eqlS; exact rfl; exact rfl; exact rfl) | (apply v_neqS; exact rfl; exact rfl; exact rfl) | (apply v_eqlB; exact boA rfl; exact rfl; exact rfl; exact rfl) | (apply v_neqB; exact boA rfl; exact rfl; exact rfl; exact rfl) | (apply v_b; exact plA rfl; exact tyA rfl; exact rfl; exact rfl; exact rfl) | (apply v_f; exact rfl; exact rfl) | (apply v_sliceH; exact slA rfl; exact tyA rfl; exact rfl; exact rfl; exact rfl; exact (by omega); exact (by omega); exact rfl) | (apply v_sliceL; exact slA rfl; exact tyA rfl; exact rfl; exact rfl; exact rfl; exact (by omega); exact (by omega); exact rfl) | (apply v_add; exact rfl; exact rfl; exact rfl; exact (by omega)) | (apply v_sub; exact rfl; exact rfl; exact rfl; exact (by omega))))
    refine runL_know 15 (y := .sem (listS stE xs)) rfl (fun _ _ _ _ _ _ h => listB_le _ _ _ _ _ _ _ h) ?_
    (repeat (first | (apply v_move; exact rfl; exact rfl) | (apply v_assign; exact rfl; exact rfl) | refine run_seq ?_ | refine run_region ?_ | refine runL_nil ?_ | refine run_skip ?_ | refine run_block ?_ | refine run_inBlock ?_ | (apply run_exit; exact rfl) | (apply v_extract; exact rfl; exact rfl; exact rfl) | (apply v_fldP; exact flA rfl; exact rfl; exact rfl; exact rfl) | (apply v_fldA; exact flA rfl; exact rfl; exact rfl; exact rfl) | (apply v_loadB; exact tyA rfl; exact rfl; exact rfl; exact rfl; exact rfl; exact rfl; exact rfl) | (apply v_loadA; exact tyA rfl; exact rfl; exact rfl; exact rfl; exact rfl; exact rfl; exact rfl) | (apply v_on; exact rfl) | (apply v_off; exact rfl; exact rfl) | (apply v_off0; exact rfl) | (apply v_pick_t; exact rfl; exact rfl; exact rfl) | (apply v_pick_f; exact rfl; exact rfl; exact rfl) | (apply run_cond; exact rfl; rotate_left; (focus (intro hb; cases hb; done)); intro hb; clear hb) | (apply run_cond; exact rfl; (focus (intro hb; cases hb; done)); intro hb; clear hb) | (apply v_not; exact rfl; exact rfl) | (apply v_lss; exact rfl; exact rfl; exact rfl) | (apply v_eql; exact rfl; exact rfl; exact rfl) | (apply v_neq; exact rfl; exact rfl; exact rfl) | (apply v_gtr; exact rfl; exact rfl; exact rfl) | (apply v_leq; exact rfl; exact rfl; exact rfl) | (apply v_geq; exact rfl; exact rfl; exact rfl) | (apply v_lenL; exact slA rfl; exact rfl; exact rfl) | (apply v_lenO; exact slA rfl; exact rfl; exact rfl; exact rfl) | (apply v_lenN; exact slA rfl; exact rfl; exact rfl) | (apply v_nilEql; exact ptA rfl; exact rfl; exact rfl) | (apply v_nilNeq; exact ptA rfl; exact rfl; exact rfl) | (apply v_eqlNil; exact ptA rfl; exact rfl; exact NN.adr; exact rfl) | (apply v_neqNil; exact ptA rfl; exact rfl; exact NN.adr; exact rfl) | (apply v_eqlNil; exact ptA rfl; exact rfl; exact NN.ptr; exact rfl) | (apply v_neqNil; exact ptA rfl; exact rfl; exact NN.ptr; exact rfl) | (apply v_eqlNil; exact ptA rfl; exact rfl; exact NN.box rfl; exact rfl) | (apply v_neqNil; exact ptA rfl; exact rfl; exact NN.box rfl; exact rfl) | (apply v_nilCheck; exact rfl; exact NN.adr; exact rfl) | (apply v_nilCheck; exact rfl; exact NN.ptr; exact rfl) | (apply v_nilCheck; exact rfl; exact NN.box rfl; exact rfl) | (apply v_allocD; exact tyA rfl; exact rfl; exact rfl; exact rfl; exact rfl) | (apply v_boxD; exact rfl; exact rfl; exact rfl; exact rfl; exact rfl; exact rfl; exact rfl) | (apply v_storeW; exact tyA rfl; exact rfl; exact rfl; exact rfl; exact rfl; exact rfl; exact rfl; exact rfl) | (apply v_storeB; exact tyA rfl; exact rfl; exact rfl; exact rfl; exact rfl; exact rfl; exact rfl; exact rfl) | (apply v_eqlS; exact rfl; exact rfl; exact rfl) | (apply v_neqS; exact rfl; exact rfl; exact rfl) | (apply v_eqlB; exact boA rfl; exact rfl; exact rfl; exact rfl) | (apply v_neqB; exact boA rfl; exact rfl; exact rfl; exact rfl) | (apply v_b; exact plA rfl; exact tyA rfl; exact rfl; exact rfl; exact rfl) | (apply v_f; exact rfl; exact rfl) | (apply v_sliceH; exact slA rfl; exact tyA rfl; exact rfl; exact rfl; exact rfl; exact (by omega); exact (by omega); exact rfl) | (apply v_sliceL; exact slA rfl; exact tyA rfl; exact rfl; exact rfl; exact rfl; exact (by omega); exact (by omega); exact rfl) | (apply v_add; exact rfl; exact rfl; exact rfl; exact (by omega)) | (apply v_sub; exact rfl; exact rfl; exact rfl; exact (by omega))))
    refine run_condN rfl (by simp; omega) ?_
    (repeat (first | (apply v_cx; exact rfl; exact cbA rfl; (first | exact hR2); exact rfl; exact rfl) | (apply v_move; exact rfl; exact rfl) | (apply v_assign; exact rfl; exact rfl) | refine run_seq ?_ | refine run_region ?_ | refine runL_nil ?_ | refine run_skip ?_ | refine run_block ?_ | refine run_inBlock ?_ | (apply run_exit; exact rfl) | (apply v_extract; exact rfl; exact rfl; exact rfl) | (apply v_fldP; exact flA rfl; exact rfl; exact rfl; exact rfl) | (apply v_fldA; exact flA rfl; exact rfl; exact rfl; exact rfl) | (apply v_loadB; exact tyA rfl; exact rfl; exact rfl; exact rfl; exact rfl; exact rfl; exact rfl) | (apply v_loadA; exact tyA rfl; exact rfl; exact rfl; exact rfl; exact rfl; exact rfl; exact rfl) | (apply v_on; exact rfl) | (apply v_off; exact rfl; exact rfl) | (apply v_off0; exact rfl) | (apply v_pick_t; exact rfl; exact rfl; exact rfl) | (apply v_pick_f; exact rfl; exact rfl; exact rfl) | (apply run_cond; exact rfl; rotate_left; (focus (intro hb; cases hb; done)); intro hb; clear hb) | (apply run_cond; exact rfl; (focus (intro hb; cases hb; done)); intro hb; clear hb) | (apply v_not; exact rfl; exact rfl) | (apply v_lss; exact rfl; exact rfl; exact rfl) | (apply v_eql; exact rfl; exact rfl; exact rfl) | (apply v_neq; exact rfl; exact rfl; exact rfl) | (apply v_gtr; exact rfl; exact rfl; exact rfl) | (apply v_leq; exact rfl; exact rfl; exact rfl) | (apply v_geq; exact rfl; exact rfl; exact rfl) | (apply v_lenL; exact slA rfl; exact rfl; exact rfl) | (apply v_lenO; exact slA rfl; exact rfl; exact rfl; exact rfl) | (apply v_lenN; exact slA rfl; exact rfl; exact rfl) | (apply v_nilEql; exact ptA rfl; exact rfl; exact rfl) | (apply v_nilNeq; exact ptA rfl; exact rfl; exact rfl) | (apply v_eqlNil; exact ptA rfl; exact rfl; exact NN.adr; exact rfl) | (apply v_neqNil; exact ptA rfl; exact rfl; exact NN.adr; exact rfl) | (apply v_eqlNil; exact ptA rfl; exact rfl; exact NN.ptr; exact rfl) | (apply v_neqNil; exact ptA rfl; exact rfl; exact NN.ptr; exact rfl) | (apply v_eqlNil; exact ptA rfl; exact rfl; exact NN.box rfl; exact rfl) | (apply v_neqNil; exact ptA rfl; exact rfl; exact NN.box rfl; exact rfl) | (apply v_nilCheck; exact rfl; exact NN.adr; exact rfl) | (apply v_nilCheck; exact rfl; exact NN.ptr; exact rfl) | (apply v_nilCheck; exact rfl; exact NN.box rfl; exact rfl) | (apply v_allocD; exact tyA rfl; exact rfl; exact rfl; exact rfl; exact rfl) | (apply v_boxD; exact rfl; exact rfl; exact rfl; exact rfl; exact rfl; exact rfl; exact rfl) | (apply v_storeW; exact tyA rfl; exact rfl; exact rfl; exact rfl; exact rfl; exact rfl; exact rfl; exact rfl) | (apply v_storeB; exact tyA rfl; exact rfl; exact rfl; exact rfl; exact rfl; exact rfl; exact rfl; exact rfl) | (apply v_eqlS; exact rfl; exact rfl; exact rfl) | (apply v_neqS; exact rfl; exact rfl; exact rfl) | (apply v_eqlB; exact boA rfl; exact rfl; exact rfl; exact rfl) | (apply v_neqB; exact boA rfl; exact rfl; exact rfl; exact rfl) | (apply v_b; exact plA rfl; exact tyA rfl; exact rfl; exact rfl; exact rfl) | (apply v_f; exact rfl; exact rfl) | (apply v_sliceH; exact slA rfl; exact tyA rfl; exact rfl; exact rfl; exact rfl; exact (by omega); exact (by omega); exact rfl) | (apply v_sliceL; exact slA rfl; exact tyA rfl; exact rfl; exact rfl; exact rfl; exact (by omega); exact (by omega); exact rfl) | (apply v_add; exact rfl; exact rfl; exact rfl; exact (by omega)) | (apply v_sub; exact rfl; exact rfl; exact rfl; exact (by omega))))
    refine run_draws (by kernel_rfl) (by kernel_rfl) ?_
    (repeat (first | (apply p_cx; exact rfl; exact cbA rfl; (first | exact hT2 | exact hS | exact hG2 | exact hRG2); exact rfl; exact rfl; exact rfl) | (apply p_off; exact rfl; exact rfl) | (apply p_allocD; exact tyA rfl; exact rfl; exact rfl; exact rfl) | (apply p_move; exact rfl; exact rfl; exact rfl) | (apply p_assign; exact rfl; exact rfl; exact rfl) | (apply p_extract; exact rfl; exact rfl; exact rfl; exact rfl) | (apply p_fldP; exact flA rfl; exact rfl; exact rfl; exact rfl; exact rfl) | (apply p_fldA; exact flA rfl; exact rfl; exact rfl; exact rfl; exact rfl) | (apply p_loadB; exact tyA rfl; exact rfl; exact rfl; exact rfl; exact rfl; exact rfl; exact rfl; exact rfl) | (apply p_loadA; exact tyA rfl; exact rfl; exact rfl; exact rfl; exact rfl; exact rfl; exact rfl; exact rfl) | (apply p_pick_t; exact rfl; exact rfl; exact rfl; exact rfl) | (apply p_pick_f; exact rfl; exact rfl; exact rfl; exact rfl) | (apply p_not; exact rfl; exact rfl; exact rfl) | (apply p_lss; exact rfl; exact rfl; exact rfl; exact rfl) | (apply p_eql; exact rfl; exact rfl; exact rfl; exact rfl) | (apply p_neq; exact rfl; exact rfl; exact rfl; exact rfl) | (apply p_gtr; exact rfl; exact rfl; exact rfl; exact rfl) | (apply p_leq; exact rfl; exact rfl; exact rfl; exact rfl) | (apply p_geq; exact rfl; exact rfl; exact rfl; exact rfl) | (apply p_lenL; exact slA rfl; exact rfl; exact rfl; exact rfl) | (apply p_lenO; exact slA rfl; exact rfl; exact rfl; exact rfl; exact rfl) | (apply p_lenN; exact slA rfl; exact rfl; exact rfl; exact rfl) | (apply p_nilEql; exact ptA rfl; exact rfl; exact rfl; exact rfl) | (apply p_nilNeq; exact ptA rfl; exact rfl; exact rfl; exact rfl) | (apply p_eqlNil; exact ptA rfl; exact rfl; exact NNf.adr; exact rfl; exact rfl) | (apply p_neqNil; exact ptA rfl; exact rfl; exact NNf.adr; exact rfl; exact rfl) | (apply p_eqlNil; exact ptA rfl; exact rfl; exact NNf.ptr; exact rfl; exact rfl) | (apply p_neqNil; exact ptA rfl; exact rfl; exact NNf.ptr; exact rfl; exact rfl) | (apply p_eqlNil; exact ptA rfl; exact rfl; exact NNf.box rfl; exact rfl; exact rfl) | (apply p_neqNil; exact ptA rfl; exact rfl; exact NNf.box rfl; exact rfl; exact rfl) | (apply p_nilCheck; exact rfl; exact NNf.adr; exact rfl; exact rfl) | (apply p_nilCheck; exact rfl; exact NNf.ptr; exact rfl; exact rfl) | (apply p_nilCheck; exact rfl; exact NNf.box rfl; exact rfl; exact rfl) | (apply p_storeW; exact tyA rfl; exact rfl; exact rfl; exact rfl; exact rfl; exact rfl; exact rfl; exact rfl; exact rfl) | (apply p_storeB; exact tyA rfl; exact rfl; exact rfl; exact rfl; exact rfl; exact rfl; exact rfl; exact rfl; exact rfl) | (apply p_eqlS; exact rfl; exact rfl; exact rfl; exact rfl) | (apply p_neqS; exact rfl; exact rfl; exact rfl; exact rfl) | (apply p_eqlB; exact boA rfl; exact rfl; exact rfl; exact rfl; exact rfl) | (apply p_neqB; exact boA rfl; exact rfl; exact rfl; exact rfl; exact rfl) | (apply p_b; exact plA rfl; exact tyA rfl; exact rfl; exact rfl; exact rfl; exact rfl) | (apply p_sliceH; exact slA rfl; exact tyA rfl; exact rfl; exact rfl; exact rfl; exact (by omega); exact (by omega); exact rfl; exact rfl) | (apply p_sliceL; exact slA rfl; exact tyA rfl; exact rfl; exact rfl; exact rfl; exact (by omega); exact (by omega); exact rfl; exact rfl) | (apply p_add; exact rfl; exact rfl; exact rfl; exact (by omega); exact rfl) | (apply p_sub; exact rfl; exact rfl; exact rfl; exact (by omega); exact rfl)))
    refine planL_nil (by kernel_rfl) ?_
    refine run_condN rfl (by simp) ?_
    (repeat (first | (apply v_move; exact rfl; exact rfl) | (apply v_assign; exact rfl; exact rfl) | refine run_seq ?_ | refine run_region ?_ | refine runL_nil ?_ | refine run_skip ?_ | refine run_block ?_ | refine run_inBlock ?_ | (apply run_exit; exact rfl) | (apply v_extract; exact rfl; exact rfl; exact rfl) | (apply v_fldP; exact flA rfl; exact rfl; exact rfl; exact rfl) | (apply v_fldA; exact flA rfl; exact rfl; exact rfl; exact rfl) | (apply v_loadB; exact tyA rfl; exact rfl; exact rfl; exact rfl; exact rfl; exact rfl; exact rfl) | (apply v_loadA; exact tyA rfl; exact rfl; exact rfl; exact rfl; exact rfl; exact rfl; exact rfl) | (apply v_on; exact rfl) | (apply v_off; exact rfl; exact rfl) | (apply v_off0; exact rfl) | (apply v_pick_t; exact rfl; exact rfl; exact rfl) | (apply v_pick_f; exact rfl; exact rfl; exact rfl) | (apply run_cond; exact rfl; rotate_left; (focus (intro hb; cases hb; done)); intro hb; clear hb) | (apply run_cond; exact rfl; (focus (intro hb; cases hb; done)); intro hb; clear hb) | (apply v_not; exact rfl; exact rfl) | (apply v_lss; exact rfl; exact rfl; exact rfl) | (apply v_eql; exact rfl; exact rfl; exact rfl) | (apply v_neq; exact rfl; exact rfl; exact rfl) | (apply v_gtr; exact rfl; exact rfl; exact rfl) | (apply v_leq; exact rfl; exact rfl; exact rfl) | (apply v_geq; exact rfl; exact rfl; exact rfl) | (apply v_lenL; exact slA rfl; exact rfl; exact rfl) | (apply v_lenO; exact slA rfl; exact rfl; exact rfl; exact rfl) | (apply v_lenN; exact slA rfl; exact rfl; exact rfl) | (apply v_nilEql; exact ptA rfl; exact rfl; exact rfl) | (apply v_nilNeq; exact ptA rfl; exact rfl; exact rfl) | (apply v_eqlNil; exact ptA rfl; exact rfl; exact NN.adr; exact rfl) | (apply v_neqNil; exact ptA rfl; exact rfl; exact NN.adr; exact rfl) | (apply v_eqlNil; exact ptA rfl; exact rfl; exact NN.ptr; exact rfl) | (apply v_neqNil; exact ptA rfl; exact rfl; exact NN.ptr; exact rfl) | (apply v_eqlNil; exact ptA rfl; exact rfl; exact NN.box rfl; exact rfl) | (apply v_neqNil; exact ptA rfl; exact rfl; exact NN.box rfl; exact rfl) | (apply v_nilCheck; exact rfl; exact NN.adr; exact rfl) | (apply v_nilCheck; exact rfl; exact NN.ptr; exact rfl) | (apply v_nilCheck; exact rfl; exact NN.box rfl; exact rfl) | (apply v_allocD; exact tyA rfl; exact rfl; exact rfl; exact rfl; exact rfl) | (apply v_boxD; exact rfl; exact rfl; exact rfl; exact rfl; exact rfl; exact rfl; exact rfl) | (apply v_storeW; exact tyA rfl; exact rfl; exact rfl; exact rfl; exact rfl; exact rfl; exact rfl; exact rfl) | (apply v_storeB; exact tyA rfl; exact rfl; exact rfl; exact rfl; exact rfl; exact rfl; exact rfl; exact rfl) | (apply v_eqlS; exact rfl; exact rfl; exact rfl) | (apply v_neqS; exact rfl; exact rfl; exact rfl) | (apply v_eqlB; exact boA rfl; exact rfl; exact rfl; exact rfl) | (apply v_neqB; exact boA rfl; exact rfl; exact rfl; exact rfl) | (apply v_b; exact plA rfl; exact tyA rfl; exact rfl; exact rfl; exact rfl) | (apply v_f; exact rfl; exact rfl) | (apply v_sliceH; exact slA rfl; exact tyA rfl; exact rfl; exact rfl; exact rfl; exact (by omega); exact (by omega); exact rfl) | (apply v_sliceL; exact slA rfl; exact tyA rfl; exact rfl; exact rfl; exact rfl; exact (by omega); exact (by omega); exact rfl) | (apply v_add; exact rfl; exact rfl; exact rfl; exact (by omega)) | (apply v_sub; exact rfl; exact rfl; exact rfl; exact (by omega))))
    refine v_cR (mp [(0, 100), (1, 101)]) hE rfl (cbA rfl) trivial (by kernel_rfl) (by kernel_rfl) (by kernel_rfl) (by kernel_rfl) (by kernel_rfl) (by kernel_rfl) (by kernel_rfl) (by kernel_rfl) rfl ?_
    (repeat (first | (apply v_fnNil; exact rfl; exact rfl; exact rfl) | (apply v_move; exact rfl; exact rfl) | (apply v_assign; exact rfl; exact rfl) | refine run_seq ?_ | refine run_region ?_ | refine runL_nil ?_ | refine run_skip ?_ | refine run_block ?_ | refine run_inBlock ?_ | (apply run_exit; exact rfl) | (apply v_extract; exact rfl; exact rfl; exact rfl) | (apply v_fldP; exact flA rfl; exact rfl; exact rfl; exact rfl) | (apply v_fldA; exact flA rfl; exact rfl; exact rfl; exact rfl) | (apply v_loadB; exact tyA rfl; exact rfl; exact rfl; exact rfl; exact rfl; exact rfl; exact rfl) | (apply v_loadA; exact tyA rfl; exact rfl; exact rfl; exact rfl; exact rfl; exact rfl; exact rfl) | (apply v_on; exact rfl) | (apply v_off; exact rfl; exact rfl) | (apply v_off0; exact rfl) | (apply v_pick_t; exact rfl; exact rfl; exact rfl) | (apply v_pick_f; exact rfl; exact rfl; exact rfl) | (apply run_cond; exact rfl; rotate_left; (focus (intro hb; cases hb; done)); intro hb; clear hb) | (apply run_cond; exact rfl; (focus (intro hb; cases hb; done)); intro hb; clear hb) | (apply v_not; exact rfl; exact rfl) | (apply v_lss; exact rfl; exact rfl; exact rfl) | (apply v_eql; exact rfl; exact rfl; exact rfl) | (apply v_neq; exact rfl; exact rfl; exact rfl) | (apply v_gtr; exact rfl; exact rfl; exact rfl) | (apply v_leq; exact rfl; exact rfl; exact rfl) | (apply v_geq; exact rfl; exact rfl; exact rfl) | (apply v_lenL; exact slA rfl; exact rfl; exact rfl) | (apply v_lenO; exact slA rfl; exact rfl; exact rfl; exact rfl) | (apply v_lenN; exact slA rfl; exact rfl; exact rfl) | (apply v_nilEql; exact ptA rfl; exact rfl; exact rfl) | (apply v_nilNeq; exact ptA rfl; exact rfl; exact rfl) | (apply v_eqlNil; exact ptA rfl; exact rfl; exact NN.adr; exact rfl) | (apply v_neqNil; exact ptA rfl; exact rfl; exact NN.adr; exact rfl) | (apply v_eqlNil; exact ptA rfl; exact rfl; exact NN.ptr; exact rfl) | (apply v_neqNil; exact ptA rfl; exact rfl; exact NN.ptr; exact rfl) | (apply v_eqlNil; exact ptA rfl; exact rfl; exact NN.box rfl; exact rfl) | (apply v_neqNil; exact ptA rfl; exact rfl; exact NN.box rfl; exact rfl) | (apply v_nilCheck; exact rfl; exact NN.adr; exact rfl) | (apply v_nilCheck; exact rfl; exact NN.ptr; exact rfl) | (apply v_nilCheck; exact rfl; exact NN.box rfl; exact rfl) | (apply v_allocD; exact tyA rfl; exact rfl; exact rfl; exact rfl; exact rfl) | (apply v_boxD; exact rfl; exact rfl; exact rfl; exact rfl; exact rfl; exact rfl; exact rfl) | (apply v_storeW; exact tyA rfl; exact rfl; exact rfl; exact rfl; exact rfl; exact rfl; exact rfl; exact rfl) | (apply v_storeB; exact tyA rfl; exact rfl; exact rfl; exact rfl; exact rfl; exact rfl; exact rfl; exact rfl) | (apply v_eqlS; exact rfl; exact rfl; exact rfl) | (apply v_neqS; exact rfl; exact rfl; exact rfl) | (apply v_eqlB; exact boA rfl; exact rfl; exact rfl; exact rfl) | (apply v_neqB; exact boA rfl; exact rfl; exact rfl; exact rfl) | (apply v_b; exact plA rfl; exact tyA rfl; exact rfl; exact rfl; exact rfl) | (apply v_f; exact rfl; exact rfl) | (apply v_sliceH; exact slA rfl; exact tyA rfl; exact rfl; exact rfl; exact rfl; exact (by omega); exact (by omega); exact rfl) | (apply v_sliceL; exact slA rfl; exact tyA rfl; exact rfl; exact rfl; exact rfl; exact (by omega); exact (by omega); exact rfl) | (apply v_add; exact rfl; exact rfl; exact rfl; exact (by omega)) | (apply v_sub; exact rfl; exact rfl; exact rfl; exact (by omega))))
    refine .mk fun a1 w1 hs1 => ?_
    obtain ⟨ι1, F1, S1, hA⟩ := hs1
    obtain ⟨b7, u7, i7, h7, v7, n7, l7, s7, f7⟩ := sim_box hA rfl (g := 7) (T := 5) (x := .v (.int .u8 few)) rfl
    obtain ⟨b8, u8, i8, h8', v8, n8, l8, s8, f8⟩ := sim_box hA rfl (g := 8) (T := 4) (x := .v (.bool false)) rfl
    obtain ⟨b9, u9, i9, h9, v9, n9, l9, s9, f9⟩ := sim_box hA rfl (g := 9) (T := 41) (x := .sem (listS tnE (turnsM xs bub))) rfl
    obtain ⟨b11, u11, i11, h11, v11, n11, l11, s11, f11⟩ := sim_box hA rfl (g := 11) (T := 3) (x := .v (.int .i64 0)) rfl
    obtain ⟨bP, uP, iP, hP, vP, nP, lP, sP, fP⟩ := sim_box hA rfl (g := 100) (T := 40) (x := .sem (listB w.heap.size stE xs)) rfl
    obtain ⟨bB, uB, iB, hB, vB, nB, lB, sB, fB⟩ := sim_box hA rfl (g := 101) (T := 4) (x := .v (.bool bub)) rfl
    have t7 := sim_ptr hA (n := 7) rfl i7
    have t8 := sim_ptr hA (n := 8) rfl i8
    have t9 := sim_ptr hA (n := 9) rfl i9
    have t11 := sim_ptr hA (n := 11) rfl i11
    obtain ⟨uf, t41, vf⟩ := hA.ts 41 (.fn 45 [.ptr 100 0, .ptr 101 0]) rfl
    simp only [AVR] at v7 v8 v11 vB
    obtain ⟨Aw, cw, e9, _, r9⟩ := v9
    obtain ⟨⟨Ap, cp, eP, _, rP⟩, hAp⟩ := vP
    subst v7 v8 v11 vB e9 eP
    have hfn : uf = .func (.func 45) #[] #[.pointer (some ⟨bP, 0, none⟩), .pointer (some ⟨bB, 0, none⟩)] := by
      simp only [AVR, AVRs, iP, iB] at vf
      obtain ⟨us, rfl, _, _, rfl, ⟨_, q1, rfl⟩, _, _, rfl, ⟨_, q2, rfl⟩, rfl⟩ := vf
      simp [baseOf] at q1 q2
      rw [q1, q2]
    subst hfn
    have hTN := list_tnAt r9
    have hTS := list_tnS r9
    have d7 : b7 ≠ b11 := sim_ne hA (g := 7) (g' := 11) rfl rfl rfl rfl (by decide) f7 f11
    have d8 : b8 ≠ b11 := sim_ne hA (g := 8) (g' := 11) rfl rfl rfl rfl (by decide) f8 f11
    have d9 : b9 ≠ b11 := sim_ne hA (g := 9) (g' := 11) rfl rfl rfl rfl (by decide) f9 f11
    have d98 : b9 ≠ b8 := sim_ne hA (g := 9) (g' := 8) rfl rfl rfl rfl (by decide) f9 f8
    have dP : bP ≠ b11 := sim_ne hA (g := 100) (g' := 11) rfl rfl rfl rfl (by decide) fP f11
    have dB : bB ≠ b11 := sim_ne hA (g := 101) (g' := 11) rfl rfl rfl rfl (by decide) fB f11
    have dP8 : bP ≠ b8 := sim_ne hA (g := 100) (g' := 8) rfl rfl rfl rfl (by decide) fP f8
    have dB8 : bB ≠ b8 := sim_ne hA (g := 101) (g' := 8) rfl rfl rfl rfl (by decide) fB f8
    have hST := list_stAt16 rP
    have hAp' : ∀ ad, 0 < xs.length → Ap = some ad → ad.block < w.heap.size := fun ad hn he => hAp hn ad _ _ (by rw [he])
    have hTb : ∀ ad, 0 < (turnsM xs bub).length → Aw = some ad → ad.block ≠ b11 := fun ad hn he q => s11 (by rw [← q]; exact hTS ad hn he)
    have n₀l : w.heap.size ≤ w1.heap.size := hA.sw.but.size
    have hR := fun (w' : World) (u : Value) (hu : u = .bool true) (hb : Below w.heap.size w1 w') => cxR_of (u := u) hA rfl rfl (by rw [hu]) hb
    have hsz := hA.sz
    have hdf := hA.df
    clear hA r9 rP hAp hTS i7 i8 i9 i11 iP iB f7 f8 f9 f11 fP fB s7 s8 s9 s11 sP sB hE hT hT2 hR2 hG2 hRG2 hG hRG hS hh hv vf
    obtain ⟨⟨tm⟩, dfs⟩ := a1
    dsimp only at hdf hsz t7 t8 t9 t11 t41
    subst hdf
    rw [List.size_toArray] at hsz
    obtain ⟨z0, tm0, rfl, hs0⟩ := list_cut hsz; obtain ⟨z1, tm1, rfl, hs1⟩ := list_cut hs0; obtain ⟨z2, tm2, rfl, hs2⟩ := list_cut hs1; obtain ⟨z3, tm3, rfl, hs3⟩ := list_cut hs2; obtain ⟨z4, tm4, rfl, hs4⟩ := list_cut hs3; obtain ⟨z5, tm5, rfl, hs5⟩ := list_cut hs4; obtain ⟨z6, tm6, rfl, hs6⟩ := list_cut hs5; obtain ⟨z7, tm7, rfl, hs7⟩ := list_cut hs6; obtain ⟨z8, tm8, rfl, hs8⟩ := list_cut hs7; obtain ⟨z9, tm9, rfl, hs9⟩ := list_cut hs8; obtain ⟨z10, tm10, rfl, hs10⟩ := list_cut hs9; obtain ⟨z11, tm11, rfl, hs11⟩ := list_cut hs10; obtain ⟨z12, tm12, rfl, hs12⟩ := list_cut hs11; obtain ⟨z13, tm13, rfl, hs13⟩ := list_cut hs12; obtain ⟨z14, tm14, rfl, hs14⟩ := list_cut hs13; obtain ⟨z15, tm15, rfl, hs15⟩ := list_cut hs14; obtain ⟨z16, tm16, rfl, hs16⟩ := list_cut hs15; obtain ⟨z17, tm17, rfl, hs17⟩ := list_cut hs16; obtain ⟨z18, tm18, rfl, hs18⟩ := list_cut hs17; obtain ⟨z19, tm19, rfl, hs19⟩ := list_cut hs18; obtain ⟨z20, tm20, rfl, hs20⟩ := list_cut hs19; obtain ⟨z21, tm21, rfl, hs21⟩ := list_cut hs20; obtain ⟨z22, tm22, rfl, hs22⟩ := list_cut hs21; obtain ⟨z23, tm23, rfl, hs23⟩ := list_cut hs22; obtain ⟨z24, tm24, rfl, hs24⟩ := list_cut hs23; obtain ⟨z25, tm25, rfl, hs25⟩ := list_cut hs24; obtain ⟨z26, tm26, rfl, hs26⟩ := list_cut hs25; obtain ⟨z27, tm27, rfl, hs27⟩ := list_cut hs26; obtain ⟨z28, tm28, rfl, hs28⟩ := list_cut hs27; obtain ⟨z29, tm29, rfl, hs29⟩ := list_cut hs28; obtain ⟨z30, tm30, rfl, hs30⟩ := list_cut hs29; obtain ⟨z31, tm31, rfl, hs31⟩ := list_cut hs30; obtain ⟨z32, tm32, rfl, hs32⟩ := list_cut hs31; obtain ⟨z33, tm33, rfl, hs33⟩ := list_cut hs32; obtain ⟨z34, tm34, rfl, hs34⟩ := list_cut hs33; obtain ⟨z35, tm35, rfl, hs35⟩ := list_cut hs34; obtain ⟨z36, tm36, rfl, hs36⟩ := list_cut hs35; obtain ⟨z37, tm37, rfl, hs37⟩ := list_cut hs36; obtain ⟨z38, tm38, rfl, hs38⟩ := list_cut hs37; obtain ⟨z39, tm39, rfl, hs39⟩ := list_cut hs38; obtain ⟨z40, tm40, rfl, hs40⟩ := list_cut hs39; obtain ⟨z41, tm41, rfl, hs41⟩ := list_cut hs40; obtain ⟨z42, tm42, rfl, hs42⟩ := list_cut hs41; obtain ⟨z43, tm43, rfl, hs43⟩ := list_cut hs42; obtain ⟨z44, tm44, rfl, hs44⟩ := list_cut hs43; obtain ⟨z45, tm45, rfl, hs45⟩ := list_cut hs44; obtain ⟨z46, tm46, rfl, hs46⟩ := list_cut hs45; obtain ⟨z47, tm47, rfl, hs47⟩ := list_cut hs46; obtain ⟨z48, tm48, rfl, hs48⟩ := list_cut hs47; obtain ⟨z49, tm49, rfl, hs49⟩ := list_cut hs48; obtain ⟨z50, tm50, rfl, hs50⟩ := list_cut hs49; obtain ⟨z51, tm51, rfl, hs51⟩ := list_cut hs50; obtain ⟨z52, tm52, rfl, hs52⟩ := list_cut hs51; obtain ⟨z53, tm53, rfl, hs53⟩ := list_cut hs52; obtain ⟨z54, tm54, rfl, hs54⟩ := list_cut hs53; obtain ⟨z55, tm55, rfl, hs55⟩ := list_cut hs54; obtain ⟨z56, tm56, rfl, hs56⟩ := list_cut hs55; obtain ⟨z57, tm57, rfl, hs57⟩ := list_cut hs56; obtain ⟨z58, tm58, rfl, hs58⟩ := list_cut hs57; obtain ⟨z59, tm59, rfl, hs59⟩ := list_cut hs58; obtain ⟨z60, tm60, rfl, hs60⟩ := list_cut hs59; obtain ⟨z61, tm61, rfl, hs61⟩ := list_cut hs60; obtain ⟨z62, tm62, rfl, hs62⟩ := list_cut hs61; obtain ⟨z63, tm63, rfl, hs63⟩ := list_cut hs62; obtain ⟨z64, tm64, rfl, hs64⟩ := list_cut hs63
    obtain rfl := List.eq_nil_of_length_eq_zero hs64
    clear hsz hs0 hs1 hs2 hs3 hs4 hs5 hs6 hs7 hs8 hs9 hs10 hs11 hs12 hs13 hs14 hs15 hs16 hs17 hs18 hs19 hs20 hs21 hs22 hs23 hs24 hs25 hs26 hs27 hs28 hs29 hs30 hs31 hs32 hs33 hs34 hs35 hs36 hs37 hs38 hs39 hs40 hs41 hs42 hs43 hs44 hs45 hs46 hs47 hs48 hs49 hs50 hs51 hs52 hs53 hs54 hs55 hs56 hs57 hs58 hs59 hs60 hs61 hs62 hs63 hs64
    simp only [List.getElem?_toArray, List.getElem?_cons_zero, List.getElem?_cons_succ, Option.some.injEq] at t7 t8 t9 t11 t41
    subst t7 t8 t9 t11 t41
    refine go_marks 10 Try.func7 ?_
    refine wpIn_rangeFunc_c rfl (by omega) (gf := 45) (lb := #[.pointer (some ⟨bP, 0, none⟩), .pointer (some ⟨bB, 0, none⟩)]) (by simp [go_sem]) trivial (enters_of Try.func45 (by kernel_rfl) rfl)
      (each1_c w.heap.size bP bB Ap cp xs bub (by omega) w1 (w1.heap.size + 2) (by omega) n₀l hP hB hST hAp') KpE.t ?kb (Below.refl _ _) (fun _ => rfl)
      (TuI b11 w1 (turnsM xs bub)) (TuS b8 b11 w1 (turnsM xs bub))
      (TuI.own (Nat.le_refl _) _) (fun c => TuS.own (Nat.le_refl _) _ c) ⟨h11, List.nil_prefix, But.refl _ _⟩
      (fun x b => { tmps := #[z0, z1, z2, z3, z4, z5, z6, .pointer (some ⟨b7, 0, none⟩), .pointer (some ⟨b8, 0, none⟩), .pointer (some ⟨b9, 0, none⟩), z10, .pointer (some ⟨b11, 0, none⟩), .pointer (some ⟨b, 0, none⟩), z13, z14, z15, z16, z17, z18, z19, z20, z21, z22, z23, z24, z25, z26, z27, z28, z29, z30, z31, z32, z33, z34, z35, z36, z37, z38, z39, z40, .func (.func 45) #[] #[.pointer (some ⟨bP, 0, none⟩), .pointer (some ⟨bB, 0, none⟩)], .agg #[.int .i64 x.at', .int .i64 x.ph, .bool x.cap], z43, z44, z45, z46, z47, z48, z49, z50, z51, z52, z53, z54, z55, z56, z57, z58, z59, z60, z61, z62, z63, z64], defers := [] })
      (fun x => .cells #[.int .i64 x.at', .int .i64 x.ph, .bool x.cap] 44)
      ?ka ?assign ?body ?done ?stop
    case kb =>
      intro W o o' ho hc
      have hlt := (Array.getElem?_eq_some_iff.1 ho).1
      have hk : ∀ k, k ≠ w1.heap.size + 1 → (W.putObj (w1.heap.size + 1) o').heap[k]? = W.heap[k]? := fun k h => World.putObj_heap_other h
      exact ⟨(Below.refl _ W).grown (grownBy_putObj' W (w1.heap.size + 1) o') (by omega) (fun k e => by cases e; omega), hk _ (by omega), hk _ (by omega), fun k h1 h2 => hk k (by omega), KeepsFrom.of_grownBy (grownBy_putObj' W (w1.heap.size + 1) o') (fun j e => by cases e; omega)⟩
    case ka =>
      intro W o hs
      have hk : ∀ k, k < W.heap.size → (W.alloc o).heap[k]? = W.heap[k]? := fun k h => Below.heap_alloc W o k h
      exact ⟨(Below.refl _ W).alloc (by omega) _, hk _ (by omega), hk _ (by omega), fun k h1 h2 => hk k (by omega), (KeepsOthers.alloc W o).from _⟩
    case assign =>
      intro l x W K hK
      dsimp only [encT]
      gi_wp2
      exact hK
    case body =>
      rintro l pre x b W ⟨hk, hpre, hBW⟩ hb hbo hpl hsW
      have hx : Blk W b 44 _ := hbo
      have hk' : ((pre.length : Nat) : Int).toNat = pre.length := by omega
      have x0 := hx.cell 0; have x1 := hx.cell 1; have x2 := hx.cell 2
      simp at x0 x1 x2
      have q11 := hk.cell
      have z11' := hk.frozen
      have h7W := boxed_but h7 hBW d7
      have h8W := boxed_but h8' hBW d8
      have h9W := boxed_but h9 hBW d9
      have q7 := h7W.cell
      have q8 := h8W.cell
      have z8' := h8W.frozen
      have q9 := h9W.cell
      have hTW := hTN.but hTb hBW
      have d7' := Ne.symm d7
      have d8' := Ne.symm d8
      have d9' := Ne.symm d9
      by_cases hl : pre.length < (turnsM xs bub).length
      · obtain ⟨ba, oa, hAw, hbl, hc⟩ := hTW (by omega)
        subst hAw
        have c0 := hc pre.length 0 hl (by decide)
        have c1 := hc pre.length 1 hl (by decide)
        have c2 := hc pre.length 2 hl (by decide)
        have hd1 : decide ((turnsM xs bub).length ≤ pre.length) = false := by simpa using hl
        have hlx : ((pre.length : Int)) < ((turnsM xs bub).length : Int) := by omega
        obtain ⟨r, hr⟩ := hpre
        have e1 : r = (turnsM xs bub).drop pre.length := by rw [← hr]; simp
        rw [List.drop_eq_getElem_cons hl] at e1
        clear hc
        by_cases hxe : x = (turnsM xs bub)[pre.length]
        · rw [← hxe] at c0 c1 c2 e1
          have hpx : pre ++ [x] <+: turnsM xs bub := ⟨(turnsM xs bub).drop (pre.length + 1), by rw [List.append_assoc, List.singleton_append, ← e1, hr]⟩
          obtain ⟨a1', a2', a3'⟩ := x
          simp only [Tn.cell, Nat.add_zero] at c0 c1 c2
          dsimp only at x0 x1 x2 ⊢
          have hd2 : tnEq a1' a2' a3' a1' a2' a3' = true := decide_eq_true rfl
          have HX := Lib.hid hpx
          clear hpx hxe hpl hr e1
          gi_wp2
          refine wpIn_mono (Q := fun e a' w' => e = .normal ∧ a' = { tmps := #[z0, z1, z2, z3, z4, z5, z6, .pointer (some ⟨b7, 0, none⟩), .pointer (some ⟨b8, 0, none⟩), .pointer (some ⟨b9, 0, none⟩), z10, .pointer (some ⟨b11, 0, none⟩), .pointer (some ⟨b, 0, none⟩), z13, z14, z15, z16, z17, z18, z19, z20, z21, z22, z23, z24, z25, z26, z27, z28, z29, z30, z31, z32, z33, z34, z35, z36, z37, z38, z39, z40, .func (.func 45) #[] #[.pointer (some ⟨bP, 0, none⟩), .pointer (some ⟨bB, 0, none⟩)], .agg #[.int .i64 a1', .int .i64 a2', .bool a3'], .int .i64 (pre.length : Int), .slice (some ⟨ba, oa, none⟩) (turnsM xs bub).length cw, .int .i64 ((turnsM xs bub).length : Int), .bool false, .bool false, .agg #[.int .i64 a1', .int .i64 a2', .bool a3'], .slice (some ⟨ba, oa, none⟩) (turnsM xs bub).length cw, .int .i64 (pre.length : Int), .pointer (some ⟨ba, oa + pre.length * 3, none⟩), .agg #[.int .i64 a1', .int .i64 a2', .bool a3'], .bool false, .bool false, z55, z56, z57, z58, z59, z60, z61, z62, z63, z64], defers := [] } ∧ w' = W.drew) ?_ ?_
          · clear hk hBW h7W h8W h9W hTW hP hB hST hTN h7 h8' h9 h11
            gi_region
            all_goals exact ⟨rfl, rfl, rfl⟩
          rintro e a' w' ⟨rfl, rfl, rfl⟩
          have HS := Lib.hid (tu_step (n₀ := w.heap.size) (bP := bP) (bB := bB) (B := w1.heap.size) (lo := w1.heap.size + 2) hk hBW HX.out n11 dP dB (by omega))
          by_cases hfew : few < (pre.length : Int) + 1
          · have hd3 : decide (few < (pre.length : Int) + 1) = true := decide_eq_true hfew
            have HS2 := Lib.hid (tu_out (n₀ := w.heap.size) (bP := bP) (bB := bB) (B := w1.heap.size) (lo := w1.heap.size + 2) h8W hk hBW HX.out n8 n11 dP dB dP8 dB8 d8 (by omega) (by omega))
            gi_wp2
            exact HS2.out
          · have hd3 : decide (few < (pre.length : Int) + 1) = false := decide_eq_false hfew
            gi_wp2
            exact HS.out
        · have hnp : ¬ pre ++ [x] <+: turnsM xs bub := fun ⟨q, hq⟩ => hxe (by
            rw [List.append_assoc, ← hr] at hq
            have := List.append_cancel_left hq
            rw [e1] at this
            exact (List.cons.inj this).1)
          obtain ⟨y, hy⟩ : ∃ y, (turnsM xs bub)[pre.length] = y := ⟨_, rfl⟩
          rw [hy] at c0 c1 c2 hxe
          obtain ⟨a1', a2', a3'⟩ := x
          obtain ⟨y1, y2, y3⟩ := y
          simp only [Tn.cell, Nat.add_zero] at c0 c1 c2
          dsimp only at x0 x1 x2 ⊢
          have hd2 : tnEq a1' a2' a3' y1 y2 y3 = false := decide_eq_false hxe
          have HX := Lib.hid hnp
          clear hnp hpl hr e1 hy
          gi_wp2
          refine wpIn_mono (Q := fun e a' w' => e = .normal ∧ a' = { tmps := #[z0, z1, z2, z3, z4, z5, z6, .pointer (some ⟨b7, 0, none⟩), .pointer (some ⟨b8, 0, none⟩), .pointer (some ⟨b9, 0, none⟩), z10, .pointer (some ⟨b11, 0, none⟩), .pointer (some ⟨b, 0, none⟩), z13, z14, z15, z16, z17, z18, z19, z20, z21, z22, z23, z24, z25, z26, z27, z28, z29, z30, z31, z32, z33, z34, z35, z36, z37, z38, z39, z40, .func (.func 45) #[] #[.pointer (some ⟨bP, 0, none⟩), .pointer (some ⟨bB, 0, none⟩)], .agg #[.int .i64 a1', .int .i64 a2', .bool a3'], .int .i64 (pre.length : Int), .slice (some ⟨ba, oa, none⟩) (turnsM xs bub).length cw, .int .i64 ((turnsM xs bub).length : Int), .bool false, .bool false, .agg #[.int .i64 a1', .int .i64 a2', .bool a3'], .slice (some ⟨ba, oa, none⟩) (turnsM xs bub).length cw, .int .i64 (pre.length : Int), .pointer (some ⟨ba, oa + pre.length * 3, none⟩), .agg #[.int .i64 y1, .int .i64 y2, .bool y3], .bool true, .bool true, z55, z56, z57, z58, z59, z60, z61, z62, z63, z64], defers := [] } ∧ w' = W.drew) ?_ ?_
          · clear hk hBW h7W h8W h9W hTW hP hB hST hTN h7 h8' h9 h11
            gi_region
            all_goals exact ⟨rfl, rfl, rfl⟩
          rintro e a' w' ⟨rfl, rfl, rfl⟩
          have HB := Lib.hid (ea_bad (W := W) (v := .bool false) (n₀ := w.heap.size) (B := w1.heap.size) (lo := w1.heap.size + 2) n8 dP8 dB8 (by omega))
          gi_wp2
          exact ⟨HB.out.1, HB.out.2, rfl, .inl HX.out⟩
      · have hd1 : decide ((turnsM xs bub).length ≤ pre.length) = true := by simpa using Nat.le_of_not_lt hl
        have hnp : ¬ pre ++ [x] <+: turnsM xs bub := fun h => by
          have := h.length_le
          simp at this
          omega
        obtain ⟨a1', a2', a3'⟩ := x
        dsimp only at x0 x1 x2 ⊢
        have HX := Lib.hid hnp
        clear hnp hpl hpre
        gi_wp2
        refine wpIn_mono (Q := fun e a' w' => e = .normal ∧ a' = { tmps := #[z0, z1, z2, z3, z4, z5, z6, .pointer (some ⟨b7, 0, none⟩), .pointer (some ⟨b8, 0, none⟩), .pointer (some ⟨b9, 0, none⟩), z10, .pointer (some ⟨b11, 0, none⟩), .pointer (some ⟨b, 0, none⟩), z13, z14, z15, z16, z17, z18, z19, z20, z21, z22, z23, z24, z25, z26, z27, z28, z29, z30, z31, z32, z33, z34, z35, z36, z37, z38, z39, z40, .func (.func 45) #[] #[.pointer (some ⟨bP, 0, none⟩), .pointer (some ⟨bB, 0, none⟩)], .agg #[.int .i64 a1', .int .i64 a2', .bool a3'], .int .i64 (pre.length : Int), .slice Aw (turnsM xs bub).length cw, .int .i64 ((turnsM xs bub).length : Int), .bool true, .bool true, undef, undef, undef, undef, undef, undef, .bool true, z55, z56, z57, z58, z59, z60, z61, z62, z63, z64], defers := [] } ∧ w' = W.drew) ?_ ?_
        · clear hk hBW h7W h8W h9W hTW hP hB hST hTN h7 h8' h9 h11
          gi_region
          all_goals exact ⟨rfl, rfl, rfl⟩
        rintro e a' w' ⟨rfl, rfl, rfl⟩
        have HB := Lib.hid (ea_bad (W := W) (v := .bool false) (n₀ := w.heap.size) (B := w1.heap.size) (lo := w1.heap.size + 2) n8 dP8 dB8 (by omega))
        gi_wp2
        exact ⟨HB.out.1, HB.out.2, rfl, .inl HX.out⟩
    case done =>
      rintro D ys W3 rfl hs3 rfl ⟨hk3, _, hB3⟩ hK
      have h8W := boxed_but h8' hB3 d8
      have h9W := boxed_but h9 hB3 d9
      have q8 := h8W.cell
      have z8' := h8W.frozen
      have q9 := h9W.cell
      have q11 := hk3.cell
      refine go_inBlock (go_marks 10 Try.func7 ?_)
      dsimp only
      gi_wp2
      refine tail_ret (marks_leave w1.heap.size [w1.heap.size] _ (by simp) (fun D' hD' => ?_) fun w' hb hs => ?_)
      · rw [List.mem_singleton.1 hD']
        exact ⟨Nat.le_refl _, (Below.heap_setCell W3 ⟨b8, 0, none⟩ _ _ (by show w1.heap.size ≠ b8; omega)).trans hK⟩
      · have hc : w'.cell? ⟨b8, 0, none⟩ = some (.bool true) := (hb.cell (p := ⟨b8, 0, none⟩) l8).trans (h8W.set (.bool true)).cell
        refine ⟨.bool true, ?_, hR w' _ rfl ((below_but hB3 (fun k hk => by rw [hk]; exact n11) n₀l).setCell (p := ⟨b8, 0, none⟩) n8 _ |>.trans (hb.mono n₀l))⟩
        simp [results, Try.f7, go_sem, hc]
    case stop =>
      rintro D c pre W3 rfl hs3 hsp ⟨rfl, hnp | ⟨h8W, hB3⟩⟩ hK
      · exact absurd hsp hnp
      · gi_wp2
        refine tail_ret (marks_leave w1.heap.size [w1.heap.size] _ (by simp) (fun D' hD' => ?_) fun w' hb hs => ?_)
        · rw [List.mem_singleton.1 hD']
          exact ⟨Nat.le_refl _, hK⟩
        · have hc : w'.cell? ⟨b8, 0, none⟩ = some (.bool true) := (hb.cell (p := ⟨b8, 0, none⟩) l8).trans h8W.cell
          refine ⟨.bool true, ?_, hR w' _ rfl ((below_but hB3 (fun k hk => by rcases hk with rfl | rfl <;> assumption) n₀l).trans (hb.mono n₀l))⟩
          simp [results, Try.f7, go_sem, hc]
theorem walkTurns_walk (A : Option Addr) (c0 : Nat) (xs : List St) (bub : Bool) (at_ few : Int) (W : World) (hv : AVRs ι0 (fun k => k < W.heap.size) W [.sem (listS stE xs)] [.slice A xs.length c0]) (hm : xs.length ≤ 9223372036854775807) (hw : (Lit.int .u8 few).wf = true) : Calls Try.prog 7 #[.slice A xs.length c0, .bool bub, .int .i64 at_, .int .u8 few] W fun e w' => e = .returned (.bool true) ∧ Below W.heap.size W w' :=
  Fun.calls (walkTurns_f bub at_ few (wf8 hw).1 (wf8 hw).2 hm) (hv.append (AVRs_v [.bool bub, .int .i64 at_, .int .u8 few]))
end Go.Proofs.Ytpmeffdcbjakoaa
