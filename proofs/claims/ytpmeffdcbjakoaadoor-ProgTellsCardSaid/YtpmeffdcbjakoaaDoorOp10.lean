/- ref19.Same, ref20.Same, of the same; slices.Clone; prog.Call. -/
import Derived.Test.YtpmeffdcbjakoaaDoorOp9
import Derived.Laws.StructEq
namespace Go.Proofs.YtpmeffdcbjakoaaDoor
set_option linter.unusedVariables false
set_option linter.unusedSimpArgs false
set_option maxRecDepth 100000
open Go.RowKit

def opV (x : OpD) : List Value := [.int .i64 x.code, .int .i64 x.a, .int .i64 x.b, .int .i64 x.c, .int .i64 x.d, .string x.s]
theorem op_avr {ι : Nat → Value} {S : Bl} {w : World} {x : OpD} {u : Value} (h : AVR ι S w (.agg (opL x)) u) : u = .agg (opV x).toArray := by
  simp only [AVR] at h
  obtain ⟨us, e, hu⟩ := h
  simp only [opL, AVRs, AVR] at hu
  obtain ⟨_, _, rfl, ⟨rfl, _⟩, _, _, rfl, rfl, _, _, rfl, rfl, _, _, rfl, rfl, _, _, rfl, rfl, _, _, rfl, rfl, rfl⟩ := hu
  exact e
theorem op_eq (w : World) (a : OpD) : (Op.equalIn 10000 33 (.agg (opV a).toArray) (.agg (opV a).toArray)).run Tryd.prog w = .ok true w := by
  have hS : Tryd.prog.underlying 33 = some (.struct (Tryd.prog.fieldsOf 33)) := by kernel_rfl
  have hp : Tryd.prog.stoodInHeld 33 = false := by kernel_rfl
  rw [show (10000 : Nat) = 9999 + 1 from rfl, run_equalIn_agg w 9999 33 _ _ hS hp]
  obtain ⟨f1, f2, f3, f4, f5, f6, hf, n1, n2, n3, n4, n5, n6, t1, t2, t3, t4, t5, t6, o1, o2, o3, o4, o5, o6⟩ : ∃ f1 f2 f3 f4 f5 f6 : Field, (Tryd.prog.fieldsOf 33).toList = [f1, f2, f3, f4, f5, f6] ∧ f1.name ≠ "_" ∧ f2.name ≠ "_" ∧ f3.name ≠ "_" ∧ f4.name ≠ "_" ∧ f5.name ≠ "_" ∧ f6.name ≠ "_" ∧ f1.type = 3 ∧ f2.type = 3 ∧ f3.type = 3 ∧ f4.type = 3 ∧ f5.type = 3 ∧ f6.type = 9 ∧ f1.offset = 0 ∧ f2.offset = 1 ∧ f3.offset = 2 ∧ f4.offset = 3 ∧ f5.offset = 4 ∧ f6.offset = 5 := by
    refine ⟨_, _, _, _, _, _, rfl, ?_, ?_, ?_, ?_, ?_, ?_, ?_, ?_, ?_, ?_, ?_, ?_, ?_, ?_, ?_, ?_, ?_, ?_⟩ <;> first | kernel_rfl | decide
  have u3 := Tryd.underlying3
  have a3 := Tryd.isAgg3
  have z3 := Tryd.sizeOf3
  have u4 := Tryd.underlying9
  have a4 := Tryd.isAgg9
  have z4 := Tryd.sizeOf9
  rw [hf]
  simp only [Op.eqFields, n1, n2, n3, n4, n5, n6, t1, t2, t3, t4, t5, t6, o1, o2, o3, o4, o5, o6, opV, ne_eq, not_false_eq_true, if_true]
  simp [go_sem, u3, a3, z3, u4, a4, z4]
theorem op_guard (op : BinOp) (x y : Operand) (a : OpD) (w : World) : (eqGuard op 33 x y (.agg (opV a).toArray) (.agg (opV a).toArray)).run Tryd.prog w = .ok () w := run_eqGuard_agg w op _ x y _ _ (by kernel_rfl)
section
variable {C : Cx} {r : List (Nat × RK)} {o : Oper} {x y : Operand} {ty' : TypeId} {a : OpD}
theorem op_neqOp (hP : C.P = Tryd.prog) (ho : o.op = .binOp .neq 33 x y ty') : OpPure C r o [(x, .agg (opL a)), (y, .agg (opL a))] (.v (.bool false)) := OpPure.here fun ι F S w ρ hs hr => by
  have h1 := op_avr (hr (x, .agg (opL a)) (by simp))
  have h2 := op_avr (hr (y, .agg (opL a)) (by simp))
  dsimp only at h1 h2
  have h3 := op_guard .neq x y a w
  have h4 := op_eq w a
  rw [← hP] at h3 h4
  refine ⟨.bool false, ?_, by simp [AVR]⟩
  simp [execOp, ho, h1, h2, h3, run_neq_struct, h4]
end
section
variable {C : Cx} {k : List Item} {t t0 : List (Nat × AV)} {r r0 : List (Nat × RK)} {ops : Array Oper} {rest : List Oper} {qs : List PIt} {o : Oper}
variable {d : Nat} {ty ty' t2 : TypeId} {pos : String} {af : Array Edge} {x y z : Operand} {g : Nat} {gd : Option (Nat × Bool)} {a : OpD}
theorem p_neqOp (hP : C.P = Tryd.prog) (hx : evalA t x = some (.agg (opL a))) (hy : evalA t y = some (.agg (opL a))) (hn : Nat.blt d C.N = true) (hgd : wantedA t ops ⟨some d, .binOp .neq 33 x y t2, ty, pos, af, gd⟩ = some true) (hk : PlanL C ops t0 r0 (⟨some d, .v (.bool false), [], [], []⟩ :: qs) rest ⟨(d, .v (.bool false)) :: t, r⟩ k) : PlanL C ops t0 r0 qs (⟨some d, .binOp .neq 33 x y t2, ty, pos, af, gd⟩ :: rest) ⟨t, r⟩ k := planL_2 hgd rfl hn hx hy (by simp [Op.operands, Call.operands]) (by simp [Op.operands, Call.operands]) [] (fun r' _ => op_neqOp hP rfl) hk
end
theorem same19_f {a : List OpD} (ha : a.length ≤ 9223372036854775807) : Fun Tryd.prog 11 [.sem (listS opE a), .sem (listS opE a)] [] (.v (.bool true)) [] := by
  refine fun_intro 26 Tryd.func11 rfl rfl rfl (fun ι F S w => ?_)
  (repeat (first | (apply v_move; exact rfl; exact rfl) | (apply v_assign; exact rfl; exact rfl) | refine run_seq ?_ | refine run_region ?_ | refine runL_nil ?_ | (apply v_neq; exact rfl; exact rfl; exact rfl) | (apply v_lenL; exact slA rfl; exact rfl; exact rfl)))
  refine run_condN rfl (by simp) ?_
  (repeat (first | (apply v_assign; exact rfl; exact rfl) | refine run_seq ?_ | refine run_region ?_ | refine runL_nil ?_ | refine run_skip ?_ | refine run_block ?_))
  refine v_loop (fun i : Nat => ⟨[(0, .sem (listS opE a)), (1, .sem (listS opE a)), (5, .v (.int .i64 i))], []⟩) (fun i => i ≤ a.length) (fun i => a.length - i) 0 idN trivial (by repeat (first | exact trivial | refine ⟨rfl, ?_⟩)) (by repeat (first | exact trivial | refine ⟨rfl, ?_⟩)) rfl (by simp) fun i hi ih => ?_
  (repeat (first | (apply v_move; exact rfl; exact rfl) | refine run_seq ?_ | refine run_region ?_ | refine runL_nil ?_ | (apply v_lss; exact rfl; exact rfl; exact rfl) | (apply v_lenL; exact slA rfl; exact rfl; exact rfl)))
  refine run_cond rfl (fun hc => ?_) (fun hc => ?_)
  · have hlt : i < a.length := by simpa using hc
    have hxa : a[((i : Int)).toNat]? = some a[i] := by simp [hlt]
    generalize a[i] = u at *
    (repeat (first | refine run_seq ?_ | refine run_skip ?_ | refine run_block ?_))
    refine run_draws (by kernel_rfl) (by kernel_rfl) ?_
    (repeat (first | (apply p_idxL; exact slA rfl; exact tyA rfl; exact rfl; exact rfl; exact rfl; exact rfl; exact (by omega); (first | exact hxa); exact rfl; exact rfl) | (apply p_neqOp; exact rfl; exact rfl; exact rfl; exact rfl; exact rfl) | (apply p_move; exact rfl; exact rfl; exact rfl) | (apply p_loadA; exact tyA rfl; exact rfl; exact rfl; exact rfl; exact rfl; exact rfl; exact rfl; exact rfl)))
    refine planL_nil (by kernel_rfl) ?_
    refine run_condN rfl rfl ?_
    (repeat (first | (apply v_move; exact rfl; exact rfl) | (apply v_assign; exact rfl; exact rfl) | refine run_region ?_ | refine runL_nil ?_ | refine run_skip ?_ | refine run_inBlock ?_ | (apply v_add; exact rfl; exact rfl; exact rfl; exact (by omega))))
    exact v_again ih (i + 1) idN trivial (by repeat (first | exact trivial | refine ⟨rfl, ?_⟩)) (by repeat (first | exact trivial | refine ⟨rfl, ?_⟩)) rfl (by omega) (by omega)
  · (repeat (first | (apply v_assign; exact rfl; exact rfl) | refine run_seq ?_ | refine run_region ?_ | refine runL_nil ?_ | (apply run_exit; exact rfl)))
    exact run_ret idN _ Tryd.func11 ⟨_, _, rfl, rfl, rfl⟩ rfl trivial trivial rfl
theorem same20_f {main : List OpD} {calls : List (List OpD)} (hl : calls.length ≤ 9223372036854775807) (hm : main.length ≤ 9223372036854775807) (hcs : ∀ l ∈ calls, l.length ≤ 9223372036854775807) : Fun Tryd.prog 13 [progA main calls, progA main calls] [] (.v (.bool true)) [] := by
  have h1 := same19_f hm
  refine fun_intro 40 Tryd.func13 rfl rfl rfl (fun ι F S w => ?_)
  (repeat (first | (apply v_cx; exact rfl; exact cbA rfl; (first | exact h1); exact rfl; exact rfl) | (apply v_move; exact rfl; exact rfl) | (apply v_assign; exact rfl; exact rfl) | refine run_seq ?_ | refine run_region ?_ | refine runL_nil ?_ | (apply v_fldP; exact flA rfl; exact rfl; exact rfl; exact rfl) | (apply v_loadB; exact tyA rfl; exact rfl; exact rfl; exact rfl; exact rfl; exact rfl; exact rfl) | (apply v_on; exact rfl) | (apply v_pick_f; exact rfl; exact rfl; exact rfl) | (apply v_not; exact rfl; exact rfl) | (apply v_neq; exact rfl; exact rfl; exact rfl) | (apply v_lenL; exact slA rfl; exact rfl; exact rfl) | (apply v_boxD; exact rfl; exact rfl; exact rfl; exact rfl; exact rfl; exact rfl; exact rfl)))
  refine run_condN rfl (by simp) ?_
  (repeat (first | (apply v_assign; exact rfl; exact rfl) | refine run_seq ?_ | refine run_region ?_ | refine runL_nil ?_ | refine run_skip ?_ | refine run_block ?_))
  refine v_loop (fun i : Nat => ⟨[(2, .ptr 2 0), (3, .ptr 3 0), (5, .v (.int .i64 i))], [(2, .box 25 [.sem (listS opE main), .sem (listS callE calls)]), (3, .box 25 [.sem (listS opE main), .sem (listS callE calls)])]⟩) (fun i => i ≤ calls.length) (fun i => calls.length - i) 0 idN trivial (by repeat (first | exact trivial | refine ⟨rfl, ?_⟩)) (by repeat (first | exact trivial | refine ⟨rfl, ?_⟩)) rfl (by simp) fun i hi ih => ?_
  (repeat (first | (apply v_move; exact rfl; exact rfl) | refine run_seq ?_ | refine run_region ?_ | refine runL_nil ?_ | (apply v_fldP; exact flA rfl; exact rfl; exact rfl; exact rfl) | (apply v_loadB; exact tyA rfl; exact rfl; exact rfl; exact rfl; exact rfl; exact rfl; exact rfl) | (apply v_lss; exact rfl; exact rfl; exact rfl) | (apply v_lenL; exact slA rfl; exact rfl; exact rfl)))
  refine run_cond rfl (fun hc => ?_) (fun hc => ?_)
  · have hlt : i < calls.length := by simpa using hc
    have hxa : calls[((i : Int)).toNat]? = some calls[i] := by simp [hlt]
    have h2 := same19_f (hcs calls[i] (List.getElem_mem hlt))
    generalize calls[i] = u at *
    (repeat (first | refine run_seq ?_ | refine run_skip ?_ | refine run_block ?_))
    refine run_draws (by kernel_rfl) (by kernel_rfl) ?_
    (repeat (first | (apply p_idxL; exact slA rfl; exact tyA rfl; exact rfl; exact rfl; exact rfl; exact rfl; exact (by omega); (first | exact hxa); exact rfl; exact rfl) | (apply p_cx; exact rfl; exact cbA rfl; (first | exact h2); exact rfl; exact rfl; exact rfl) | (apply p_move; exact rfl; exact rfl; exact rfl) | (apply p_fldP; exact flA rfl; exact rfl; exact rfl; exact rfl; exact rfl) | (apply p_loadB; exact tyA rfl; exact rfl; exact rfl; exact rfl; exact rfl; exact rfl; exact rfl; exact rfl) | (apply p_loadA; exact tyA rfl; exact rfl; exact rfl; exact rfl; exact rfl; exact rfl; exact rfl; exact rfl) | (apply p_not; exact rfl; exact rfl; exact rfl)))
    refine planL_nil (by kernel_rfl) ?_
    (repeat (first | (apply v_move; exact rfl; exact rfl) | (apply v_assign; exact rfl; exact rfl) | refine run_region ?_ | refine runL_nil ?_ | refine run_skip ?_ | refine run_inBlock ?_ | (apply run_cond; exact rfl; (focus (intro hb; cases hb; done)); intro hb; clear hb) | (apply v_add; exact rfl; exact rfl; exact rfl; exact (by omega))))
    exact v_again ih (i + 1) idN trivial (by repeat (first | exact trivial | refine ⟨rfl, ?_⟩)) (by repeat (first | exact trivial | refine ⟨rfl, ?_⟩)) rfl (by omega) (by omega)
  · (repeat (first | (apply v_assign; exact rfl; exact rfl) | refine run_seq ?_ | refine run_region ?_ | refine runL_nil ?_ | (apply run_exit; exact rfl)))
    exact run_ret idN _ Tryd.func13 ⟨_, _, rfl, rfl, rfl⟩ rfl trivial trivial rfl
theorem cloneOp_f {xs : List OpD} (hm : xs.length ≤ 1000000) : Fun Tryd.prog 16 [.sem (listS opE xs)] [] (.res 0) [(0, .obj (ownS 33 opE xs))] := by
  refine fun_intro 8 Tryd.func16 rfl rfl rfl (fun ι F S w => ?_)
  (repeat (first | (apply v_move; exact rfl; exact rfl) | (apply v_assign; exact rfl; exact rfl) | refine run_seq ?_ | refine run_region ?_ | refine runL_nil ?_))
  refine v_sliceNil (slA rfl) rfl rfl (by decide) fun b hb => ?_
  refine runL_nil ?_
  refine run_cond rfl (fun h => ?_) (fun h => ?_)
  · obtain rfl := hb h
    (repeat (first | (apply v_assign; exact rfl; exact rfl) | refine run_seq ?_ | refine run_region ?_ | refine runL_nil ?_))
    refine run_own 2 2 33 opE rfl rfl rfl rfl ?_
    exact run_ret (mp [(0, 2)]) _ Tryd.func16 ⟨_, _, rfl, rfl, rfl⟩ rfl trivial ⟨rfl, trivial⟩ rfl
  · (repeat (first | refine run_seq ?_ | refine run_region ?_ | refine run_skip ?_))
    refine v_litO opE [] [] [] (slA rfl) (tyA rfl) rfl rfl trivial rfl rfl rfl rfl rfl rfl rfl rfl rfl rfl rfl rfl ?_
    (repeat (first | (apply v_move; exact rfl; exact rfl)))
    refine v_appendD (slA rfl) (tyA rfl) rfl rfl rfl rfl rfl rfl rfl (by simpa using hm) rfl rfl rfl rfl ?_
    (repeat (first | (apply v_assign; exact rfl; exact rfl) | refine runL_nil ?_))
    exact run_ret (mp [(0, 7)]) _ Tryd.func16 ⟨_, _, rfl, rfl, rfl⟩ rfl trivial ⟨rfl, trivial⟩ rfl
/-- prog.Call. -/
theorem call_in {main : List OpD} {calls : List (List OpD)} {cb : Int} {l : List OpD} (h1 : 1 ≤ cb) (h2 : cb ≤ calls.length) (hx : calls[(cb - 1).toNat]? = some l) (hl : calls.length ≤ 9223372036854775807) (hm : l.length ≤ 1000000) : Fun Tryd.prog 9 [progA main calls, .v (.int .i64 cb)] [] (.tup [.res 0, .v (.bool true)]) [(0, .obj (ownS 33 opE l))] := by
  have hc := cloneOp_f hm
  refine fun_intro 22 Tryd.func9 rfl rfl rfl (fun ι F S w => ?_)
  (repeat (first | (apply v_move; exact rfl; exact rfl) | (apply v_assign; exact rfl; exact rfl) | refine run_seq ?_ | refine run_region ?_ | refine runL_nil ?_ | (apply v_lss; exact rfl; exact rfl; exact rfl) | (apply v_boxD; exact rfl; exact rfl; exact rfl; exact rfl; exact rfl; exact rfl; exact rfl)))
  refine v_is 8 false rfl (by simpa using h1) ?_
  (repeat (first | (apply v_move; exact rfl; exact rfl) | refine runL_nil ?_ | (apply v_fldP; exact flA rfl; exact rfl; exact rfl; exact rfl) | (apply v_loadB; exact tyA rfl; exact rfl; exact rfl; exact rfl; exact rfl; exact rfl; exact rfl) | (apply v_on; exact rfl) | (apply v_pick_f; exact rfl; exact rfl; exact rfl) | (apply v_gtr; exact rfl; exact rfl; exact rfl) | (apply v_lenL; exact slA rfl; exact rfl; exact rfl)))
  refine run_condN rfl (by simp; omega) ?_
  (repeat (first | (apply v_idxL; exact slA rfl; exact tyA rfl; exact rfl; exact rfl; exact rfl; exact rfl; exact (by omega); (first | exact hx); exact rfl) | (apply v_cOx; exact rfl; exact cbA rfl; (first | exact hc); exact rfl; exact rfl; exact rfl; exact rfl; exact rfl) | (apply v_move; exact rfl; exact rfl) | (apply v_assign; exact rfl; exact rfl) | refine run_seq ?_ | refine run_region ?_ | refine runL_nil ?_ | refine run_skip ?_ | (apply v_fldP; exact flA rfl; exact rfl; exact rfl; exact rfl) | (apply v_loadB; exact tyA rfl; exact rfl; exact rfl; exact rfl; exact rfl; exact rfl; exact rfl) | (apply v_loadA; exact tyA rfl; exact rfl; exact rfl; exact rfl; exact rfl; exact rfl; exact rfl) | (apply v_sub; exact rfl; exact rfl; exact rfl; exact (by omega))))
  exact run_ret (mp [(0, 21)]) _ Tryd.func9 ⟨_, _, rfl, rfl, _, _, rfl, rfl, rfl⟩ rfl trivial ⟨rfl, trivial⟩ rfl
theorem call_out {main : List OpD} {calls : List (List OpD)} {cb : Int} (h : ¬ (1 ≤ cb ∧ cb ≤ calls.length)) (hl : calls.length ≤ 9223372036854775807) : Fun Tryd.prog 9 [progA main calls, .v (.int .i64 cb)] [] (.tup [.v (.slice none 0 0), .v (.bool false)]) [] := by
  by_cases h1 : 1 ≤ cb
  · refine fun_intro 22 Tryd.func9 rfl rfl rfl (fun ι F S w => ?_)
    (repeat (first | (apply v_move; exact rfl; exact rfl) | (apply v_assign; exact rfl; exact rfl) | refine run_seq ?_ | refine run_region ?_ | refine runL_nil ?_ | (apply v_lss; exact rfl; exact rfl; exact rfl) | (apply v_boxD; exact rfl; exact rfl; exact rfl; exact rfl; exact rfl; exact rfl; exact rfl)))
    refine v_is 8 false rfl (by simpa using h1) ?_
    (repeat (first | (apply v_move; exact rfl; exact rfl) | refine runL_nil ?_ | (apply v_fldP; exact flA rfl; exact rfl; exact rfl; exact rfl) | (apply v_loadB; exact tyA rfl; exact rfl; exact rfl; exact rfl; exact rfl; exact rfl; exact rfl) | (apply v_on; exact rfl) | (apply v_pick_f; exact rfl; exact rfl; exact rfl) | (apply v_gtr; exact rfl; exact rfl; exact rfl) | (apply v_lenL; exact slA rfl; exact rfl; exact rfl)))
    refine run_condY rfl (by simp; omega) ?_
    (repeat (first | (apply v_assign; exact rfl; exact rfl) | refine run_seq ?_ | refine run_region ?_ | refine runL_nil ?_))
    exact run_ret idN _ Tryd.func9 ⟨_, _, rfl, rfl, _, _, rfl, rfl, rfl⟩ rfl trivial trivial rfl
  · refine fun_intro 22 Tryd.func9 rfl rfl rfl (fun ι F S w => ?_)
    (repeat (first | (apply v_move; exact rfl; exact rfl) | (apply v_assign; exact rfl; exact rfl) | refine run_seq ?_ | refine run_region ?_ | refine runL_nil ?_ | (apply v_lss; exact rfl; exact rfl; exact rfl) | (apply v_boxD; exact rfl; exact rfl; exact rfl; exact rfl; exact rfl; exact rfl; exact rfl)))
    refine v_is 8 true rfl (by simp; omega) ?_
    (repeat (first | (apply v_assign; exact rfl; exact rfl) | refine run_seq ?_ | refine run_region ?_ | refine runL_nil ?_ | (apply v_off; exact rfl; exact rfl) | (apply v_pick_t; exact rfl; exact rfl; exact rfl) | (apply run_cond; exact rfl; rotate_left; (focus (intro hb; cases hb; done)); intro hb; clear hb)))
    exact run_ret idN _ Tryd.func9 ⟨_, _, rfl, rfl, _, _, rfl, rfl, rfl⟩ rfl trivial trivial rfl
end Go.Proofs.YtpmeffdcbjakoaaDoor
