/- Steps are compared. -/
import Derived.Laws.StructEq
import Derived.Test.YtjkidecaciomgaaBP
namespace Go.Proofs.Ytjkidecaciomgaa
set_option linter.unusedVariables false
set_option linter.unusedSimpArgs false
set_option maxRecDepth 100000
open Go.RowKit

def stV (x : St) : List Value := [.int .i64 x.node, .int .i64 x.target, .int .i64 x.related, .bool x.cr, .bool x.cs]
theorem st_avr {ι : Nat → Value} {S : Bl} {w : World} {x : St} {u : Value} (h : AVR ι S w (.agg (stL x)) u) : u = .agg (stV x).toArray := by
  simp only [AVR] at h
  obtain ⟨us, e, hu⟩ := h
  simp only [stL, AVRs, AVR] at hu
  obtain ⟨_, _, rfl, rfl, _, _, rfl, rfl, _, _, rfl, rfl, _, _, rfl, rfl, _, _, rfl, rfl, rfl⟩ := hu
  exact e
theorem st_eq (w : World) (a b : St) : (Op.equalIn 10000 94 (.agg (stV a).toArray) (.agg (stV b).toArray)).run Try.prog w = .ok (decide (a = b)) w := by
  have hS : Try.prog.underlying 94 = some (.struct (Try.prog.fieldsOf 94)) := by kernel_rfl
  have hp : Try.prog.stoodInHeld 94 = false := by kernel_rfl
  have e : decide (a = b) = (a.node == b.node && (a.target == b.target && (a.related == b.related && (a.cr == b.cr && a.cs == b.cs)))) := by
    obtain ⟨a1, a2, a3, a4, a5⟩ := a
    obtain ⟨b1, b2, b3, b4, b5⟩ := b
    rw [Bool.eq_iff_iff]
    simp
  rw [e, show (10000 : Nat) = 9999 + 1 from rfl, run_equalIn_agg w 9999 94 _ _ hS hp]
  have hu : (Try.prog.fieldsOf 94).toList = (Try.prog.fieldsOf 94).toList := rfl
  obtain ⟨f1, f2, f3, f4, f5, hf, n1, n2, n3, n4, n5, t1, t2, t3, t4, t5, o1, o2, o3, o4, o5⟩ : ∃ f1 f2 f3 f4 f5 : Field, (Try.prog.fieldsOf 94).toList = [f1, f2, f3, f4, f5] ∧ f1.name ≠ "_" ∧ f2.name ≠ "_" ∧ f3.name ≠ "_" ∧ f4.name ≠ "_" ∧ f5.name ≠ "_" ∧ f1.type = 3 ∧ f2.type = 3 ∧ f3.type = 3 ∧ f4.type = 4 ∧ f5.type = 4 ∧ f1.offset = 0 ∧ f2.offset = 1 ∧ f3.offset = 2 ∧ f4.offset = 3 ∧ f5.offset = 4 := by
    refine ⟨_, _, _, _, _, rfl, ?_, ?_, ?_, ?_, ?_, ?_, ?_, ?_, ?_, ?_, ?_, ?_, ?_, ?_, ?_⟩ <;> first | kernel_rfl | decide
  have u3 := Try.underlying3
  have a3 := Try.isAgg3
  have z3 := Try.sizeOf3
  have u4 := Try.underlying4
  have a4 := Try.isAgg4
  have z4 := Try.sizeOf4
  rw [hf]
  simp only [Op.eqFields, n1, n2, n3, n4, n5, t1, t2, t3, t4, t5, o1, o2, o3, o4, o5, stV, ne_eq, not_false_eq_true, if_true]
  simp [go_sem, u3, a3, z3, u4, a4, z4]
  by_cases h1 : a.node = b.node
  · by_cases h2 : a.target = b.target
    · by_cases h3 : a.related = b.related
      · by_cases h4 : a.cr = b.cr
        · by_cases h5 : a.cs = b.cs <;> simp [h1, h2, h3, h4, h5]
        · simp [h1, h2, h3, h4]
      · simp [h1, h2, h3]
    · simp [h1, h2]
  · simp [h1]
theorem st_guard (op : BinOp) (x y : Operand) (a b : St) (w : World) : (eqGuard op 94 x y (.agg (stV a).toArray) (.agg (stV b).toArray)).run Try.prog w = .ok () w := run_eqGuard_agg w op _ x y _ _ (by kernel_rfl)
section
variable {C : Cx} {r : List (Nat × RK)} {o : Oper} {x y : Operand} {ty' : TypeId} {a b : St}
theorem op_eqlSt (hP : C.P = Try.prog) (ho : o.op = .binOp .eql 94 x y ty') : OpPure C r o [(x, .agg (stL a)), (y, .agg (stL b))] (.v (.bool (decide (a = b)))) := OpPure.here fun ι F S w ρ hs hr => by
  have h1 := st_avr (hr (x, .agg (stL a)) (by simp))
  have h2 := st_avr (hr (y, .agg (stL b)) (by simp))
  dsimp only at h1 h2
  have h3 := st_guard .eql x y a b w
  have h4 := st_eq w a b
  rw [← hP] at h3 h4
  refine ⟨.bool (decide (a = b)), ?_, by simp [AVR]⟩
  simp [execOp, ho, h1, h2, h3, run_eql_struct, h4]
theorem op_neqSt (hP : C.P = Try.prog) (ho : o.op = .binOp .neq 94 x y ty') : OpPure C r o [(x, .agg (stL a)), (y, .agg (stL b))] (.v (.bool (!decide (a = b)))) := OpPure.here fun ι F S w ρ hs hr => by
  have h1 := st_avr (hr (x, .agg (stL a)) (by simp))
  have h2 := st_avr (hr (y, .agg (stL b)) (by simp))
  dsimp only at h1 h2
  have h3 := st_guard .neq x y a b w
  have h4 := st_eq w a b
  rw [← hP] at h3 h4
  refine ⟨.bool (!decide (a = b)), ?_, by simp [AVR]⟩
  simp [execOp, ho, h1, h2, h3, run_neq_struct, h4]
end
section
variable {C : Cx} {k : List Item} {t t0 : List (Nat × AV)} {r r0 : List (Nat × RK)} {ops : Array Oper} {rest : List Oper} {qs : List PIt} {o : Oper}
variable {d : Nat} {ty ty' t2 : TypeId} {pos : String} {af : Array Edge} {x y z : Operand} {g : Nat} {gd : Option (Nat × Bool)} {a b : St}
theorem v_neqSt (hP : C.P = Try.prog) (hx : evalA t x = some (.agg (stL a))) (hy : evalA t y = some (.agg (stL b))) (hn : Nat.blt d C.N = true) (hk : RunL C ops rest ⟨(d, .v (.bool (!decide (a = b)))) :: t, r⟩ k) : RunL C ops (⟨some d, .binOp .neq 94 x y t2, ty, pos, af, none⟩ :: rest) ⟨t, r⟩ k := runL_pure _ rfl rfl hn (rd2 hx hy) (op_neqSt hP rfl) hk
theorem p_neqSt (hP : C.P = Try.prog) (hx : evalA t x = some (.agg (stL a))) (hy : evalA t y = some (.agg (stL b))) (hn : Nat.blt d C.N = true) (hgd : wantedA t ops ⟨some d, .binOp .neq 94 x y t2, ty, pos, af, gd⟩ = some true) (hk : PlanL C ops t0 r0 (⟨some d, .v (.bool (!decide (a = b))), [], [], []⟩ :: qs) rest ⟨(d, .v (.bool (!decide (a = b)))) :: t, r⟩ k) : PlanL C ops t0 r0 qs (⟨some d, .binOp .neq 94 x y t2, ty, pos, af, gd⟩ :: rest) ⟨t, r⟩ k := planL_2 hgd rfl hn hx hy (by simp [Op.operands, Call.operands]) (by simp [Op.operands, Call.operands]) [] (fun r' _ => op_neqSt hP rfl) hk
end
/-- ref13: the same paths. -/
theorem samePath_f {a b : List St} (ha : a.length ≤ 1000000) (hb : b.length ≤ 1000000) : Fun Try.prog 127 [.sem (listS stE a), .sem (listS stE b)] [] (.v (.bool (decide (a = b)))) [] := by
  by_cases hl : a.length = b.length
  · refine fun_intro 26 Try.func127 rfl rfl rfl (fun ι F S w => ?_)
    (repeat (first | (apply v_move; exact rfl; exact rfl) | (apply v_assign; exact rfl; exact rfl) | refine run_seq ?_ | refine run_region ?_ | refine runL_nil ?_ | (apply v_neq; exact rfl; exact rfl; exact rfl) | (apply v_lenL; exact slA rfl; exact rfl; exact rfl)))
    refine run_condN rfl (by simp only [bne_eq_false_iff_eq]; omega) ?_
    (repeat (first | (apply v_assign; exact rfl; exact rfl) | refine run_seq ?_ | refine run_region ?_ | refine runL_nil ?_ | refine run_skip ?_ | refine run_block ?_))
    refine v_loop (fun i : Nat => ⟨[(0, .sem (listS stE a)), (1, .sem (listS stE b)), (5, .v (.int .i64 i))], []⟩) (fun i => i ≤ a.length ∧ a.take i = b.take i) (fun i => a.length - i) 0 idN trivial (by repeat (first | exact trivial | refine ⟨rfl, ?_⟩)) (by repeat (first | exact trivial | refine ⟨rfl, ?_⟩)) rfl (by simp) fun i ⟨hi, he⟩ ih => ?_
    (repeat (first | (apply v_move; exact rfl; exact rfl) | refine run_seq ?_ | refine run_region ?_ | refine runL_nil ?_ | (apply v_lss; exact rfl; exact rfl; exact rfl) | (apply v_lenL; exact slA rfl; exact rfl; exact rfl)))
    refine run_cond rfl (fun hc => ?_) (fun hc => ?_)
    · have hlt : i < a.length := by simpa using hc
      have hxa : a[((i : Int)).toNat]? = some a[i] := by simp [hlt]
      have hxb : b[((i : Int)).toNat]? = some (b[i]'(by omega)) := by simp [show i < b.length by omega]
      have h1 : a[i] ≠ (b[i]'(by omega)) → decide (a = b) = false := fun e => decide_eq_false fun e2 => e (by subst e2; rfl)
      have h2 : a[i] = (b[i]'(by omega)) → a.take (i + 1) = b.take (i + 1) := fun e => by
        rw [List.take_add_one, List.take_add_one, he, List.getElem?_eq_getElem hlt, List.getElem?_eq_getElem (show i < b.length by omega), e]
      generalize a[i] = u at *
      generalize b[i]'(by omega) = v at *
      by_cases e : u = v
      · (repeat (first | refine run_seq ?_ | refine run_skip ?_ | refine run_block ?_))
        refine run_draws (by kernel_rfl) (by kernel_rfl) ?_
        (repeat (first | (apply p_idxL; exact slA rfl; exact tyA rfl; exact rfl; exact rfl; exact rfl; exact rfl; exact (by omega); (first | exact hxa | exact hxb); exact rfl; exact rfl) | (apply p_neqSt; exact rfl; exact rfl; exact rfl; exact rfl; exact rfl) | (apply p_move; exact rfl; exact rfl; exact rfl) | (apply p_loadA; exact tyA rfl; exact rfl; exact rfl; exact rfl; exact rfl; exact rfl; exact rfl; exact rfl)))
        refine planL_nil (by kernel_rfl) ?_
        refine run_condN rfl (by simpa using e) ?_
        (repeat (first | (apply v_move; exact rfl; exact rfl) | (apply v_assign; exact rfl; exact rfl) | refine run_region ?_ | refine runL_nil ?_ | refine run_skip ?_ | refine run_inBlock ?_ | (apply v_add; exact rfl; exact rfl; exact rfl; exact (by omega))))
        exact v_again ih (i + 1) idN trivial (by repeat (first | exact trivial | refine ⟨rfl, ?_⟩)) (by repeat (first | exact trivial | refine ⟨rfl, ?_⟩)) rfl ⟨by omega, h2 e⟩ (by omega)
      · rw [h1 e]
        (repeat (first | refine run_seq ?_ | refine run_skip ?_ | refine run_block ?_))
        refine run_draws (by kernel_rfl) (by kernel_rfl) ?_
        (repeat (first | (apply p_idxL; exact slA rfl; exact tyA rfl; exact rfl; exact rfl; exact rfl; exact rfl; exact (by omega); (first | exact hxa | exact hxb); exact rfl; exact rfl) | (apply p_neqSt; exact rfl; exact rfl; exact rfl; exact rfl; exact rfl) | (apply p_move; exact rfl; exact rfl; exact rfl) | (apply p_loadA; exact tyA rfl; exact rfl; exact rfl; exact rfl; exact rfl; exact rfl; exact rfl; exact rfl)))
        refine planL_nil (by kernel_rfl) ?_
        refine run_condY rfl (by simpa using e) ?_
        (repeat (first | (apply v_assign; exact rfl; exact rfl) | refine run_seq ?_ | refine run_region ?_ | refine runL_nil ?_))
        exact run_ret idN _ Try.func127 ⟨_, _, rfl, rfl, rfl⟩ rfl trivial trivial rfl
    · have hge : i = a.length := by have : ¬ i < a.length := (by simpa using hc); omega
      rw [decide_eq_true (show a = b by
        rw [hge, List.take_length, hl, List.take_length] at he
        exact he)]
      (repeat (first | (apply v_assign; exact rfl; exact rfl) | refine run_seq ?_ | refine run_region ?_ | refine runL_nil ?_ | (apply run_exit; exact rfl)))
      exact run_ret idN _ Try.func127 ⟨_, _, rfl, rfl, rfl⟩ rfl trivial trivial rfl
  · rw [decide_eq_false (fun e => hl (by rw [e]))]
    refine fun_intro 26 Try.func127 rfl rfl rfl (fun ι F S w => ?_)
    (repeat (first | (apply v_move; exact rfl; exact rfl) | (apply v_assign; exact rfl; exact rfl) | refine run_seq ?_ | refine run_region ?_ | refine runL_nil ?_ | (apply v_neq; exact rfl; exact rfl; exact rfl) | (apply v_lenL; exact slA rfl; exact rfl; exact rfl)))
    refine run_condY rfl (by simp only [bne_iff_ne]; omega) ?_
    (repeat (first | (apply v_assign; exact rfl; exact rfl) | refine run_seq ?_ | refine run_region ?_ | refine runL_nil ?_))
    exact run_ret idN _ Try.func127 ⟨_, _, rfl, rfl, rfl⟩ rfl trivial trivial rfl
end Go.Proofs.Ytjkidecaciomgaa
