/- Operations: data, the tables of package op where they lie. -/
import Derived.Test.YtpmeffdcbjakoaaDoorVL15
namespace Go.Proofs.YtpmeffdcbjakoaaDoor
set_option linter.unusedVariables false
set_option linter.unusedSimpArgs false
set_option maxRecDepth 100000
open Go.RowKit

structure OpD where
  code : Int
  a : Int
  b : Int
  c : Int
  d : Int
  s : ByteArray
def numT : List Int := [0, 2, 1, 1, 2, 3, 2, 2, 2, 1, 4, 3, 2, 2, 1, 1, 1, 1]
def worT : List Bool := [false, true, true, true, false, false, false, false, false, false, true, true, true, false, false, false, false, false]
/-- The tables are public, and hold what the program lays. -/
def Laid (S : Bl) (w : World) : Prop := (S 1 ∧ ∀ j v, numT[j]? = some v → w.cell? ⟨1, j, none⟩ = some (.int .i64 v)) ∧ (S 0 ∧ ∀ j v, worT[j]? = some v → w.cell? ⟨0, j, none⟩ = some (.bool v))
theorem Laid.fut {w w' : World} {S S' : Bl} (hm : ∀ k, S k → S' k) (hs : ∀ k, S k → k < w.heap.size → w'.heap[k]? = w.heap[k]?) (h : Laid S w) : Laid S' w' := by
  obtain ⟨⟨h1, h2⟩, h3, h4⟩ := h
  refine ⟨⟨hm _ h1, fun j v hj => ?_⟩, hm _ h3, fun j v hj => ?_⟩
  · have := h2 j v hj
    rw [World.cell?_of_block (hs _ h1 (World.block_lt_of_cell? w _ this))]
    exact this
  · have := h4 j v hj
    rw [World.cell?_of_block (hs _ h3 (World.block_lt_of_cell? w _ this))]
    exact this
/-- An operation's code; where it is one, the tables are there. -/
def codeS (c : Int) : Sem where
  R := fun w S v => v = .int .i64 c ∧ (1 ≤ c → c < 18 → Laid S w)
  one := fun h => by rw [h.1]; rfl
  fut := fun hm hw h => ⟨h.1, fun h1 h2 => (h.2 h1 h2).fut hm hw⟩
def opL (x : OpD) : List AV := [.sem (codeS x.code), .v (.int .i64 x.a), .v (.int .i64 x.b), .v (.int .i64 x.c), .v (.int .i64 x.d), .v (.string x.s)]
def opE : Enc OpD where
  sz := 6
  f := opL
  len := fun _ => rfl
  leaf := fun _ => rfl
theorem codeS_le (c : Int) : Le (.sem (codeS c)) (.v (.int .i64 c)) := fun ι S w u h => by
  simp only [AVR] at h ⊢
  exact h.1
theorem codeS_no {c : Int} (hc : ¬ (1 ≤ c ∧ c < 18)) : Le (.v (.int .i64 c)) (.sem (codeS c)) := fun ι S w u h => by
  simp only [AVR] at h ⊢
  exact ⟨h, fun h1 h2 => absurd ⟨h1, h2⟩ hc⟩
section
variable {C : Cx} {k : List Item} {t t0 : List (Nat × AV)} {r r0 : List (Nat × RK)} {ops : Array Oper} {rest : List Oper} {o : Oper}
variable {d : Nat} {ty ty' t2 : TypeId} {pos : String} {af : Array Edge} {x y : Operand} {c : Int}
theorem op_num (hP : C.P = Tryd.prog) (ho : o.op = .indexAddr 56 (.global 1) y) (h1 : 1 ≤ c) (h2 : c < 18) : OpPure C r o [(.global 1, .v (.pointer (some ⟨1, 0, none⟩))), (y, .sem (codeS c))] (.sem (adrS [.v (.int .i64 (numT.getD c.toNat 0))])) := OpPure.here fun ι F S w ρ hs hr => by
  have hx := hr (.global 1, .v (.pointer (some ⟨1, 0, none⟩))) (by simp)
  have hy := hr (y, .sem (codeS c)) (by simp)
  simp only [AVR] at hx hy ⊢
  obtain ⟨hy, hL⟩ := hy
  obtain ⟨⟨hS, hc⟩, _⟩ := hL h1 h2
  have u3 := Tryd.underlying56
  have z3 := Tryd.sizeOf3
  rw [← hP] at u3 z3
  have hlt : c.toNat < numT.length := by show c.toNat < 18; omega
  have hget : numT[c.toNat]? = some (numT.getD c.toNat 0) := by rw [List.getD_eq_getElem?_getD, List.getElem?_eq_getElem hlt]; rfl
  refine ⟨.pointer (some ⟨1, c.toNat, none⟩), ?_, 1, c.toNat, rfl, hS, [.int .i64 (numT.getD c.toNat 0)], ⟨_, _, rfl, rfl, rfl⟩, fun j u hu => ?_⟩
  · have h3 : 0 ≤ c := by omega
    simp [execOp, ho, hx, hy, Instr.indexAt, Instr.sureAddr, go_sem, run_underlying u3, z3, h2, h3, Addr.add]
    omega
  · cases j with
    | zero => cases hu; exact hc _ _ hget
    | succ j => simp at hu
theorem op_wor (hP : C.P = Tryd.prog) (ho : o.op = .indexAddr 55 (.global 0) y) (h1 : 1 ≤ c) (h2 : c < 18) : OpPure C r o [(.global 0, .v (.pointer (some ⟨0, 0, none⟩))), (y, .sem (codeS c))] (.sem (adrS [.v (.bool (worT.getD c.toNat false))])) := OpPure.here fun ι F S w ρ hs hr => by
  have hx := hr (.global 0, .v (.pointer (some ⟨0, 0, none⟩))) (by simp)
  have hy := hr (y, .sem (codeS c)) (by simp)
  simp only [AVR] at hx hy ⊢
  obtain ⟨hy, hL⟩ := hy
  obtain ⟨_, hS, hc⟩ := hL h1 h2
  have u3 := Tryd.underlying55
  have z3 := Tryd.sizeOf4
  rw [← hP] at u3 z3
  have hlt : c.toNat < worT.length := by show c.toNat < 18; omega
  have hget : worT[c.toNat]? = some (worT.getD c.toNat false) := by rw [List.getD_eq_getElem?_getD, List.getElem?_eq_getElem hlt]; rfl
  refine ⟨.pointer (some ⟨0, c.toNat, none⟩), ?_, 0, c.toNat, rfl, hS, [.bool (worT.getD c.toNat false)], ⟨_, _, rfl, rfl, rfl⟩, fun j u hu => ?_⟩
  · have h3 : 0 ≤ c := by omega
    simp [execOp, ho, hx, hy, Instr.indexAt, Instr.sureAddr, go_sem, run_underlying u3, z3, h2, h3, Addr.add]
    omega
  · cases j with
    | zero => cases hu; exact hc _ _ hget
    | succ j => simp at hu
theorem v_num {gd : Option (Nat × Bool)} (hP : C.P = Tryd.prog) (hy : evalA t y = some (.sem (codeS c))) (h1 : 1 ≤ c) (h2 : c < 18) (hn : Nat.blt d C.N = true) (hw : wantedA t ops ⟨some d, .indexAddr 56 (.global 1) y, ty, pos, af, gd⟩ = some true) (hk : RunL C ops rest ⟨(d, .sem (adrS [.v (.int .i64 (numT.getD c.toNat 0))])) :: t, r⟩ k) : RunL C ops (⟨some d, .indexAddr 56 (.global 1) y, ty, pos, af, gd⟩ :: rest) ⟨t, r⟩ k := runL_pure _ hw rfl hn (rd2 rfl hy) (op_num hP rfl h1 h2) hk
theorem v_wor {gd : Option (Nat × Bool)} (hP : C.P = Tryd.prog) (hy : evalA t y = some (.sem (codeS c))) (h1 : 1 ≤ c) (h2 : c < 18) (hn : Nat.blt d C.N = true) (hw : wantedA t ops ⟨some d, .indexAddr 55 (.global 0) y, ty, pos, af, gd⟩ = some true) (hk : RunL C ops rest ⟨(d, .sem (adrS [.v (.bool (worT.getD c.toNat false))])) :: t, r⟩ k) : RunL C ops (⟨some d, .indexAddr 55 (.global 0) y, ty, pos, af, gd⟩ :: rest) ⟨t, r⟩ k := runL_pure _ hw rfl hn (rd2 rfl hy) (op_wor hP rfl h1 h2) hk
/-- A number of an operation's four. -/
def fourL (x : OpD) : List Int := [x.a, x.b, x.c, x.d]
theorem op_four {m : Int} {n : Int} {z : OpD} (hP : C.P = Tryd.prog) (ho : o.op = .index 52 x y) (h0 : 0 ≤ m) (hm : (fourL z)[m.toNat]? = some n) : OpPure C r o [(x, .agg ((fourL z).map fun n => .v (.int .i64 n))), (y, .v (.int .i64 m))] (.v (.int .i64 n)) := OpPure.here fun ι F S w ρ hs hr => by
  have hx := hr (x, .agg ((fourL z).map fun n => .v (.int .i64 n))) (by simp)
  have hy := hr (y, .v (.int .i64 m)) (by simp)
  have u3 := Tryd.underlying52
  have z3 := Tryd.sizeOf3
  have a3 := Tryd.isAgg3
  rw [← hP] at u3 z3 a3
  simp only [AVR, fourL, List.map, AVRs] at hx hy ⊢
  obtain ⟨us, hx, _, _, rfl, rfl, _, _, rfl, rfl, _, _, rfl, rfl, _, _, rfl, rfl, rfl⟩ := hx
  have hlt : m.toNat < 4 := (List.getElem?_eq_some_iff.1 hm).1
  refine ⟨.int .i64 n, ?_, rfl⟩
  rcases (show m = 0 ∨ m = 1 ∨ m = 2 ∨ m = 3 by omega) with rfl | rfl | rfl | rfl <;>
  · simp [fourL] at hm
    simp [execOp, ho, hx, hy, Instr.index, go_sem, run_underlying u3, z3, a3, hm]
theorem v_four {m : Int} {n : Int} {z : OpD} (hP : C.P = Tryd.prog) (hx : evalA t x = some (.agg ((fourL z).map fun n => .v (.int .i64 n)))) (hy : evalA t y = some (.v (.int .i64 m))) (h0 : 0 ≤ m) (hm : (fourL z)[m.toNat]? = some n) (hn : Nat.blt d C.N = true) (hk : RunL C ops rest ⟨(d, .v (.int .i64 n)) :: t, r⟩ k) : RunL C ops (⟨some d, .index 52 x y, ty, pos, af, none⟩ :: rest) ⟨t, r⟩ k := runL_pure _ rfl rfl hn (rd2 hx hy) (op_four hP rfl h0 hm) hk
theorem op_build4 {x0 x1 x2 x3 : Operand} {a b c d : Int} (hP : C.P = Tryd.prog) (ho : o.op = .build 52 #[(0, x0), (1, x1), (2, x2), (3, x3)]) : OpPure C r o [(x0, .v (.int .i64 a)), (x1, .v (.int .i64 b)), (x2, .v (.int .i64 c)), (x3, .v (.int .i64 d))] (.agg [.v (.int .i64 a), .v (.int .i64 b), .v (.int .i64 c), .v (.int .i64 d)]) := OpPure.here fun ι F S w ρ hs hr => by
  have h0 := hr (x0, .v (.int .i64 a)) (by simp)
  have h1 := hr (x1, .v (.int .i64 b)) (by simp)
  have h2 := hr (x2, .v (.int .i64 c)) (by simp)
  have h3 := hr (x3, .v (.int .i64 d)) (by simp)
  have zz : (zeroValue 52).run Tryd.prog w = .ok (.agg #[.int .i64 0, .int .i64 0, .int .i64 0, .int .i64 0]) w := by kernel_rfl
  have u3 := Tryd.underlying52
  have z3 := Tryd.sizeOf3
  rw [← hP] at u3 z3 zz
  simp only [AVR] at h0 h1 h2 h3 ⊢
  refine ⟨.agg #[.int .i64 a, .int .i64 b, .int .i64 c, .int .i64 d], ?_, [.int .i64 a, .int .i64 b, .int .i64 c, .int .i64 d], rfl, _, _, rfl, rfl, _, _, rfl, rfl, _, _, rfl, rfl, _, _, rfl, rfl, rfl⟩
  have hf : Instr.fill (fun i => some (i, 1)) (Value.agg #[.int .i64 0, .int .i64 0, .int .i64 0, .int .i64 0]).cells [(0, .int .i64 a), (1, .int .i64 b), (2, .int .i64 c), (3, .int .i64 d)] = some #[.int .i64 a, .int .i64 b, .int .i64 c, .int .i64 d] := rfl
  simp [execOp, ho, h0, h1, h2, h3, Instr.build, go_sem, run_underlying u3, z3, zz, hf]
theorem v_build4 {x0 x1 x2 x3 : Operand} {a b c e : Int} (hP : C.P = Tryd.prog) (h0 : evalA t x0 = some (.v (.int .i64 a))) (h1 : evalA t x1 = some (.v (.int .i64 b))) (h2 : evalA t x2 = some (.v (.int .i64 c))) (h3 : evalA t x3 = some (.v (.int .i64 e))) (hn : Nat.blt d C.N = true) (hk : RunL C ops rest ⟨(d, .agg [.v (.int .i64 a), .v (.int .i64 b), .v (.int .i64 c), .v (.int .i64 e)]) :: t, r⟩ k) : RunL C ops (⟨some d, .build 52 #[(0, x0), (1, x1), (2, x2), (3, x3)], ty, pos, af, none⟩ :: rest) ⟨t, r⟩ k := runL_pure [(x0, .v (.int .i64 a)), (x1, .v (.int .i64 b)), (x2, .v (.int .i64 c)), (x3, .v (.int .i64 e))] rfl rfl hn ⟨h0, h1, h2, h3, trivial⟩ (op_build4 hP rfl) hk
end
def codeB (c : Int) : Bool := decide (1 ≤ c) && decide (c < 18)
theorem there_f (c : Int) : Fun Tryd.prog 25 [.v (.int .i64 c)] [] (.v (.bool (codeB c))) [] := by
  by_cases h : 1 ≤ c
  · rw [codeB, decide_eq_true h, Bool.true_and]
    refine fun_intro 9 Tryd.func25 rfl rfl rfl (fun ι F S w => ?_)
    (repeat (first | (apply v_move; exact rfl; exact rfl) | (apply v_assign; exact rfl; exact rfl) | refine run_seq ?_ | refine run_region ?_ | refine runL_nil ?_ | (apply v_geq; exact rfl; exact rfl; exact rfl)))
    refine v_is 5 true rfl (by simpa using h) ?_
    (repeat (first | (apply v_move; exact rfl; exact rfl) | (apply v_assign; exact rfl; exact rfl) | refine runL_nil ?_ | (apply v_on; exact rfl) | (apply v_pick_t; exact rfl; exact rfl; exact rfl) | (apply v_lss; exact rfl; exact rfl; exact rfl)))
    exact run_ret idN _ Tryd.func25 ⟨_, _, rfl, rfl, rfl⟩ rfl trivial trivial rfl
  · rw [codeB, decide_eq_false h, Bool.false_and]
    refine fun_intro 9 Tryd.func25 rfl rfl rfl (fun ι F S w => ?_)
    (repeat (first | (apply v_move; exact rfl; exact rfl) | (apply v_assign; exact rfl; exact rfl) | refine run_seq ?_ | refine run_region ?_ | refine runL_nil ?_ | (apply v_geq; exact rfl; exact rfl; exact rfl)))
    refine v_is 5 false rfl (by simpa using h) ?_
    (repeat (first | (apply v_assign; exact rfl; exact rfl) | refine runL_nil ?_ | (apply v_off; exact rfl; exact rfl) | (apply v_pick_f; exact rfl; exact rfl; exact rfl)))
    exact run_ret idN _ Tryd.func25 ⟨_, _, rfl, rfl, rfl⟩ rfl trivial trivial rfl
theorem there_c (c : Int) : Fun Tryd.prog 25 [.sem (codeS c)] [] (.v (.bool (codeB c))) [] := (there_f c).arg ⟨codeS_le c, trivial⟩
def numM (c : Int) : Int := numT.getD c.toNat 0
def worM (c : Int) : Bool := worT.getD c.toNat false
theorem codeB_of {c : Int} (h1 : 1 ≤ c) (h2 : c < 18) : codeB c = true := by simp [codeB, h1, h2]
theorem numbers_f {c : Int} (h1 : 1 ≤ c) (h2 : c < 18) : Fun Tryd.prog 29 [.sem (codeS c)] [] (.v (.int .i64 (numM c))) [] := by
  have ht := there_c c
  rw [codeB_of h1 h2] at ht
  refine fun_intro 9 Tryd.func29 rfl rfl rfl (fun ι F S w => ?_)
  (repeat (first | (apply v_cx; exact rfl; exact cbA rfl; (first | exact ht); exact rfl; exact rfl) | (apply v_move; exact rfl; exact rfl) | (apply v_assign; exact rfl; exact rfl) | refine run_seq ?_ | refine run_region ?_ | refine runL_nil ?_ | refine run_skip ?_ | (apply run_cond; exact rfl; (focus (intro hb; cases hb; done)); intro hb; clear hb) | (apply v_not; exact rfl; exact rfl)))
  refine v_num rfl rfl h1 h2 rfl rfl ?_
  (repeat (first | (apply v_assign; exact rfl; exact rfl) | refine runL_nil ?_ | (apply v_loadA; exact tyA rfl; exact rfl; exact rfl; exact rfl; exact rfl; exact rfl; exact rfl)))
  exact run_ret idN _ Tryd.func29 ⟨_, _, rfl, rfl, rfl⟩ rfl trivial trivial rfl
theorem worded_f {c : Int} (h1 : 1 ≤ c) (h2 : c < 18) : Fun Tryd.prog 26 [.sem (codeS c)] [] (.v (.bool (worM c))) [] := by
  have ht := there_c c
  rw [codeB_of h1 h2] at ht
  refine fun_intro 10 Tryd.func26 rfl rfl rfl (fun ι F S w => ?_)
  (repeat (first | (apply v_cx; exact rfl; exact cbA rfl; (first | exact ht); exact rfl; exact rfl) | (apply v_move; exact rfl; exact rfl) | (apply v_assign; exact rfl; exact rfl) | refine run_seq ?_ | refine run_region ?_ | refine runL_nil ?_ | (apply v_on; exact rfl)))
  refine v_wor rfl rfl h1 h2 rfl rfl ?_
  (repeat (first | (apply v_assign; exact rfl; exact rfl) | refine runL_nil ?_ | (apply v_loadA; exact tyA rfl; exact rfl; exact rfl; exact rfl; exact rfl; exact rfl; exact rfl) | (apply v_on; exact rfl) | (apply v_pick_t; exact rfl; exact rfl; exact rfl)))
  exact run_ret idN _ Tryd.func26 ⟨_, _, rfl, rfl, rfl⟩ rfl trivial trivial rfl
theorem list_f (x : OpD) : Fun Tryd.prog 28 [.agg (opL x)] [] (.agg ((fourL x).map fun n => .v (.int .i64 n))) [] := by
  refine fun_intro 12 Tryd.func28 rfl rfl rfl (fun ι F S w => ?_)
  (repeat (first | refine run_seq ?_ | refine run_region ?_ | refine runL_nil ?_ | (apply v_fldP; exact flA rfl; exact rfl; exact rfl; exact rfl) | (apply v_loadB; exact tyA rfl; exact rfl; exact rfl; exact rfl; exact rfl; exact rfl; exact rfl) | (apply v_allocD; exact tyA rfl; exact rfl; exact rfl; exact rfl; exact rfl) | (apply v_boxD; exact rfl; exact rfl; exact rfl; exact rfl; exact rfl; exact rfl; exact rfl)))
  refine v_build4 rfl rfl rfl rfl rfl rfl ?_
  (repeat (first | refine runL_nil ?_ | (apply v_storeW; exact tyA rfl; exact rfl; exact rfl; exact rfl; exact rfl; exact rfl; exact rfl; exact rfl)))
  exact run_ret idN _ Tryd.func28 ⟨_, _, _, _, _, _, rfl, rfl, rfl, tyA rfl, rfl, (fun h => by cases h), rfl, rfl⟩ rfl trivial trivial rfl
end Go.Proofs.YtpmeffdcbjakoaaDoor
