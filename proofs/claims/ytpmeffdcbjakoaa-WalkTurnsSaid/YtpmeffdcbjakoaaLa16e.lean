/- Law 16: WalkEach. -/
import Derived.Test.YtpmeffdcbjakoaaIt3
import Derived.Test.YtpmeffdcbjakoaaVLM
import Derived.Test.YtpmeffdcbjakoaaOpenSs
import Derived.RegionIn
namespace Go.Proofs.Ytpmeffdcbjakoaa
set_option linter.unusedVariables false
set_option linter.unusedSimpArgs false
set_option maxRecDepth 100000
open Go.RowKit

theorem equalIn_fnNil {P : Program} (w : World) (d : Nat) {t : TypeId} {ps rs : Array TypeId} {v : Bool} (f : FuncId) (cs : Array Value) (h : P.underlying t = some (.func ps rs v)) : (Op.equalIn (d + 1) t (.func (.func f) #[] cs) .nilFunc).run P w = .ok false w := by
  simp [Op.equalIn, run_underlying h]
section
variable {C : Cx} {k : List Item} {t t0 : List (Nat × AV)} {r r0 : List (Nat × RK)} {ops : Array Oper} {rest : List Oper} {o : Oper}
variable {d : Nat} {ty ty' t2 : TypeId} {pos : String} {af : Array Edge} {x y : Operand} {f : FuncId} {l : List AV}
theorem op_fnNil (hP : C.P = Try.prog) (ho : o.op = .binOp .eql 49 x (.const .nilFunc) ty') : OpPure C r o [(x, .fn f l), (.const .nilFunc, .v .nilFunc)] (.v (.bool false)) := OpPure.here fun ι F S w ρ hs hr => by
  have h1 := hr (x, .fn f l) (by simp)
  have h2 := hr (.const .nilFunc, .v .nilFunc) (by simp)
  simp only [AVR] at h1 h2
  obtain ⟨us, h1, _⟩ := h1
  have u3 := Try.underlying49
  have a3 := Try.isAgg49
  rw [← hP] at u3 a3
  refine ⟨.bool false, ?_, by simp [AVR]⟩
  have hb : (binOp .eql 49 (.func (.func f) #[] us.toArray) .nilFunc).run C.P w = .ok (.bool false) w := by
    simp only [binOp]
    simp [Op.equal, Op.maxDepth, equalIn_fnNil w 9999 f us.toArray u3]
  simp [execOp, ho, h1, h2, go_sem, u3, a3, hb]
theorem v_fnNil (hP : C.P = Try.prog) (hx : evalA t x = some (.fn f l)) (hn : Nat.blt d C.N = true) (hk : RunL C ops rest ⟨(d, .v (.bool false)) :: t, r⟩ k) : RunL C ops (⟨some d, .binOp .eql 49 x (.const .nilFunc) t2, ty, pos, af, none⟩ :: rest) ⟨t, r⟩ k := runL_pure _ rfl rfl hn (rd2 hx rfl) (op_fnNil hP rfl) hk
end
theorem each_f (p : Sem) (bub : Bool) : Fun Try.prog 21 [.sem p, .v (.bool bub)] [] (.fn 45 [.ptr 0 0, .ptr 1 0]) [(0, .box 40 [.sem p]), (1, .box 4 [.v (.bool bub)])] := by
  refine fun_intro 6 Try.func21 rfl rfl rfl (fun ι F S w => ?_)
  (repeat (first | (apply v_move; exact rfl; exact rfl) | (apply v_assign; exact rfl; exact rfl) | refine run_seq ?_ | refine run_region ?_ | refine runL_nil ?_ | refine run_skip ?_ | refine run_block ?_ | refine run_inBlock ?_ | (apply run_exit; exact rfl) | (apply v_extract; exact rfl; exact rfl; exact rfl) | (apply v_fldP; exact flA rfl; exact rfl; exact rfl; exact rfl) | (apply v_fldA; exact flA rfl; exact rfl; exact rfl; exact rfl) | (apply v_loadB; exact tyA rfl; exact rfl; exact rfl; exact rfl; exact rfl; exact rfl; exact rfl) | (apply v_loadA; exact tyA rfl; exact rfl; exact rfl; exact rfl; exact rfl; exact rfl; exact rfl) | (apply v_on; exact rfl) | (apply v_off; exact rfl; exact rfl) | (apply v_off0; exact rfl) | (apply v_pick_t; exact rfl; exact rfl; exact rfl) | (apply v_pick_f; exact rfl; exact rfl; exact rfl) | (apply run_cond; exact rfl; rotate_left; (focus (intro hb; cases hb; done)); intro hb; clear hb) | (apply run_cond; exact rfl; (focus (intro hb; cases hb; done)); intro hb; clear hb) | (apply v_not; exact rfl; exact rfl) | (apply v_lss; exact rfl; exact rfl; exact rfl) | (apply v_eql; exact rfl; exact rfl; exact rfl) | (apply v_neq; exact rfl; exact rfl; exact rfl) | (apply v_gtr; exact rfl; exact rfl; exact rfl) | (apply v_leq; exact rfl; exact rfl; exact rfl) | (apply v_geq; exact rfl; exact rfl; exact rfl) | (apply v_lenL; exact slA rfl; exact rfl; exact rfl) | (apply v_lenO; exact slA rfl; exact rfl; exact rfl; exact rfl) | (apply v_lenN; exact slA rfl; exact rfl; exact rfl) | (apply v_nilEql; exact ptA rfl; exact rfl; exact rfl) | (apply v_nilNeq; exact ptA rfl; exact rfl; exact rfl) | (apply v_eqlNil; exact ptA rfl; exact rfl; exact NN.adr; exact rfl) | (apply v_neqNil; exact ptA rfl; exact rfl; exact NN.adr; exact rfl) | (apply v_eqlNil; exact ptA rfl; exact rfl; exact NN.ptr; exact rfl) | (apply v_neqNil; exact ptA rfl; exact rfl; exact NN.ptr; exact rfl) | (apply v_eqlNil; exact ptA rfl; exact rfl; exact NN.box rfl; exact rfl) | (apply v_neqNil; exact ptA rfl; exact rfl; exact NN.box rfl; exact rfl) | (apply v_nilCheck; exact rfl; exact NN.adr; exact rfl) | (apply v_nilCheck; exact rfl; exact NN.ptr; exact rfl) | (apply v_nilCheck; exact rfl; exact NN.box rfl; exact rfl) | (apply v_allocD; exact tyA rfl; exact rfl; exact rfl; exact rfl; exact rfl) | (apply v_boxD; exact rfl; exact rfl; exact rfl; exact rfl; exact rfl; exact rfl; exact rfl) | (apply v_storeW; exact tyA rfl; exact rfl; exact rfl; exact rfl; exact rfl; exact rfl; exact rfl; exact rfl) | (apply v_storeB; exact tyA rfl; exact rfl; exact rfl; exact rfl; exact rfl; exact rfl; exact rfl; exact rfl) | (apply v_eqlS; exact rfl; exact rfl; exact rfl) | (apply v_neqS; exact rfl; exact rfl; exact rfl) | (apply v_eqlB; exact boA rfl; exact rfl; exact rfl; exact rfl) | (apply v_neqB; exact boA rfl; exact rfl; exact rfl; exact rfl) | (apply v_b; exact plA rfl; exact tyA rfl; exact rfl; exact rfl; exact rfl) | (apply v_f; exact rfl; exact rfl) | (apply v_sliceH; exact slA rfl; exact tyA rfl; exact rfl; exact rfl; exact rfl; exact (by omega); exact (by omega); exact rfl) | (apply v_sliceL; exact slA rfl; exact tyA rfl; exact rfl; exact rfl; exact rfl; exact (by omega); exact (by omega); exact rfl) | (apply v_add; exact rfl; exact rfl; exact rfl; exact (by omega)) | (apply v_sub; exact rfl; exact rfl; exact rfl; exact (by omega))))
  exact run_ret (mp [(0, 2), (1, 3)]) _ Try.func21 ⟨_, _, rfl, rfl, rfl⟩ rfl trivial ⟨rfl, rfl, trivial⟩ rfl
/-- The turns in memory. -/
def Tn.cell (t : Tn) : Nat → Value
  | 0 => .int .i64 t.at'
  | 1 => .int .i64 t.ph
  | _ => .bool t.cap
def TnAt (W : World) (A : Option Addr) (ts : List Tn) : Prop := 0 < ts.length → ∃ b off, A = some ⟨b, off, none⟩ ∧ b < W.heap.size ∧ ∀ i j (hi : i < ts.length), j < 3 → W.cell? ⟨b, off + i * 3 + j, none⟩ = some ((ts[i]'hi).cell j)
theorem tnL_cell (x : Tn) : ∀ j, j < 3 → (tnL x)[j]? = some (.v (x.cell j))
  | 0, _ => rfl
  | 1, _ => rfl
  | 2, _ => rfl
  | n + 3, h => by omega
theorem list_tnAt {w : World} {S : Bl} {A : Option Addr} {ts : List Tn} (h : RowAt w S A (tnE.all ts)) : TnAt w A ts := fun hn => by
  rcases h with h | ⟨b, off, hA, hb, us, h1, h2⟩
  · exfalso
    have := tnE.all_len ts
    rw [h] at this
    have e : tnE.sz = 3 := rfl
    rw [e] at this
    simp at this
    omega
  · have hget : ∀ i j (hi : i < ts.length), j < 3 → w.cell? ⟨b, off + i * 3 + j, none⟩ = some ((ts[i]'hi).cell j) := fun i j hi hj => by
      have hx : ts[i]? = some ts[i] := by simp [hi]
      have h3 := congrArg (fun z => z[j]?) (tnE.all_at hx)
      have e : tnE.sz = 3 := rfl
      simp only [List.getElem?_take, List.getElem?_drop, e] at h3
      rw [if_pos hj] at h3
      obtain ⟨u, hu1, hu2⟩ := h1.get (h3.trans (tnL_cell ts[i] j hj))
      simp only [AVR] at hu2
      subst hu2
      have := h2 _ _ hu1
      rw [Addr.add_lit, ← Nat.add_assoc] at this
      exact this
    exact ⟨b, off, hA, World.block_lt_of_cell? w _ (hget 0 0 hn (by decide)), hget⟩
theorem TnAt.below {w w' : World} {A : Option Addr} {ts : List Tn} (h : TnAt w A ts) (hb : Below w.heap.size w w') : TnAt w' A ts := fun hn => by
  obtain ⟨b, off, rfl, hl, hc⟩ := h hn
  exact ⟨b, off, rfl, Nat.lt_of_lt_of_le hl hb.size, fun i j hi hj => (hb.cell (p := ⟨b, off + i * 3 + j, none⟩) hl).trans (hc i j hi hj)⟩
def tnEq (a1 a2 : Int) (a3 : Bool) (b1 b2 : Int) (b3 : Bool) : Bool := decide ((⟨a1, a2, a3⟩ : Tn) = ⟨b1, b2, b3⟩)
theorem eqIn_turn (w : World) (a1 a2 b1 b2 : Int) (a3 b3 : Bool) : (Op.equalIn 10000 44 (.agg #[.int .i64 a1, .int .i64 a2, .bool a3]) (.agg #[.int .i64 b1, .int .i64 b2, .bool b3])).run Try.prog w = .ok (tnEq a1 a2 a3 b1 b2 b3) w := tn_eq w ⟨a1, a2, a3⟩ ⟨b1, b2, b3⟩
theorem guard_turn (x y : Operand) (w : World) (a1 a2 b1 b2 : Int) (a3 b3 : Bool) : (eqGuard .neq 44 x y (.agg #[.int .i64 a1, .int .i64 a2, .bool a3]) (.agg #[.int .i64 b1, .int .i64 b2, .bool b3])).run Try.prog w = .ok () w := tn_guard .neq x y ⟨a1, a2, a3⟩ ⟨b1, b2, b3⟩ w
theorem neq_turn (w : World) (a1 a2 b1 b2 : Int) (a3 b3 : Bool) : (binOp .neq 44 (.agg #[.int .i64 a1, .int .i64 a2, .bool a3]) (.agg #[.int .i64 b1, .int .i64 b2, .bool b3])).run Try.prog w = .ok (.bool (!tnEq a1 a2 a3 b1 b2 b3)) w := by
  rw [run_neq_struct, eqIn_turn]
  rfl
attribute [local go_sem] Oper.semAt_some guard_turn
attribute [local go_sem high] neq_turn
/-- What the loops of WalkEach rest on. -/
structure EaB (n₀ b5 b6 b7 bP bB : Nat) (few : Int) (Aw : Option Addr) (cw : Nat) (A : Option Addr) (cap : Nat) (xs : List St) (bub : Bool) (W : World) : Prop where
  c5 : Boxed W b5 5 (.int .u8 few)
  c6 : Boxed W b6 4 (.bool false)
  c7 : Boxed W b7 41 (.slice Aw (turnsM xs bub).length cw)
  cP : Boxed W bP 40 (.slice A xs.length cap)
  cB : Boxed W bB 4 (.bool bub)
  tn : TnAt W Aw (turnsM xs bub)
  st : StAt W A xs
  n6 : n₀ ≤ b6
  nP : bP ≠ b6
  nB : bB ≠ b6
  hA : ∀ ad, 0 < xs.length → A = some ad → ad.block < n₀
  n₀l : n₀ ≤ W.heap.size
section
variable {n₀ b5 b6 b7 bP bB : Nat} {few : Int} {Aw : Option Addr} {cw : Nat} {A : Option Addr} {cap : Nat} {xs : List St} {bub : Bool} {W W' : World}
theorem boxed_below {B : Nat} {t : TypeId} {v : Value} {n : Nat} (h : Boxed W B t v) (hb : Below n W W') (hB : B < n) : Boxed W' B t v := (hb.block B hB).trans h
theorem EaB.below (h : EaB n₀ b5 b6 b7 bP bB few Aw cw A cap xs bub W) (hb : Below W.heap.size W W') : EaB n₀ b5 b6 b7 bP bB few Aw cw A cap xs bub W' :=
  ⟨boxed_below h.c5 hb h.c5.lt, boxed_below h.c6 hb h.c6.lt, boxed_below h.c7 hb h.c7.lt, boxed_below h.cP hb h.cP.lt, boxed_below h.cB hb h.cB.lt, h.tn.below hb, h.st.below hb, h.n6, h.nP, h.nB, h.hA, Nat.le_trans h.n₀l hb.size⟩
end
theorem turnsM_le (xs : List St) (bub : Bool) (h : xs.length ≤ 1000) : (turnsM xs bub).length ≤ 4000 := by
  have : ∀ (i : Nat) (ys : List St), (turnsF bub i ys).length ≤ ys.length := by
    intro i ys
    induction ys generalizing i with
    | nil => simp [turnsF]
    | cons x r ih =>
      rw [turnsF, List.length_append, List.length_cons]
      have := ih (i + 1)
      split <;> simp <;> omega
  have := this 0 xs
  simp [turnsM, upto]
  omega
/-- A frame at the outer loop. -/
structure EaF (b5 b6 b7 b9 bP bB : Nat) (ds : List Nat) (a : Act) : Prop where
  sz : a.tmps.size = 62
  df : a.defers = ds.map markD
  t5 : a.tmps[5]? = some (.pointer (some ⟨b5, 0, none⟩))
  t6 : a.tmps[6]? = some (.pointer (some ⟨b6, 0, none⟩))
  t7 : a.tmps[7]? = some (.pointer (some ⟨b7, 0, none⟩))
  t8 : a.tmps[8]? = some (.func (.func 45) #[] #[.pointer (some ⟨bP, 0, none⟩), .pointer (some ⟨bB, 0, none⟩)])
  t9 : a.tmps[9]? = some (.pointer (some ⟨b9, 0, none⟩))
def EaI (wL : World) (n₀ b5 b6 b7 bP bB : Nat) (few : Int) (Aw : Option Addr) (cw : Nat) (A : Option Addr) (cap : Nat) (xs : List St) (bub : Bool) (i : Nat) (a : Act) (w : World) : Prop :=
  ∃ b9 ds, EaF b5 b6 b7 b9 bP bB ds a ∧ Boxed w b9 3 (.int .i64 (i : Int)) ∧ EaB n₀ b5 b6 b7 bP bB few Aw cw A cap xs bub w ∧ ds.Nodup ∧ (∀ D ∈ ds, wL.heap.size ≤ D ∧ w.heap[D]? = some (.deferred (some []))) ∧ Below wL.heap.size wL w
/-- The invariant of the inner loop. -/
def EaJ (bk n₁ : Nat) (w : World) (T : List Tn) (pre : List Tn) (W : World) : Prop := Boxed W bk 3 (.int .i64 (pre.length : Int)) ∧ pre <+: T ∧ Below n₁ w W
def EaS (bk n₁ : Nat) (w : World) (T : List Tn) (i : Nat) (c : Code) (pre : List Tn) (W : World) : Prop := (c = .exit 2 ∧ i = 0 ∧ EaJ bk n₁ w T pre W) ∨ (c = .ret ∧ ¬ pre <+: T)
theorem KpE.set {n₀ bP bB lo b : Nat} {W : World} {v : Value} (h1 : n₀ ≤ b) (h2 : bP ≠ b) (h3 : bB ≠ b) (h4 : b < lo) : KpE n₀ bP bB lo W (W.setCell ⟨b, 0, none⟩ v) :=
  ⟨(Below.refl n₀ W).setCell h1 _, Below.heap_setCell W ⟨b, 0, none⟩ v _ h2, Below.heap_setCell W ⟨b, 0, none⟩ v _ h3, fun k q1 q2 => Below.heap_setCell W ⟨b, 0, none⟩ v k (by show k ≠ b; omega), (KeepsOthers.setCell W _ _).from _⟩
theorem ea_step {n₀ bk bP bB B lo : Nat} {w W : World} {T pre : List Tn} {x : Tn} {v : Int} (hk : Boxed W bk 3 (.int .i64 (pre.length : Int))) (hB : Below bk w W) (hx : pre ++ [x] <+: T) (hv : v = (pre.length : Int) + 1) (h1 : n₀ ≤ bk) (h2 : bP < bk) (h3 : bB < bk) (h4 : bk < lo) :
    KeepsFrom B W (W.drew.setCell ⟨bk, 0, none⟩ (.int .i64 v)) ∧ KpE n₀ bP bB lo W (W.drew.setCell ⟨bk, 0, none⟩ (.int .i64 v)) ∧ EaJ bk bk w T (pre ++ [x]) (W.drew.setCell ⟨bk, 0, none⟩ (.int .i64 v)) := by
  have hd : KpE n₀ bP bB lo W W.drew := ⟨(Below.refl n₀ W).drew, rfl, rfl, fun _ _ _ => rfl, (KeepsOthers.drew W).from _⟩
  have hk2 : Boxed W.drew bk 3 (.int .i64 (pre.length : Int)) := hk
  refine ⟨((KeepsOthers.drew W).trans (KeepsOthers.setCell _ _ _)).from _, hd.t (KpE.set h1 (by omega) (by omega) h4), ?_, hx, hB.drew.setCell (Nat.le_refl _) _⟩
  have := hk2.set (.int .i64 v)
  rw [hv] at this ⊢
  rw [List.length_append, List.length_singleton, Int.natCast_add]
  exact this
theorem ea_bad {n₀ b6 bP bB B lo : Nat} {W : World} {v : Value} (h1 : n₀ ≤ b6) (h2 : bP ≠ b6) (h3 : bB ≠ b6) (h4 : b6 < lo) :
    KeepsFrom B W (W.drew.setCell ⟨b6, 0, none⟩ v) ∧ KpE n₀ bP bB lo W (W.drew.setCell ⟨b6, 0, none⟩ v) :=
  ⟨((KeepsOthers.drew W).trans (KeepsOthers.setCell _ _ _)).from _, KpE.t (B := W.drew) ⟨(Below.refl n₀ W).drew, rfl, rfl, fun _ _ _ => rfl, (KeepsOthers.drew W).from _⟩ (KpE.set h1 h2 h3 h4)⟩
theorem EaJ.own {B bk n₁ : Nat} {w : World} (h1 : n₁ ≤ B) (h2 : n₁ ≤ w.heap.size) (T : List Tn) : OwnFrom B (EaJ bk n₁ w T) := fun pre X Y row ⟨q1, q2, q3⟩ hg hr =>
  ⟨q1.kept hg (boxed_notRow q1 fun r e => (hr r e).2), q2, q3.grown hg (Nat.le_trans h2 q3.size) fun k e => by have := (hr k e).1; omega⟩
theorem EaS.own {B bk n₁ : Nat} {w : World} (h1 : n₁ ≤ B) (h2 : n₁ ≤ w.heap.size) (T : List Tn) (i : Nat) (c : Code) : OwnFrom B (EaS bk n₁ w T i c) := fun pre X Y row h hg hr => by
  rcases h with ⟨rfl, rfl, h⟩ | h
  · exact .inl ⟨rfl, rfl, EaJ.own h1 h2 T pre X Y row h hg hr⟩
  · exact .inr h
set_option maxHeartbeats 4000000 in
theorem walkEach_f {xs : List St} (bub : Bool) (few : Int) (h8 : 0 ≤ few) (h82 : few ≤ 255) (hm : xs.length ≤ 9223372036854775807) : Fun Try.prog 6 [.sem (listS stE xs), .v (.bool bub), .v (.int .u8 few)] [] (.v (.bool true)) [] := by
  by_cases h3 : xs.length > 300
  · refine fun_intro 62 Try.func6 rfl rfl rfl (fun ι F S w => ?_)
    (repeat (first | (apply v_cx; exact rfl; exact cbA rfl; (first | exact awake16); exact rfl; exact rfl) | (apply v_move; exact rfl; exact rfl) | (apply v_assign; exact rfl; exact rfl) | refine run_seq ?_ | refine run_region ?_ | refine runL_nil ?_ | refine run_skip ?_ | refine run_block ?_ | refine run_inBlock ?_ | (apply run_exit; exact rfl) | (apply v_extract; exact rfl; exact rfl; exact rfl) | (apply v_fldP; exact flA rfl; exact rfl; exact rfl; exact rfl) | (apply v_fldA; exact flA rfl; exact rfl; exact rfl; exact rfl) | (apply v_loadB; exact tyA rfl; exact rfl; exact rfl; exact rfl; exact rfl; exact rfl; exact rfl) | (apply v_loadA; exact tyA rfl; exact rfl; exact rfl; exact rfl; exact rfl; exact rfl; exact rfl) | (apply v_on; exact rfl) | (apply v_off; exact rfl; exact rfl) | (apply v_off0; exact rfl) | (apply v_pick_t; exact rfl; exact rfl; exact rfl) | (apply v_pick_f; exact rfl; exact rfl; exact rfl) | (apply run_cond; exact rfl; rotate_left; (focus (intro hb; cases hb; done)); intro hb; clear hb) | (apply run_cond; exact rfl; (focus (intro hb; cases hb; done)); intro hb; clear hb) | (apply v_not; exact rfl; exact rfl) | (apply v_lss; exact rfl; exact rfl; exact rfl) | (apply v_eql; exact rfl; exact rfl; exact rfl) | (apply v_neq; exact rfl; exact rfl; exact rfl) | (apply v_gtr; exact rfl; exact rfl; exact rfl) | (apply v_leq; exact rfl; exact rfl; exact rfl) | (apply v_geq; exact rfl; exact rfl; exact rfl) | (apply v_lenL; exact slA rfl; exact rfl; exact rfl) | (apply v_lenO; exact slA rfl; exact rfl; exact rfl; exact rfl) | (apply v_lenN; exact slA rfl; exact rfl; exact rfl) | (apply v_nilEql; exact ptA rfl; exact rfl; exact rfl) | (apply v_nilNeq; exact ptA rfl; exact rfl; exact rfl) | (apply v_eqlNil; exact ptA rfl; exact rfl; exact NN.adr; exact rfl) | (apply v_neqNil; exact ptA rfl; exact rfl; exact NN.adr; exact rfl) | (apply v_eqlNil; exact ptA rfl; exact rfl; exact NN.ptr; exact rfl) | (apply v_neqNil; exact ptA rfl; exact rfl; exact NN.ptr; exact rfl) | (apply v_eqlNil; exact ptA rfl; exact rfl; exact NN.box rfl; exact rfl) | (apply v_neqNil; exact ptA rfl; exact rfl; exact NN.box rfl; exact rfl) | (apply v_nilCheck; exact rfl; exact NN.adr; exact rfl) | (apply v_nilCheck; exact rfl; exact NN.ptr; exact rfl) | (apply v_nilCheck; exact rfl; exact NN.box rfl; exact rfl) | (apply v_allocD; exact tyA rfl; exact rfl; exact rfl; exact rfl; exact rfl) | (apply v_boxD; exact rfl; exact rfl; exact rfl; exact rfl; exact rfl; exact rfl; exact rfl) | (apply v_storeW; exact tyA rfl; exact rfl; exact rfl; exact rfl; exact rfl; exact rfl; exact rfl; exact rfl) | (apply v_storeB; exact tyA rfl; exact rfl; exact rfl; exact rfl; exact rfl; exact rfl; exact rfl; exact rfl) | (apply v_eqlS; exact rfl; exact rfl; exact rfl) | (apply v_neqS; exact rfl; exact rfl; exact rfl) | (apply v_eqlB; exact boA rfl; exact rfl; exact rfl; exact rfl) | (apply v_neqB; exact boA rfl; exact rfl; exact rfl; exact rfl) | (apply v_b; exact plA rfl; exact tyA rfl; exact rfl; exact rfl; exact rfl) | (apply v_f; exact rfl; exact rfl) | (apply v_sliceH; exact slA rfl; exact tyA rfl; exact rfl; exact rfl; exact rfl; exact (by omega); exact (by omega); exact rfl) | (apply v_sliceL; exact slA rfl; exact tyA rfl; exact rfl; exact rfl; exact rfl; exact (by omega); exact (by omega); exact rfl) | (apply v_add; exact rfl; exact rfl; exact rfl; exact (by omega)) | (apply v_sub; exact rfl; exact rfl; exact rfl; exact (by omega))))
    refine run_condY rfl (by simp; omega) ?_
    (repeat (first | (apply v_move; exact rfl; exact rfl) | (apply v_assign; exact rfl; exact rfl) | refine run_seq ?_ | refine run_region ?_ | refine runL_nil ?_ | refine run_skip ?_ | refine run_block ?_ | refine run_inBlock ?_ | (apply run_exit; exact rfl) | (apply v_extract; exact rfl; exact rfl; exact rfl) | (apply v_fldP; exact flA rfl; exact rfl; exact rfl; exact rfl) | (apply v_fldA; exact flA rfl; exact rfl; exact rfl; exact rfl) | (apply v_loadB; exact tyA rfl; exact rfl; exact rfl; exact rfl; exact rfl; exact rfl; exact rfl) | (apply v_loadA; exact tyA rfl; exact rfl; exact rfl; exact rfl; exact rfl; exact rfl; exact rfl) | (apply v_on; exact rfl) | (apply v_off; exact rfl; exact rfl) | (apply v_off0; exact rfl) | (apply v_pick_t; exact rfl; exact rfl; exact rfl) | (apply v_pick_f; exact rfl; exact rfl; exact rfl) | (apply run_cond; exact rfl; rotate_left; (focus (intro hb; cases hb; done)); intro hb; clear hb) | (apply run_cond; exact rfl; (focus (intro hb; cases hb; done)); intro hb; clear hb) | (apply v_not; exact rfl; exact rfl) | (apply v_lss; exact rfl; exact rfl; exact rfl) | (apply v_eql; exact rfl; exact rfl; exact rfl) | (apply v_neq; exact rfl; exact rfl; exact rfl) | (apply v_gtr; exact rfl; exact rfl; exact rfl) | (apply v_leq; exact rfl; exact rfl; exact rfl) | (apply v_geq; exact rfl; exact rfl; exact rfl) | (apply v_lenL; exact slA rfl; exact rfl; exact rfl) | (apply v_lenO; exact slA rfl; exact rfl; exact rfl; exact rfl) | (apply v_lenN; exact slA rfl; exact rfl; exact rfl) | (apply v_nilEql; exact ptA rfl; exact rfl; exact rfl) | (apply v_nilNeq; exact ptA rfl; exact rfl; exact rfl) | (apply v_eqlNil; exact ptA rfl; exact rfl; exact NN.adr; exact rfl) | (apply v_neqNil; exact ptA rfl; exact rfl; exact NN.adr; exact rfl) | (apply v_eqlNil; exact ptA rfl; exact rfl; exact NN.ptr; exact rfl) | (apply v_neqNil; exact ptA rfl; exact rfl; exact NN.ptr; exact rfl) | (apply v_eqlNil; exact ptA rfl; exact rfl; exact NN.box rfl; exact rfl) | (apply v_neqNil; exact ptA rfl; exact rfl; exact NN.box rfl; exact rfl) | (apply v_nilCheck; exact rfl; exact NN.adr; exact rfl) | (apply v_nilCheck; exact rfl; exact NN.ptr; exact rfl) | (apply v_nilCheck; exact rfl; exact NN.box rfl; exact rfl) | (apply v_allocD; exact tyA rfl; exact rfl; exact rfl; exact rfl; exact rfl) | (apply v_boxD; exact rfl; exact rfl; exact rfl; exact rfl; exact rfl; exact rfl; exact rfl) | (apply v_storeW; exact tyA rfl; exact rfl; exact rfl; exact rfl; exact rfl; exact rfl; exact rfl; exact rfl) | (apply v_storeB; exact tyA rfl; exact rfl; exact rfl; exact rfl; exact rfl; exact rfl; exact rfl; exact rfl) | (apply v_eqlS; exact rfl; exact rfl; exact rfl) | (apply v_neqS; exact rfl; exact rfl; exact rfl) | (apply v_eqlB; exact boA rfl; exact rfl; exact rfl; exact rfl) | (apply v_neqB; exact boA rfl; exact rfl; exact rfl; exact rfl) | (apply v_b; exact plA rfl; exact tyA rfl; exact rfl; exact rfl; exact rfl) | (apply v_f; exact rfl; exact rfl) | (apply v_sliceH; exact slA rfl; exact tyA rfl; exact rfl; exact rfl; exact rfl; exact (by omega); exact (by omega); exact rfl) | (apply v_sliceL; exact slA rfl; exact tyA rfl; exact rfl; exact rfl; exact rfl; exact (by omega); exact (by omega); exact rfl) | (apply v_add; exact rfl; exact rfl; exact rfl; exact (by omega)) | (apply v_sub; exact rfl; exact rfl; exact rfl; exact (by omega))))
    exact run_ret idN _ Try.func6 ⟨_, _, _, _, _, _, rfl, rfl, rfl, tyA rfl, rfl, fun _ => rfl, rfl, rfl⟩ rfl trivial trivial rfl
  · have hT := turns_p (xs := xs) bub (by omega)
    refine fun_pin 62 Try.func6 rfl rfl fun ι F S w vals hh hv => ⟨[.sem (listB w.heap.size stE xs), .v (.bool bub), .v (.int .u8 few)], ?_, rfl, ?_⟩
    · obtain ⟨u, r, e, hu, hr⟩ := hv
      exact ⟨u, r, e, listB_of hu (by decide) hh.bnd, hr⟩
    have hT2 := hT.arg (l' := [.sem (listB w.heap.size stE xs), .v (.bool bub)]) ⟨listB_le _ _ _, Le.refl, trivial⟩
    have hE := each_f (listB w.heap.size stE xs) bub

    (repeat (first | (apply v_cx; exact rfl; exact cbA rfl; (first | exact awake16); exact rfl; exact rfl) | (apply v_move; exact rfl; exact rfl) | (apply v_assign; exact rfl; exact rfl) | refine run_seq ?_ | refine run_region ?_ | refine runL_nil ?_ | refine run_skip ?_ | refine run_block ?_ | refine run_inBlock ?_ | (apply run_exit; exact rfl) | (apply v_extract; exact rfl; exact rfl; exact rfl) | (apply v_fldP; exact flA rfl; exact rfl; exact rfl; exact rfl) | (apply v_fldA; exact flA rfl; exact rfl; exact rfl; exact rfl) | (apply v_loadB; exact tyA rfl; exact rfl; exact rfl; exact rfl; exact rfl; exact rfl; exact rfl) | (apply v_loadA; exact tyA rfl; exact rfl; exact rfl; exact rfl; exact rfl; exact rfl; exact rfl) | (apply v_on; exact rfl) | (apply v_off; exact rfl; exact rfl) | (apply v_off0; exact rfl) | (apply v_pick_t; exact rfl; exact rfl; exact rfl) | (apply v_pick_f; exact rfl; exact rfl; exact rfl) | (apply run_cond; exact rfl; rotate_left; (focus (intro hb; cases hb; done)); intro hb; clear hb) | (apply run_cond; exact rfl; (focus (intro hb; cases hb; done)); intro hb; clear hb) | (apply v_not; exact rfl; exact rfl) | (apply v_lss; exact rfl; exact rfl; exact rfl) | (apply v_eql; exact rfl; exact rfl; exact rfl) | (apply v_neq; exact rfl; exact rfl; exact rfl) | (apply v_gtr; exact rfl; exact rfl; exact rfl) | (apply v_leq; exact rfl; exact rfl; exact rfl) | (apply v_geq; exact rfl; exact rfl; exact rfl) | (apply v_lenL; exact slA rfl; exact rfl; exact rfl) | (apply v_lenO; exact slA rfl; exact rfl; exact rfl; exact rfl) | (apply v_lenN; exact slA rfl; exact rfl; exact rfl) | (apply v_nilEql; exact ptA rfl; exact rfl; exact rfl) | (apply v_nilNeq; exact ptA rfl; exact rfl; exact rfl) | (apply v_eqlNil; exact ptA rfl; exact rfl; exact NN.adr; exact rfl) | (apply v_neqNil; exact ptA rfl; exact rfl; exact NN.adr; exact rfl) | (apply v_eqlNil; exact ptA rfl; exact rfl; exact NN.ptr; exact rfl) | (apply v_neqNil; exact ptA rfl; exact rfl; exact NN.ptr; exact rfl) | (apply v_eqlNil; exact ptA rfl; exact rfl; exact NN.box rfl; exact rfl) | (apply v_neqNil; exact ptA rfl; exact rfl; exact NN.box rfl; exact rfl) | (apply v_nilCheck; exact rfl; exact NN.adr; exact rfl) | (apply v_nilCheck; exact rfl; exact NN.ptr; exact rfl) | (apply v_nilCheck; exact rfl; exact NN.box rfl; exact rfl) | (apply v_allocD; exact tyA rfl; exact rfl; exact rfl; exact rfl; exact rfl) | (apply v_boxD; exact rfl; exact rfl; exact rfl; exact rfl; exact rfl; exact rfl; exact rfl) | (apply v_storeW; exact tyA rfl; exact rfl; exact rfl; exact rfl; exact rfl; exact rfl; exact rfl; exact rfl) | (apply v_storeB; exact tyA rfl; exact rfl; exact rfl; exact rfl; exact rfl; exact rfl; exact rfl; exact rfl) | (apply v_eqlS; exact rfl; exact rfl; exact rfl) | (apply v_neqS; exact rfl; exact rfl; exact rfl) | (apply v_eqlB; exact boA rfl; exact rfl; exact rfl; exact rfl) | (apply v_neqB; exact boA rfl; exact rfl; exact rfl; exact rfl) | (apply v_b; exact plA rfl; exact tyA rfl; exact rfl; exact rfl; exact rfl) | (apply v_f; exact rfl; exact rfl) | (apply v_sliceH; exact slA rfl; exact tyA rfl; exact rfl; exact rfl; exact rfl; exact (by omega); exact (by omega); exact rfl) | (apply v_sliceL; exact slA rfl; exact tyA rfl; exact rfl; exact rfl; exact rfl; exact (by omega); exact (by omega); exact rfl) | (apply v_add; exact rfl; exact rfl; exact rfl; exact (by omega)) | (apply v_sub; exact rfl; exact rfl; exact rfl; exact (by omega))))
    refine runL_know 14 (y := .sem (listS stE xs)) rfl (fun _ _ _ _ _ _ h => listB_le _ _ _ _ _ _ _ h) ?_
    (repeat (first | (apply v_move; exact rfl; exact rfl) | (apply v_assign; exact rfl; exact rfl) | refine run_seq ?_ | refine run_region ?_ | refine runL_nil ?_ | refine run_skip ?_ | refine run_block ?_ | refine run_inBlock ?_ | (apply run_exit; exact rfl) | (apply v_extract; exact rfl; exact rfl; exact rfl) | (apply v_fldP; exact flA rfl; exact rfl; exact rfl; exact rfl) | (apply v_fldA; exact flA rfl; exact rfl; exact rfl; exact rfl) | (apply v_loadB; exact tyA rfl; exact rfl; exact rfl; exact rfl; exact rfl; exact rfl; exact rfl) | (apply v_loadA; exact tyA rfl; exact rfl; exact rfl; exact rfl; exact rfl; exact rfl; exact rfl) | (apply v_on; exact rfl) | (apply v_off; exact rfl; exact rfl) | (apply v_off0; exact rfl) | (apply v_pick_t; exact rfl; exact rfl; exact rfl) | (apply v_pick_f; exact rfl; exact rfl; exact rfl) | (apply run_cond; exact rfl; rotate_left; (focus (intro hb; cases hb; done)); intro hb; clear hb) | (apply run_cond; exact rfl; (focus (intro hb; cases hb; done)); intro hb; clear hb) | (apply v_not; exact rfl; exact rfl) | (apply v_lss; exact rfl; exact rfl; exact rfl) | (apply v_eql; exact rfl; exact rfl; exact rfl) | (apply v_neq; exact rfl; exact rfl; exact rfl) | (apply v_gtr; exact rfl; exact rfl; exact rfl) | (apply v_leq; exact rfl; exact rfl; exact rfl) | (apply v_geq; exact rfl; exact rfl; exact rfl) | (apply v_lenL; exact slA rfl; exact rfl; exact rfl) | (apply v_lenO; exact slA rfl; exact rfl; exact rfl; exact rfl) | (apply v_lenN; exact slA rfl; exact rfl; exact rfl) | (apply v_nilEql; exact ptA rfl; exact rfl; exact rfl) | (apply v_nilNeq; exact ptA rfl; exact rfl; exact rfl) | (apply v_eqlNil; exact ptA rfl; exact rfl; exact NN.adr; exact rfl) | (apply v_neqNil; exact ptA rfl; exact rfl; exact NN.adr; exact rfl) | (apply v_eqlNil; exact ptA rfl; exact rfl; exact NN.ptr; exact rfl) | (apply v_neqNil; exact ptA rfl; exact rfl; exact NN.ptr; exact rfl) | (apply v_eqlNil; exact ptA rfl; exact rfl; exact NN.box rfl; exact rfl) | (apply v_neqNil; exact ptA rfl; exact rfl; exact NN.box rfl; exact rfl) | (apply v_nilCheck; exact rfl; exact NN.adr; exact rfl) | (apply v_nilCheck; exact rfl; exact NN.ptr; exact rfl) | (apply v_nilCheck; exact rfl; exact NN.box rfl; exact rfl) | (apply v_allocD; exact tyA rfl; exact rfl; exact rfl; exact rfl; exact rfl) | (apply v_boxD; exact rfl; exact rfl; exact rfl; exact rfl; exact rfl; exact rfl; exact rfl) | (apply v_storeW; exact tyA rfl; exact rfl; exact rfl; exact rfl; exact rfl; exact rfl; exact rfl; exact rfl) | (apply v_storeB; exact tyA rfl; exact rfl; exact rfl; exact rfl; exact rfl; exact rfl; exact rfl; exact rfl) | (apply v_eqlS; exact rfl; exact rfl; exact rfl) | (apply v_neqS; exact rfl; exact rfl; exact rfl) | (apply v_eqlB; exact boA rfl; exact rfl; exact rfl; exact rfl) | (apply v_neqB; exact boA rfl; exact rfl; exact rfl; exact rfl) | (apply v_b; exact plA rfl; exact tyA rfl; exact rfl; exact rfl; exact rfl) | (apply v_f; exact rfl; exact rfl) | (apply v_sliceH; exact slA rfl; exact tyA rfl; exact rfl; exact rfl; exact rfl; exact (by omega); exact (by omega); exact rfl) | (apply v_sliceL; exact slA rfl; exact tyA rfl; exact rfl; exact rfl; exact rfl; exact (by omega); exact (by omega); exact rfl) | (apply v_add; exact rfl; exact rfl; exact rfl; exact (by omega)) | (apply v_sub; exact rfl; exact rfl; exact rfl; exact (by omega))))
    refine run_condN rfl (by simp; omega) ?_
    (repeat (first | (apply v_cx; exact rfl; exact cbA rfl; (first | exact hT2); exact rfl; exact rfl) | (apply v_move; exact rfl; exact rfl) | (apply v_assign; exact rfl; exact rfl) | refine run_seq ?_ | refine run_region ?_ | refine runL_nil ?_ | refine run_skip ?_ | refine run_block ?_ | refine run_inBlock ?_ | (apply run_exit; exact rfl) | (apply v_extract; exact rfl; exact rfl; exact rfl) | (apply v_fldP; exact flA rfl; exact rfl; exact rfl; exact rfl) | (apply v_fldA; exact flA rfl; exact rfl; exact rfl; exact rfl) | (apply v_loadB; exact tyA rfl; exact rfl; exact rfl; exact rfl; exact rfl; exact rfl; exact rfl) | (apply v_loadA; exact tyA rfl; exact rfl; exact rfl; exact rfl; exact rfl; exact rfl; exact rfl) | (apply v_on; exact rfl) | (apply v_off; exact rfl; exact rfl) | (apply v_off0; exact rfl) | (apply v_pick_t; exact rfl; exact rfl; exact rfl) | (apply v_pick_f; exact rfl; exact rfl; exact rfl) | (apply run_cond; exact rfl; rotate_left; (focus (intro hb; cases hb; done)); intro hb; clear hb) | (apply run_cond; exact rfl; (focus (intro hb; cases hb; done)); intro hb; clear hb) | (apply v_not; exact rfl; exact rfl) | (apply v_lss; exact rfl; exact rfl; exact rfl) | (apply v_eql; exact rfl; exact rfl; exact rfl) | (apply v_neq; exact rfl; exact rfl; exact rfl) | (apply v_gtr; exact rfl; exact rfl; exact rfl) | (apply v_leq; exact rfl; exact rfl; exact rfl) | (apply v_geq; exact rfl; exact rfl; exact rfl) | (apply v_lenL; exact slA rfl; exact rfl; exact rfl) | (apply v_lenO; exact slA rfl; exact rfl; exact rfl; exact rfl) | (apply v_lenN; exact slA rfl; exact rfl; exact rfl) | (apply v_nilEql; exact ptA rfl; exact rfl; exact rfl) | (apply v_nilNeq; exact ptA rfl; exact rfl; exact rfl) | (apply v_eqlNil; exact ptA rfl; exact rfl; exact NN.adr; exact rfl) | (apply v_neqNil; exact ptA rfl; exact rfl; exact NN.adr; exact rfl) | (apply v_eqlNil; exact ptA rfl; exact rfl; exact NN.ptr; exact rfl) | (apply v_neqNil; exact ptA rfl; exact rfl; exact NN.ptr; exact rfl) | (apply v_eqlNil; exact ptA rfl; exact rfl; exact NN.box rfl; exact rfl) | (apply v_neqNil; exact ptA rfl; exact rfl; exact NN.box rfl; exact rfl) | (apply v_nilCheck; exact rfl; exact NN.adr; exact rfl) | (apply v_nilCheck; exact rfl; exact NN.ptr; exact rfl) | (apply v_nilCheck; exact rfl; exact NN.box rfl; exact rfl) | (apply v_allocD; exact tyA rfl; exact rfl; exact rfl; exact rfl; exact rfl) | (apply v_boxD; exact rfl; exact rfl; exact rfl; exact rfl; exact rfl; exact rfl; exact rfl) | (apply v_storeW; exact tyA rfl; exact rfl; exact rfl; exact rfl; exact rfl; exact rfl; exact rfl; exact rfl) | (apply v_storeB; exact tyA rfl; exact rfl; exact rfl; exact rfl; exact rfl; exact rfl; exact rfl; exact rfl) | (apply v_eqlS; exact rfl; exact rfl; exact rfl) | (apply v_neqS; exact rfl; exact rfl; exact rfl) | (apply v_eqlB; exact boA rfl; exact rfl; exact rfl; exact rfl) | (apply v_neqB; exact boA rfl; exact rfl; exact rfl; exact rfl) | (apply v_b; exact plA rfl; exact tyA rfl; exact rfl; exact rfl; exact rfl) | (apply v_f; exact rfl; exact rfl) | (apply v_sliceH; exact slA rfl; exact tyA rfl; exact rfl; exact rfl; exact rfl; exact (by omega); exact (by omega); exact rfl) | (apply v_sliceL; exact slA rfl; exact tyA rfl; exact rfl; exact rfl; exact rfl; exact (by omega); exact (by omega); exact rfl) | (apply v_add; exact rfl; exact rfl; exact rfl; exact (by omega)) | (apply v_sub; exact rfl; exact rfl; exact rfl; exact (by omega))))
    refine v_cR (mp [(0, 100), (1, 101)]) hE rfl (cbA rfl) trivial (by kernel_rfl) (by kernel_rfl) (by kernel_rfl) (by kernel_rfl) (by kernel_rfl) (by kernel_rfl) (by kernel_rfl) (by kernel_rfl) rfl ?_
    (repeat (first | (apply v_fnNil; exact rfl; exact rfl; exact rfl) | (apply v_move; exact rfl; exact rfl) | (apply v_assign; exact rfl; exact rfl) | refine run_seq ?_ | refine run_region ?_ | refine runL_nil ?_ | refine run_skip ?_ | refine run_block ?_ | refine run_inBlock ?_ | (apply run_exit; exact rfl) | (apply v_extract; exact rfl; exact rfl; exact rfl) | (apply v_fldP; exact flA rfl; exact rfl; exact rfl; exact rfl) | (apply v_fldA; exact flA rfl; exact rfl; exact rfl; exact rfl) | (apply v_loadB; exact tyA rfl; exact rfl; exact rfl; exact rfl; exact rfl; exact rfl; exact rfl) | (apply v_loadA; exact tyA rfl; exact rfl; exact rfl; exact rfl; exact rfl; exact rfl; exact rfl) | (apply v_on; exact rfl) | (apply v_off; exact rfl; exact rfl) | (apply v_off0; exact rfl) | (apply v_pick_t; exact rfl; exact rfl; exact rfl) | (apply v_pick_f; exact rfl; exact rfl; exact rfl) | (apply run_cond; exact rfl; rotate_left; (focus (intro hb; cases hb; done)); intro hb; clear hb) | (apply run_cond; exact rfl; (focus (intro hb; cases hb; done)); intro hb; clear hb) | (apply v_not; exact rfl; exact rfl) | (apply v_lss; exact rfl; exact rfl; exact rfl) | (apply v_eql; exact rfl; exact rfl; exact rfl) | (apply v_neq; exact rfl; exact rfl; exact rfl) | (apply v_gtr; exact rfl; exact rfl; exact rfl) | (apply v_leq; exact rfl; exact rfl; exact rfl) | (apply v_geq; exact rfl; exact rfl; exact rfl) | (apply v_lenL; exact slA rfl; exact rfl; exact rfl) | (apply v_lenO; exact slA rfl; exact rfl; exact rfl; exact rfl) | (apply v_lenN; exact slA rfl; exact rfl; exact rfl) | (apply v_nilEql; exact ptA rfl; exact rfl; exact rfl) | (apply v_nilNeq; exact ptA rfl; exact rfl; exact rfl) | (apply v_eqlNil; exact ptA rfl; exact rfl; exact NN.adr; exact rfl) | (apply v_neqNil; exact ptA rfl; exact rfl; exact NN.adr; exact rfl) | (apply v_eqlNil; exact ptA rfl; exact rfl; exact NN.ptr; exact rfl) | (apply v_neqNil; exact ptA rfl; exact rfl; exact NN.ptr; exact rfl) | (apply v_eqlNil; exact ptA rfl; exact rfl; exact NN.box rfl; exact rfl) | (apply v_neqNil; exact ptA rfl; exact rfl; exact NN.box rfl; exact rfl) | (apply v_nilCheck; exact rfl; exact NN.adr; exact rfl) | (apply v_nilCheck; exact rfl; exact NN.ptr; exact rfl) | (apply v_nilCheck; exact rfl; exact NN.box rfl; exact rfl) | (apply v_allocD; exact tyA rfl; exact rfl; exact rfl; exact rfl; exact rfl) | (apply v_boxD; exact rfl; exact rfl; exact rfl; exact rfl; exact rfl; exact rfl; exact rfl) | (apply v_storeW; exact tyA rfl; exact rfl; exact rfl; exact rfl; exact rfl; exact rfl; exact rfl; exact rfl) | (apply v_storeB; exact tyA rfl; exact rfl; exact rfl; exact rfl; exact rfl; exact rfl; exact rfl; exact rfl) | (apply v_eqlS; exact rfl; exact rfl; exact rfl) | (apply v_neqS; exact rfl; exact rfl; exact rfl) | (apply v_eqlB; exact boA rfl; exact rfl; exact rfl; exact rfl) | (apply v_neqB; exact boA rfl; exact rfl; exact rfl; exact rfl) | (apply v_b; exact plA rfl; exact tyA rfl; exact rfl; exact rfl; exact rfl) | (apply v_f; exact rfl; exact rfl) | (apply v_sliceH; exact slA rfl; exact tyA rfl; exact rfl; exact rfl; exact rfl; exact (by omega); exact (by omega); exact rfl) | (apply v_sliceL; exact slA rfl; exact tyA rfl; exact rfl; exact rfl; exact rfl; exact (by omega); exact (by omega); exact rfl) | (apply v_add; exact rfl; exact rfl; exact rfl; exact (by omega)) | (apply v_sub; exact rfl; exact rfl; exact rfl; exact (by omega))))
    refine .mk fun a1 w1 hs1 => ?_
    obtain ⟨ι1, F1, S1, hA⟩ := hs1
    obtain ⟨b5, u5, i5, h5, v5, n5, l5, s5, f5⟩ := sim_box hA rfl (g := 5) (T := 5) (x := .v (.int .u8 few)) rfl
    obtain ⟨b6, u6, i6, h6, v6, n6, l6, s6, f6⟩ := sim_box hA rfl (g := 6) (T := 4) (x := .v (.bool false)) rfl
    obtain ⟨b7, u7, i7, h7, v7, n7, l7, s7, f7⟩ := sim_box hA rfl (g := 7) (T := 41) (x := .sem (listS tnE (turnsM xs bub))) rfl
    obtain ⟨b9, u9, i9, h9, v9, n9, l9, s9, f9⟩ := sim_box hA rfl (g := 9) (T := 3) (x := .v (.int .i64 0)) rfl
    obtain ⟨bP, uP, iP, hP, vP, nP, lP, sP, fP⟩ := sim_box hA rfl (g := 100) (T := 40) (x := .sem (listB w.heap.size stE xs)) rfl
    obtain ⟨bB, uB, iB, hB, vB, nB, lB, sB, fB⟩ := sim_box hA rfl (g := 101) (T := 4) (x := .v (.bool bub)) rfl
    have t5 := sim_ptr hA (n := 5) rfl i5
    have t6 := sim_ptr hA (n := 6) rfl i6
    have t7 := sim_ptr hA (n := 7) rfl i7
    have t9 := sim_ptr hA (n := 9) rfl i9
    obtain ⟨uf, t8, vf⟩ := hA.ts 8 (.fn 45 [.ptr 100 0, .ptr 101 0]) rfl
    simp only [AVR] at v5 v6 v9 vB
    obtain ⟨Aw, cw, e7, _, r7⟩ := v7
    obtain ⟨⟨Ap, cp, eP, _, rP⟩, hAp⟩ := vP
    subst v5 v6 v9 vB e7 eP
    have hfn : uf = .func (.func 45) #[] #[.pointer (some ⟨bP, 0, none⟩), .pointer (some ⟨bB, 0, none⟩)] := by
      simp only [AVR, AVRs, iP, iB] at vf
      obtain ⟨us, rfl, _, _, rfl, ⟨_, q1, rfl⟩, _, _, rfl, ⟨_, q2, rfl⟩, rfl⟩ := vf
      simp [baseOf] at q1 q2
      rw [q1, q2]
    subst hfn
    have hE1 : EaB w.heap.size b5 b6 b7 bP bB few Aw cw Ap cp xs bub w1 := ⟨h5, h6, h7, hP, hB, list_tnAt r7, list_stAt16 rP, n6, sim_ne hA (g := 100) (g' := 6) rfl rfl rfl rfl (by decide) fP f6, sim_ne hA (g := 101) (g' := 6) rfl rfl rfl rfl (by decide) fB f6, fun ad hn he => hAp hn ad _ _ (by rw [he]), hA.sw.but.size⟩
    have hR := fun (w' : World) (u : Value) (hu : u = .bool true) (hb : Below w.heap.size w1 w') => cxR_of (u := u) hA rfl rfl (by rw [hu]) hb
    have hF1 : EaF b5 b6 b7 b9 bP bB [] a1 := ⟨hA.sz, hA.df, t5, t6, t7, t8, t9⟩
    clear hA t5 t6 t7 t8 t9 i5 i6 i7 i9 iP iB f5 f6 f7 f9 fP fB s5 s6 s7 s9 sP sB hE hT hT2 hh hv
    have hEL := Lib.hid hE1
    refine Go_.step ?_ (fun _ _ => step_loop)
    refine go_rounds 2 (EaI w1 w.heap.size b5 b6 b7 bP bB few Aw cw Ap cp xs bub) 10 Try.func6 ?round ?last ⟨b9, [], hF1, h9, hE1, List.nodup_nil, by simp, Below.refl _ _⟩
    case round =>
      clear hF1 h9 hE1 h5 h6 h7 hP hB l5 l6 l7 l9 lP lB n5 n7 n9 nP nB rP r7 hR hEL
      rintro i hi ⟨⟨tm⟩, dfs⟩ w2 ⟨b9, ds, ⟨hsz, hdf, t5, t6, t7, t8, t9⟩, h9, hE, hnd, hds, hB0⟩
      dsimp only at hdf hsz t5 t6 t7 t8 t9
      subst hdf
      rw [List.size_toArray] at hsz
      obtain ⟨z0, tm0, rfl, hs0⟩ := list_cut hsz; obtain ⟨z1, tm1, rfl, hs1⟩ := list_cut hs0; obtain ⟨z2, tm2, rfl, hs2⟩ := list_cut hs1; obtain ⟨z3, tm3, rfl, hs3⟩ := list_cut hs2; obtain ⟨z4, tm4, rfl, hs4⟩ := list_cut hs3; obtain ⟨z5, tm5, rfl, hs5⟩ := list_cut hs4; obtain ⟨z6, tm6, rfl, hs6⟩ := list_cut hs5; obtain ⟨z7, tm7, rfl, hs7⟩ := list_cut hs6; obtain ⟨z8, tm8, rfl, hs8⟩ := list_cut hs7; obtain ⟨z9, tm9, rfl, hs9⟩ := list_cut hs8; obtain ⟨z10, tm10, rfl, hs10⟩ := list_cut hs9; obtain ⟨z11, tm11, rfl, hs11⟩ := list_cut hs10; obtain ⟨z12, tm12, rfl, hs12⟩ := list_cut hs11; obtain ⟨z13, tm13, rfl, hs13⟩ := list_cut hs12; obtain ⟨z14, tm14, rfl, hs14⟩ := list_cut hs13; obtain ⟨z15, tm15, rfl, hs15⟩ := list_cut hs14; obtain ⟨z16, tm16, rfl, hs16⟩ := list_cut hs15; obtain ⟨z17, tm17, rfl, hs17⟩ := list_cut hs16; obtain ⟨z18, tm18, rfl, hs18⟩ := list_cut hs17; obtain ⟨z19, tm19, rfl, hs19⟩ := list_cut hs18; obtain ⟨z20, tm20, rfl, hs20⟩ := list_cut hs19; obtain ⟨z21, tm21, rfl, hs21⟩ := list_cut hs20; obtain ⟨z22, tm22, rfl, hs22⟩ := list_cut hs21; obtain ⟨z23, tm23, rfl, hs23⟩ := list_cut hs22; obtain ⟨z24, tm24, rfl, hs24⟩ := list_cut hs23; obtain ⟨z25, tm25, rfl, hs25⟩ := list_cut hs24; obtain ⟨z26, tm26, rfl, hs26⟩ := list_cut hs25; obtain ⟨z27, tm27, rfl, hs27⟩ := list_cut hs26; obtain ⟨z28, tm28, rfl, hs28⟩ := list_cut hs27; obtain ⟨z29, tm29, rfl, hs29⟩ := list_cut hs28; obtain ⟨z30, tm30, rfl, hs30⟩ := list_cut hs29; obtain ⟨z31, tm31, rfl, hs31⟩ := list_cut hs30; obtain ⟨z32, tm32, rfl, hs32⟩ := list_cut hs31; obtain ⟨z33, tm33, rfl, hs33⟩ := list_cut hs32; obtain ⟨z34, tm34, rfl, hs34⟩ := list_cut hs33; obtain ⟨z35, tm35, rfl, hs35⟩ := list_cut hs34; obtain ⟨z36, tm36, rfl, hs36⟩ := list_cut hs35; obtain ⟨z37, tm37, rfl, hs37⟩ := list_cut hs36; obtain ⟨z38, tm38, rfl, hs38⟩ := list_cut hs37; obtain ⟨z39, tm39, rfl, hs39⟩ := list_cut hs38; obtain ⟨z40, tm40, rfl, hs40⟩ := list_cut hs39; obtain ⟨z41, tm41, rfl, hs41⟩ := list_cut hs40; obtain ⟨z42, tm42, rfl, hs42⟩ := list_cut hs41; obtain ⟨z43, tm43, rfl, hs43⟩ := list_cut hs42; obtain ⟨z44, tm44, rfl, hs44⟩ := list_cut hs43; obtain ⟨z45, tm45, rfl, hs45⟩ := list_cut hs44; obtain ⟨z46, tm46, rfl, hs46⟩ := list_cut hs45; obtain ⟨z47, tm47, rfl, hs47⟩ := list_cut hs46; obtain ⟨z48, tm48, rfl, hs48⟩ := list_cut hs47; obtain ⟨z49, tm49, rfl, hs49⟩ := list_cut hs48; obtain ⟨z50, tm50, rfl, hs50⟩ := list_cut hs49; obtain ⟨z51, tm51, rfl, hs51⟩ := list_cut hs50; obtain ⟨z52, tm52, rfl, hs52⟩ := list_cut hs51; obtain ⟨z53, tm53, rfl, hs53⟩ := list_cut hs52; obtain ⟨z54, tm54, rfl, hs54⟩ := list_cut hs53; obtain ⟨z55, tm55, rfl, hs55⟩ := list_cut hs54; obtain ⟨z56, tm56, rfl, hs56⟩ := list_cut hs55; obtain ⟨z57, tm57, rfl, hs57⟩ := list_cut hs56; obtain ⟨z58, tm58, rfl, hs58⟩ := list_cut hs57; obtain ⟨z59, tm59, rfl, hs59⟩ := list_cut hs58; obtain ⟨z60, tm60, rfl, hs60⟩ := list_cut hs59; obtain ⟨z61, tm61, rfl, hs61⟩ := list_cut hs60
      obtain rfl := List.eq_nil_of_length_eq_zero hs61
      clear hsz hs0 hs1 hs2 hs3 hs4 hs5 hs6 hs7 hs8 hs9 hs10 hs11 hs12 hs13 hs14 hs15 hs16 hs17 hs18 hs19 hs20 hs21 hs22 hs23 hs24 hs25 hs26 hs27 hs28 hs29 hs30 hs31 hs32 hs33 hs34 hs35 hs36 hs37 hs38 hs39 hs40 hs41 hs42 hs43 hs44 hs45 hs46 hs47 hs48 hs49 hs50 hs51 hs52 hs53 hs54 hs55 hs56 hs57 hs58 hs59 hs60 hs61
      simp only [List.getElem?_toArray, List.getElem?_cons_zero, List.getElem?_cons_succ, Option.some.injEq] at t5 t6 t7 t8 t9
      subst t5 t6 t7 t8 t9
      dsimp only
      have q9 := h9.cell
      have hlt : decide ((i : Int) < 2) = true := by simpa using (by omega : (i : Int) < 2)
      gi_wp2
      have hk0 := Boxed.new w2 3 (.int .i64 0)
      have hB2 : Below w2.heap.size w2 (w2.alloc (.cells #[.int .i64 0] 3)) := (Below.refl _ _).alloc (Nat.le_refl _) _
      have hs0 : (w2.alloc (.cells #[.int .i64 0] 3)).heap.size = w2.heap.size + 1 := by simp
      obtain ⟨W0, hW0⟩ : ∃ W0, w2.alloc (.cells #[.int .i64 0] 3) = W0 := ⟨_, rfl⟩
      rw [hW0] at hk0 hB2 hs0 ⊢
      clear hW0 q9
      have hE0 := hE.below hB2
      have hbP := hE.cP.lt
      have hbB := hE.cB.lt
      have hnn := hE.n₀l
      refine wpIn_rangeFunc_c rfl (by omega) (gf := 45) (lb := #[.pointer (some ⟨bP, 0, none⟩), .pointer (some ⟨bB, 0, none⟩)]) (by simp [go_sem]) trivial (enters_of Try.func45 (by kernel_rfl) rfl)
        (each1_c w.heap.size bP bB Ap cp xs bub (by omega) W0 (W0.heap.size + 2) (by omega) hE0.n₀l hE0.cP hE0.cB hE0.st hE0.hA) KpE.t ?kb (Below.refl _ _) (fun _ => rfl)
        (EaJ w2.heap.size w2.heap.size w2 (turnsM xs bub)) (EaS w2.heap.size w2.heap.size w2 (turnsM xs bub) i)
        (EaJ.own (by omega) (Nat.le_refl _) _) (fun c => EaS.own (by omega) (Nat.le_refl _) _ _ c) ⟨hk0, List.nil_prefix, hB2⟩
        (fun x b => { tmps := #[z0, z1, z2, z3, z4, .pointer (some ⟨b5, 0, none⟩), .pointer (some ⟨b6, 0, none⟩), .pointer (some ⟨b7, 0, none⟩), .func (.func 45) #[] #[.pointer (some ⟨bP, 0, none⟩), .pointer (some ⟨bB, 0, none⟩)], .pointer (some ⟨b9, 0, none⟩), .pointer (some ⟨w2.heap.size, 0, none⟩), .pointer (some ⟨b, 0, none⟩), z12, z13, z14, z15, z16, z17, z18, z19, z20, z21, z22, z23, z24, .int .i64 (i : Int), .bool true, z27, z28, .func (.func 45) #[] #[.pointer (some ⟨bP, 0, none⟩), .pointer (some ⟨bB, 0, none⟩)], .agg #[.int .i64 x.at', .int .i64 x.ph, .bool x.cap], z31, z32, z33, z34, z35, z36, z37, z38, z39, z40, z41, z42, z43, z44, z45, z46, z47, z48, z49, z50, z51, z52, z53, z54, z55, z56, z57, z58, z59, z60, z61], defers := [] })
        (fun x => .cells #[.int .i64 x.at', .int .i64 x.ph, .bool x.cap] 44)
        ?ka ?assign ?body ?done ?stop
      case kb =>
        intro W o o' ho hc
        have hlt := (Array.getElem?_eq_some_iff.1 ho).1
        have hk : ∀ k, k ≠ W0.heap.size + 1 → (W.putObj (W0.heap.size + 1) o').heap[k]? = W.heap[k]? := fun k h => World.putObj_heap_other h
        exact ⟨(Below.refl _ W).grown (grownBy_putObj' W (W0.heap.size + 1) o') (by omega) (fun k e => by cases e; omega), hk _ (by omega), hk _ (by omega), fun k h1 h2 => hk k (by omega), KeepsFrom.of_grownBy (grownBy_putObj' W (W0.heap.size + 1) o') (fun j e => by cases e; omega)⟩
      case ka =>
        intro W o hs
        have hk : ∀ k, k < W.heap.size → (W.alloc o).heap[k]? = W.heap[k]? := fun k h => Below.heap_alloc W o k h
        exact ⟨(Below.refl _ W).alloc (by omega) _, hk _ (by omega), hk _ (by omega), fun k h1 h2 => hk k (by omega), (KeepsOthers.alloc W o).from _⟩
      case assign =>
        intro l x W K hK
        dsimp only [encT]
        gi_wp2
        exact hK
      case body =>
        rintro l pre x b W ⟨hk, hpre, hBW⟩ hb hbo hpl hsW
        have hTl := turnsM_le xs bub (show xs.length ≤ 1000 by omega)
        have hx : Blk W b 44 _ := hbo
        have hEW := hE.below hBW
        have h9W := boxed_below h9 hBW h9.lt
        have hk' : ((pre.length : Nat) : Int).toNat = pre.length := by omega
        have x0 := hx.cell 0; have x1 := hx.cell 1; have x2 := hx.cell 2
        simp at x0 x1 x2
        have q10 := hk.cell
        have z10' := hk.frozen
        have q5 := hEW.c5.cell
        have q6 := hEW.c6.cell
        have z6' := hEW.c6.frozen
        have q7 := hEW.c7.cell
        have q9 := h9W.cell
        have d9 : ¬ b9 = w2.heap.size := by have := h9.lt; omega
        have d9' : ¬ w2.heap.size = b9 := fun e => d9 e.symm
        have d5 : ¬ b5 = w2.heap.size := by have := hE.c5.lt; omega
        have d5' : ¬ w2.heap.size = b5 := fun e => d5 e.symm
        have g6 : b6 < w2.heap.size := hE.c6.lt
        by_cases hl : pre.length < (turnsM xs bub).length
        · obtain ⟨ba, oa, hAw, hbl, hc⟩ := hEW.tn (by omega)
          subst hAw
          have c0 := hc pre.length 0 hl (by decide)
          have c1 := hc pre.length 1 hl (by decide)
          have c2 := hc pre.length 2 hl (by decide)
          have hd1 : decide ((turnsM xs bub).length ≤ pre.length) = false := by simpa using hl
          have hlx : ((pre.length : Int)) < ((turnsM xs bub).length : Int) := by omega
          obtain ⟨r, hr⟩ := hpre
          have e1 : r = (turnsM xs bub).drop pre.length := by rw [← hr]; simp
          rw [List.drop_eq_getElem_cons hl] at e1
          clear hc
          by_cases hxe : x = (turnsM xs bub)[pre.length]
          · rw [← hxe] at c0 c1 c2 e1
            have hpx : pre ++ [x] <+: turnsM xs bub := ⟨(turnsM xs bub).drop (pre.length + 1), by rw [List.append_assoc, List.singleton_append, ← e1, hr]⟩
            obtain ⟨a1', a2', a3'⟩ := x
            simp only [Tn.cell, Nat.add_zero] at c0 c1 c2
            dsimp only at x0 x1 x2 ⊢
            have hd2 : tnEq a1' a2' a3' a1' a2' a3' = true := decide_eq_true rfl
            have HX := Lib.hid hpx
            clear hpx hxe hpl hr e1
            gi_wp2
            refine wpIn_mono (Q := fun e a' w' => e = .normal ∧ a' = { tmps := #[z0, z1, z2, z3, z4, .pointer (some ⟨b5, 0, none⟩), .pointer (some ⟨b6, 0, none⟩), .pointer (some ⟨b7, 0, none⟩), .func (.func 45) #[] #[.pointer (some ⟨bP, 0, none⟩), .pointer (some ⟨bB, 0, none⟩)], .pointer (some ⟨b9, 0, none⟩), .pointer (some ⟨w2.heap.size, 0, none⟩), .pointer (some ⟨b, 0, none⟩), z12, z13, z14, z15, z16, z17, z18, z19, z20, z21, z22, z23, z24, .int .i64 (i : Int), .bool true, z27, z28, .func (.func 45) #[] #[.pointer (some ⟨bP, 0, none⟩), .pointer (some ⟨bB, 0, none⟩)], .agg #[.int .i64 a1', .int .i64 a2', .bool a3'], .int .i64 (pre.length : Int), .slice (some ⟨ba, oa, none⟩) (turnsM xs bub).length cw, .int .i64 ((turnsM xs bub).length : Int), .bool false, .bool false, .agg #[.int .i64 a1', .int .i64 a2', .bool a3'], .slice (some ⟨ba, oa, none⟩) (turnsM xs bub).length cw, .int .i64 (pre.length : Int), .pointer (some ⟨ba, oa + pre.length * 3, none⟩), .agg #[.int .i64 a1', .int .i64 a2', .bool a3'], .bool false, .bool false, z43, z44, z45, z46, z47, z48, z49, z50, z51, z52, z53, z54, z55, z56, z57, z58, z59, z60, z61], defers := [] } ∧ w' = W.drew) ?_ ?_
            · clear hk hBW hE hEW h9W hE0 hB2 hk0 h9 hds hB0
              gi_region
              all_goals exact ⟨rfl, rfl, rfl⟩
            rintro e a' w' ⟨rfl, rfl, rfl⟩
            have HS := Lib.hid (ea_step (n₀ := w.heap.size) (B := W0.heap.size) (lo := W0.heap.size + 2) (v := (pre.length : Int) + 1) hk hBW HX.out rfl hnn hbP hbB (by omega))
            rcases (show i = 0 ∨ i = 1 by omega) with rfl | rfl
            · by_cases hfew : few ≤ (pre.length : Int) + 1
              · have hd3 : decide (few ≤ (pre.length : Int) + 1) = true := decide_eq_true hfew
                gi_wp2
                exact ⟨HS.out.1, HS.out.2.1, .inl ⟨rfl, rfl, HS.out.2.2⟩⟩
              · have hd3 : decide (few ≤ (pre.length : Int) + 1) = false := decide_eq_false hfew
                gi_wp2
                first | exact HS.out | (have h := HS.out; rw [hs0] at h; exact h)
            · gi_wp2
              first | exact HS.out | (have h := HS.out; rw [hs0] at h; exact h)
          · have hnp : ¬ pre ++ [x] <+: turnsM xs bub := fun ⟨q, hq⟩ => hxe (by
              rw [List.append_assoc, ← hr] at hq
              have := List.append_cancel_left hq
              rw [e1] at this
              exact (List.cons.inj this).1)
            obtain ⟨y, hy⟩ : ∃ y, (turnsM xs bub)[pre.length] = y := ⟨_, rfl⟩
            rw [hy] at c0 c1 c2 hxe
            obtain ⟨a1', a2', a3'⟩ := x
            obtain ⟨y1, y2, y3⟩ := y
            simp only [Tn.cell, Nat.add_zero] at c0 c1 c2
            dsimp only at x0 x1 x2 ⊢
            have hd2 : tnEq a1' a2' a3' y1 y2 y3 = false := decide_eq_false hxe
            have HX := Lib.hid hnp
            clear hnp hpl hr e1 hy
            gi_wp2
            refine wpIn_mono (Q := fun e a' w' => e = .normal ∧ a' = { tmps := #[z0, z1, z2, z3, z4, .pointer (some ⟨b5, 0, none⟩), .pointer (some ⟨b6, 0, none⟩), .pointer (some ⟨b7, 0, none⟩), .func (.func 45) #[] #[.pointer (some ⟨bP, 0, none⟩), .pointer (some ⟨bB, 0, none⟩)], .pointer (some ⟨b9, 0, none⟩), .pointer (some ⟨w2.heap.size, 0, none⟩), .pointer (some ⟨b, 0, none⟩), z12, z13, z14, z15, z16, z17, z18, z19, z20, z21, z22, z23, z24, .int .i64 (i : Int), .bool true, z27, z28, .func (.func 45) #[] #[.pointer (some ⟨bP, 0, none⟩), .pointer (some ⟨bB, 0, none⟩)], .agg #[.int .i64 a1', .int .i64 a2', .bool a3'], .int .i64 (pre.length : Int), .slice (some ⟨ba, oa, none⟩) (turnsM xs bub).length cw, .int .i64 ((turnsM xs bub).length : Int), .bool false, .bool false, .agg #[.int .i64 a1', .int .i64 a2', .bool a3'], .slice (some ⟨ba, oa, none⟩) (turnsM xs bub).length cw, .int .i64 (pre.length : Int), .pointer (some ⟨ba, oa + pre.length * 3, none⟩), .agg #[.int .i64 y1, .int .i64 y2, .bool y3], .bool true, .bool true, z43, z44, z45, z46, z47, z48, z49, z50, z51, z52, z53, z54, z55, z56, z57, z58, z59, z60, z61], defers := [] } ∧ w' = W.drew) ?_ ?_
            · clear hk hBW hE hEW h9W hE0 hB2 hk0 h9 hds hB0
              gi_region
              all_goals exact ⟨rfl, rfl, rfl⟩
            rintro e a' w' ⟨rfl, rfl, rfl⟩
            have HB := Lib.hid (ea_bad (W := W) (v := .bool false) (n₀ := w.heap.size) (B := W0.heap.size) (lo := W0.heap.size + 2) n6 hE.nP hE.nB (by omega))
            gi_wp2
            exact ⟨HB.out.1, HB.out.2, .inr ⟨rfl, HX.out⟩⟩
        · have hd1 : decide ((turnsM xs bub).length ≤ pre.length) = true := by simpa using Nat.le_of_not_lt hl
          have hnp : ¬ pre ++ [x] <+: turnsM xs bub := fun h => by
            have := h.length_le
            simp at this
            omega
          obtain ⟨a1', a2', a3'⟩ := x
          dsimp only at x0 x1 x2 ⊢
          have HX := Lib.hid hnp
          clear hnp hpl hpre
          gi_wp2
          refine wpIn_mono (Q := fun e a' w' => e = .normal ∧ a' = { tmps := #[z0, z1, z2, z3, z4, .pointer (some ⟨b5, 0, none⟩), .pointer (some ⟨b6, 0, none⟩), .pointer (some ⟨b7, 0, none⟩), .func (.func 45) #[] #[.pointer (some ⟨bP, 0, none⟩), .pointer (some ⟨bB, 0, none⟩)], .pointer (some ⟨b9, 0, none⟩), .pointer (some ⟨w2.heap.size, 0, none⟩), .pointer (some ⟨b, 0, none⟩), z12, z13, z14, z15, z16, z17, z18, z19, z20, z21, z22, z23, z24, .int .i64 (i : Int), .bool true, z27, z28, .func (.func 45) #[] #[.pointer (some ⟨bP, 0, none⟩), .pointer (some ⟨bB, 0, none⟩)], .agg #[.int .i64 a1', .int .i64 a2', .bool a3'], .int .i64 (pre.length : Int), .slice Aw (turnsM xs bub).length cw, .int .i64 ((turnsM xs bub).length : Int), .bool true, .bool true, undef, undef, undef, undef, undef, undef, .bool true, z43, z44, z45, z46, z47, z48, z49, z50, z51, z52, z53, z54, z55, z56, z57, z58, z59, z60, z61], defers := [] } ∧ w' = W.drew) ?_ ?_
          · clear hk hBW hE hEW h9W hE0 hB2 hk0 h9 hds hB0
            gi_region
            all_goals exact ⟨rfl, rfl, rfl⟩
          rintro e a' w' ⟨rfl, rfl, rfl⟩
          have HB := Lib.hid (ea_bad (W := W) (v := .bool false) (n₀ := w.heap.size) (B := W0.heap.size) (lo := W0.heap.size + 2) n6 hE.nP hE.nB (by omega))
          gi_wp2
          exact ⟨HB.out.1, HB.out.2, .inr ⟨rfl, HX.out⟩⟩
      case done =>
        rintro D ys W3 rfl hs3 rfl ⟨hk3, _, hB3⟩ hK
        have hE3 := hE.below hB3
        have h93 := boxed_below h9 hB3 h9.lt
        have q9 := h93.cell
        have q10 := hk3.cell
        have q7 := hE3.c7.cell
        rcases (show i = 0 ∨ i = 1 by omega) with rfl | rfl
        · gi_wp2
          have hnew := Boxed.new W3 3 (.int .i64 1)
          have hB4 := hB3.alloc (by have := hB3.size; omega) (.cells #[.int .i64 1] 3)
          have hg4 : Below W3.heap.size W3 (W3.alloc (.cells #[.int .i64 1] 3)) := (Below.refl _ _).alloc (Nat.le_refl _) _
          refine ⟨W3.heap.size, (w2.heap.size + 1) :: ds, ⟨rfl, rfl, rfl, rfl, rfl, rfl, rfl⟩, hnew, hE3.below hg4, List.nodup_cons.2 ⟨fun h => ?_, hnd⟩, fun D hD => ?_, hB0.trans (hB4.mono hB0.size)⟩
          · have := (Array.getElem?_eq_some_iff.1 (hds _ h).2).1
            omega
          · rcases List.mem_cons.1 hD with rfl | hD
            · exact ⟨by have := hB0.size; omega, (Below.heap_alloc W3 _ _ (by omega)).trans (by rw [← hs0]; exact hK)⟩
            · obtain ⟨f1, f2⟩ := hds D hD
              exact ⟨f1, (hB4.block D (Array.getElem?_eq_some_iff.1 f2).1).trans f2⟩
        · gi_wp2
          have hnew := Boxed.new W3 3 (.int .i64 2)
          have hB4 := hB3.alloc (by have := hB3.size; omega) (.cells #[.int .i64 2] 3)
          have hg4 : Below W3.heap.size W3 (W3.alloc (.cells #[.int .i64 2] 3)) := (Below.refl _ _).alloc (Nat.le_refl _) _
          refine ⟨W3.heap.size, (w2.heap.size + 1) :: ds, ⟨rfl, rfl, rfl, rfl, rfl, rfl, rfl⟩, hnew, hE3.below hg4, List.nodup_cons.2 ⟨fun h => ?_, hnd⟩, fun D hD => ?_, hB0.trans (hB4.mono hB0.size)⟩
          · have := (Array.getElem?_eq_some_iff.1 (hds _ h).2).1
            omega
          · rcases List.mem_cons.1 hD with rfl | hD
            · exact ⟨by have := hB0.size; omega, (Below.heap_alloc W3 _ _ (by omega)).trans (by rw [← hs0]; exact hK)⟩
            · obtain ⟨f1, f2⟩ := hds D hD
              exact ⟨f1, (hB4.block D (Array.getElem?_eq_some_iff.1 f2).1).trans f2⟩
      case stop =>
        rintro D c pre W3 rfl hs3 hsp (⟨rfl, rfl, hk3, _, hB3⟩ | ⟨rfl, hnp⟩) hK
        · have hE3 := hE.below hB3
          have h93 := boxed_below h9 hB3 h9.lt
          have q9 := h93.cell
          have q10 := hk3.cell
          have q7 := hE3.c7.cell
          gi_wp2
          have hnew := Boxed.new W3 3 (.int .i64 1)
          have hB4 := hB3.alloc (by have := hB3.size; omega) (.cells #[.int .i64 1] 3)
          have hg4 : Below W3.heap.size W3 (W3.alloc (.cells #[.int .i64 1] 3)) := (Below.refl _ _).alloc (Nat.le_refl _) _
          refine ⟨W3.heap.size, (w2.heap.size + 1) :: ds, ⟨rfl, rfl, rfl, rfl, rfl, rfl, rfl⟩, hnew, hE3.below hg4, List.nodup_cons.2 ⟨fun h => ?_, hnd⟩, fun D hD => ?_, hB0.trans (hB4.mono hB0.size)⟩
          · have := (Array.getElem?_eq_some_iff.1 (hds _ h).2).1
            omega
          · rcases List.mem_cons.1 hD with rfl | hD
            · exact ⟨by have := hB0.size; omega, (Below.heap_alloc W3 _ _ (by omega)).trans (by rw [← hs0]; exact hK)⟩
            · obtain ⟨f1, f2⟩ := hds D hD
              exact ⟨f1, (hB4.block D (Array.getElem?_eq_some_iff.1 f2).1).trans f2⟩
        · exact absurd hsp hnp
    case last =>
      rintro ⟨⟨tm⟩, dfs⟩ w2 ⟨b9, ds, ⟨hsz, hdf, t5, t6, t7, t8, t9⟩, h9, hE, hnd, hds, hB0⟩
      dsimp only at hdf hsz t5 t6 t7 t8 t9
      subst hdf
      rw [List.size_toArray] at hsz
      obtain ⟨z0, tm0, rfl, hs0⟩ := list_cut hsz; obtain ⟨z1, tm1, rfl, hs1⟩ := list_cut hs0; obtain ⟨z2, tm2, rfl, hs2⟩ := list_cut hs1; obtain ⟨z3, tm3, rfl, hs3⟩ := list_cut hs2; obtain ⟨z4, tm4, rfl, hs4⟩ := list_cut hs3; obtain ⟨z5, tm5, rfl, hs5⟩ := list_cut hs4; obtain ⟨z6, tm6, rfl, hs6⟩ := list_cut hs5; obtain ⟨z7, tm7, rfl, hs7⟩ := list_cut hs6; obtain ⟨z8, tm8, rfl, hs8⟩ := list_cut hs7; obtain ⟨z9, tm9, rfl, hs9⟩ := list_cut hs8; obtain ⟨z10, tm10, rfl, hs10⟩ := list_cut hs9; obtain ⟨z11, tm11, rfl, hs11⟩ := list_cut hs10; obtain ⟨z12, tm12, rfl, hs12⟩ := list_cut hs11; obtain ⟨z13, tm13, rfl, hs13⟩ := list_cut hs12; obtain ⟨z14, tm14, rfl, hs14⟩ := list_cut hs13; obtain ⟨z15, tm15, rfl, hs15⟩ := list_cut hs14; obtain ⟨z16, tm16, rfl, hs16⟩ := list_cut hs15; obtain ⟨z17, tm17, rfl, hs17⟩ := list_cut hs16; obtain ⟨z18, tm18, rfl, hs18⟩ := list_cut hs17; obtain ⟨z19, tm19, rfl, hs19⟩ := list_cut hs18; obtain ⟨z20, tm20, rfl, hs20⟩ := list_cut hs19; obtain ⟨z21, tm21, rfl, hs21⟩ := list_cut hs20; obtain ⟨z22, tm22, rfl, hs22⟩ := list_cut hs21; obtain ⟨z23, tm23, rfl, hs23⟩ := list_cut hs22; obtain ⟨z24, tm24, rfl, hs24⟩ := list_cut hs23; obtain ⟨z25, tm25, rfl, hs25⟩ := list_cut hs24; obtain ⟨z26, tm26, rfl, hs26⟩ := list_cut hs25; obtain ⟨z27, tm27, rfl, hs27⟩ := list_cut hs26; obtain ⟨z28, tm28, rfl, hs28⟩ := list_cut hs27; obtain ⟨z29, tm29, rfl, hs29⟩ := list_cut hs28; obtain ⟨z30, tm30, rfl, hs30⟩ := list_cut hs29; obtain ⟨z31, tm31, rfl, hs31⟩ := list_cut hs30; obtain ⟨z32, tm32, rfl, hs32⟩ := list_cut hs31; obtain ⟨z33, tm33, rfl, hs33⟩ := list_cut hs32; obtain ⟨z34, tm34, rfl, hs34⟩ := list_cut hs33; obtain ⟨z35, tm35, rfl, hs35⟩ := list_cut hs34; obtain ⟨z36, tm36, rfl, hs36⟩ := list_cut hs35; obtain ⟨z37, tm37, rfl, hs37⟩ := list_cut hs36; obtain ⟨z38, tm38, rfl, hs38⟩ := list_cut hs37; obtain ⟨z39, tm39, rfl, hs39⟩ := list_cut hs38; obtain ⟨z40, tm40, rfl, hs40⟩ := list_cut hs39; obtain ⟨z41, tm41, rfl, hs41⟩ := list_cut hs40; obtain ⟨z42, tm42, rfl, hs42⟩ := list_cut hs41; obtain ⟨z43, tm43, rfl, hs43⟩ := list_cut hs42; obtain ⟨z44, tm44, rfl, hs44⟩ := list_cut hs43; obtain ⟨z45, tm45, rfl, hs45⟩ := list_cut hs44; obtain ⟨z46, tm46, rfl, hs46⟩ := list_cut hs45; obtain ⟨z47, tm47, rfl, hs47⟩ := list_cut hs46; obtain ⟨z48, tm48, rfl, hs48⟩ := list_cut hs47; obtain ⟨z49, tm49, rfl, hs49⟩ := list_cut hs48; obtain ⟨z50, tm50, rfl, hs50⟩ := list_cut hs49; obtain ⟨z51, tm51, rfl, hs51⟩ := list_cut hs50; obtain ⟨z52, tm52, rfl, hs52⟩ := list_cut hs51; obtain ⟨z53, tm53, rfl, hs53⟩ := list_cut hs52; obtain ⟨z54, tm54, rfl, hs54⟩ := list_cut hs53; obtain ⟨z55, tm55, rfl, hs55⟩ := list_cut hs54; obtain ⟨z56, tm56, rfl, hs56⟩ := list_cut hs55; obtain ⟨z57, tm57, rfl, hs57⟩ := list_cut hs56; obtain ⟨z58, tm58, rfl, hs58⟩ := list_cut hs57; obtain ⟨z59, tm59, rfl, hs59⟩ := list_cut hs58; obtain ⟨z60, tm60, rfl, hs60⟩ := list_cut hs59; obtain ⟨z61, tm61, rfl, hs61⟩ := list_cut hs60
      obtain rfl := List.eq_nil_of_length_eq_zero hs61
      clear hsz hs0 hs1 hs2 hs3 hs4 hs5 hs6 hs7 hs8 hs9 hs10 hs11 hs12 hs13 hs14 hs15 hs16 hs17 hs18 hs19 hs20 hs21 hs22 hs23 hs24 hs25 hs26 hs27 hs28 hs29 hs30 hs31 hs32 hs33 hs34 hs35 hs36 hs37 hs38 hs39 hs40 hs41 hs42 hs43 hs44 hs45 hs46 hs47 hs48 hs49 hs50 hs51 hs52 hs53 hs54 hs55 hs56 hs57 hs58 hs59 hs60 hs61
      simp only [List.getElem?_toArray, List.getElem?_cons_zero, List.getElem?_cons_succ, Option.some.injEq] at t5 t6 t7 t8 t9
      subst t5 t6 t7 t8 t9
      have q9 := h9.cell
      have l6 := hEL.out.c6.lt
      refine go_marks 10 Try.func6 ?_
      dsimp only
      gi_wp2
      refine ⟨_, rfl, go_marks 10 Try.func6 ?_⟩
      have q6 := hE.c6.cell
      have z6' := hE.c6.frozen
      dsimp only
      gi_wp2
      refine marks_leave w1.heap.size ds _ hnd (fun D hD => ?_) fun w' hb hs => ?_
      · obtain ⟨f1, f2⟩ := hds D hD
        exact ⟨f1, (Below.heap_setCell w2 ⟨b6, 0, none⟩ _ D (by show D ≠ b6; omega)).trans f2⟩
      · have hc : w'.cell? ⟨b6, 0, none⟩ = some (.bool true) := (hb.cell (p := ⟨b6, 0, none⟩) l6).trans (hE.c6.set (.bool true)).cell
        have hn := hEL.out.n₀l
        refine ⟨.bool true, ?_, hR w' _ rfl (((hB0.mono hn).setCell (p := ⟨b6, 0, none⟩) n6 _).trans (hb.mono hn))⟩
        simp [results, Try.f6, go_sem, hc]
theorem wf8 {a : Int} (h : (Lit.int .u8 a).wf = true) : 0 ≤ a ∧ a ≤ 255 := by
  simp [Lit.wf, IntKind.min, IntKind.max, IntKind.signed, IntKind.bits] at h; omega
theorem walkEach_walk (A : Option Addr) (c0 : Nat) (xs : List St) (bub : Bool) (few : Int) (W : World) (hv : AVRs ι0 (fun k => k < W.heap.size) W [.sem (listS stE xs)] [.slice A xs.length c0]) (hm : xs.length ≤ 9223372036854775807) (hw : (Lit.int .u8 few).wf = true) : Calls Try.prog 6 #[.slice A xs.length c0, .bool bub, .int .u8 few] W fun e w' => e = .returned (.bool true) ∧ Below W.heap.size W w' :=
  Fun.calls (walkEach_f bub few (wf8 hw).1 (wf8 hw).2 hm) (hv.append (AVRs_v [.bool bub, .int .u8 few]))
end Go.Proofs.Ytpmeffdcbjakoaa
