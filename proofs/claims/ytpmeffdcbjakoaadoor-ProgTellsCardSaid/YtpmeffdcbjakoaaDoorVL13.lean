/- VL, part 13: rows that are written in place, made, copied into; a value by its name; proved walks taken over. -/
import Derived.Test.YtpmeffdcbjakoaaDoorVL12
import Derived.OwnWalk
import Derived.Laws.CopyRow
import Derived.Laws.IdiomCopy
namespace Go.Proofs.YtpmeffdcbjakoaaDoor
set_option linter.unusedVariables false
set_option linter.unusedSimpArgs false
open Go.RowKit

/-- A proved walk, as a contract. -/
theorem fun_of_calls {P : Program} {f : FuncId} {l : List Value} {u : Value} (h : ∀ w, Calls P f l.toArray w fun e w' => e = .returned u ∧ Below w.heap.size w w') : Fun P f (l.map .v) [] (.v u) [] := fun ι F S w vals hh hv => by
  have hval : ∀ {l vals : List Value}, AVRs ι S w (l.map .v) vals → vals = l := by
    intro l
    induction l with
    | nil => intro vals h; simpa [AVRs] using h
    | cons x l ih =>
      intro vals h
      simp only [List.map_cons, AVRs, AVR] at h
      obtain ⟨u, r, rfl, rfl, h2⟩ := h
      rw [ih h2]
  rw [hval hv]
  refine (h w).mono fun e w' ⟨he, hb⟩ => ?_
  exact ⟨ι, F, S, u, he, ⟨fun _ _ _ h => (by cases h), fun _ _ h => (by cases h), fun _ _ _ _ h => (by cases h), fun _ _ h => (by cases h), fun k hk => Nat.lt_of_lt_of_le (hh.bnd k hk) hb.size⟩, by simp [AVR], ⟨fun _ h => h, fun k _ hk => hb.block k hk⟩, fun _ _ _ _ => rfl, But.of_below hb, fun k hk => .inl hk, fun _ _ h => (by cases h)⟩

section
variable {C : Cx} {k : List Item} {t t0 : List (Nat × AV)} {r r0 : List (Nat × RK)} {ops : Array Oper} {rest : List Oper} {qs : List PIt}
variable {d : Nat} {ty ty' : TypeId} {pos : String} {af : Array Edge} {x y z : Operand} {V : AV} {g : Nat} {o : Oper}
/-- Two ways, by the guard's bool. -/
theorem v_gsplit {op : Op} {dd : Option Nat} {j : Nat} {want : Bool} {oj : Oper} {b : Bool} (hj : ops[j]? = some oj) (hd : oj.dst = some d) (hb : look t d = some (.v (.bool b))) (h1 : b = true → RunL C ops (⟨dd, op, ty, pos, af, some (j, want)⟩ :: rest) ⟨(d, .v (.bool true)) :: t, r⟩ k) (h0 : b = false → RunL C ops (⟨dd, op, ty, pos, af, some (j, want)⟩ :: rest) ⟨(d, .v (.bool false)) :: t, r⟩ k) : RunL C ops (⟨dd, op, ty, pos, af, some (j, want)⟩ :: rest) ⟨t, r⟩ k := runL_split d hb h1 h0
theorem v_psplit {dd : Option Nat} {n : Nat} {b : Bool} (hb : look t n = some (.v (.bool b))) (h1 : b = true → RunL C ops (⟨dd, .pick (.tmp n) y z, ty, pos, af, none⟩ :: rest) ⟨(n, .v (.bool true)) :: t, r⟩ k) (h0 : b = false → RunL C ops (⟨dd, .pick (.tmp n) y z, ty, pos, af, none⟩ :: rest) ⟨(n, .v (.bool false)) :: t, r⟩ k) : RunL C ops (⟨dd, .pick (.tmp n) y z, ty, pos, af, none⟩ :: rest) ⟨t, r⟩ k := runL_split n hb h1 h0
theorem planL_split {l : List Oper} (n : Nat) {b : Bool} (hb : look t n = some (.v (.bool b))) (h1 : b = true → PlanL C ops t0 r0 qs l ⟨(n, .v (.bool true)) :: t, r⟩ k) (h0 : b = false → PlanL C ops t0 r0 qs l ⟨(n, .v (.bool false)) :: t, r⟩ k) : PlanL C ops t0 r0 qs l ⟨t, r⟩ k := by
  cases b
  · exact planL_know n hb Le.refl (h0 rfl)
  · exact planL_know n hb Le.refl (h1 rfl)
theorem p_gsplit {op : Op} {dd : Option Nat} {j : Nat} {want : Bool} {oj : Oper} {b : Bool} (hj : ops[j]? = some oj) (hd : oj.dst = some d) (hb : look t d = some (.v (.bool b))) (h1 : b = true → PlanL C ops t0 r0 qs (⟨dd, op, ty, pos, af, some (j, want)⟩ :: rest) ⟨(d, .v (.bool true)) :: t, r⟩ k) (h0 : b = false → PlanL C ops t0 r0 qs (⟨dd, op, ty, pos, af, some (j, want)⟩ :: rest) ⟨(d, .v (.bool false)) :: t, r⟩ k) : PlanL C ops t0 r0 qs (⟨dd, op, ty, pos, af, some (j, want)⟩ :: rest) ⟨t, r⟩ k := planL_split d hb h1 h0
theorem p_psplit {dd : Option Nat} {n : Nat} {b : Bool} {gd : Option (Nat × Bool)} (hb : look t n = some (.v (.bool b))) (h1 : b = true → PlanL C ops t0 r0 qs (⟨dd, .pick (.tmp n) y z, ty, pos, af, gd⟩ :: rest) ⟨(n, .v (.bool true)) :: t, r⟩ k) (h0 : b = false → PlanL C ops t0 r0 qs (⟨dd, .pick (.tmp n) y z, ty, pos, af, gd⟩ :: rest) ⟨(n, .v (.bool false)) :: t, r⟩ k) : PlanL C ops t0 r0 qs (⟨dd, .pick (.tmp n) y z, ty, pos, af, gd⟩ :: rest) ⟨t, r⟩ k := planL_split n hb h1 h0

/-! ### Calls: the arguments first, then the contract -/
theorem v_cx {f : FuncId} {l : List AV} {xs : List Operand} {ts : Array TypeId} (hr : evalAs t xs = some l) (hc : callB C.P f = true) (hF : Fun C.P f l [] V []) (hV : V.noRef = true) (hn : Nat.blt d C.N = true) (hk : RunL C ops rest ⟨(d, V) :: t, r⟩ k) : RunL C ops (⟨some d, .call { callee := .value (.func f), args := xs.toArray, argTypes := ts }, ty, pos, af, none⟩ :: rest) ⟨t, r⟩ k := v_c hF hr hc hV hn hk
theorem p_cx {f : FuncId} {l : List AV} {xs : List Operand} {ts : Array TypeId} {gd : Option (Nat × Bool)} (hr : evalAs t xs = some l) (hc : callB C.P f = true) (hF : Fun C.P f l [] V []) (hV : V.noRef = true) (hn : Nat.blt d C.N = true) (hg : wantedA t ops ⟨some d, .call { callee := .value (.func f), args := xs.toArray, argTypes := ts }, ty, pos, af, gd⟩ = some true) (hk : PlanL C ops t0 r0 (⟨some d, V, [], [], []⟩ :: qs) rest ⟨(d, V) :: t, r⟩ k) : PlanL C ops t0 r0 qs (⟨some d, .call { callee := .value (.func f), args := xs.toArray, argTypes := ts }, ty, pos, af, gd⟩ :: rest) ⟨t, r⟩ k := p_c hF hr hc hV hn hg hk
theorem v_cOx {f : FuncId} {l : List AV} {xs : List Operand} {ts : Array TypeId} {R : Res} (hr : evalAs t xs = some l) (hc : callB C.P f = true) (hF : Fun C.P f l [] (.res 0) [(0, .obj R)]) (hl : AV.noRefs l = true) (hf : freshR d r = true) (hft : freshT d t = true) (h0 : notIn d (idsOf C.r0) = true) (hn : Nat.blt d C.N = true) (hk : RunL C ops rest ⟨(d, .res d) :: t, (d, .obj R) :: r⟩ k) : RunL C ops (⟨some d, .call { callee := .value (.func f), args := xs.toArray, argTypes := ts }, ty, pos, af, none⟩ :: rest) ⟨t, r⟩ k := v_cO hF hr hc hl hf hft h0 hn hk
theorem p_cOx {f : FuncId} {l : List AV} {xs : List Operand} {ts : Array TypeId} {R : Res} {gd : Option (Nat × Bool)} (hr : evalAs t xs = some l) (hc : callB C.P f = true) (hF : Fun C.P f l [] (.res 0) [(0, .obj R)]) (hl : AV.noRefs l = true) (h0 : notIn d (idsOf C.r0) = true) (hn : Nat.blt d C.N = true) (hg : wantedA t ops ⟨some d, .call { callee := .value (.func f), args := xs.toArray, argTypes := ts }, ty, pos, af, gd⟩ = some true) (hk : PlanL C ops t0 r0 (⟨some d, .res d, [(d, .obj R)], [], [d]⟩ :: qs) rest ⟨(d, .res d) :: t, (d, .obj R) :: r⟩ k) : PlanL C ops t0 r0 qs (⟨some d, .call { callee := .value (.func f), args := xs.toArray, argTypes := ts }, ty, pos, af, gd⟩ :: rest) ⟨t, r⟩ k := p_cO hF hr hc hl h0 hn hg hk

/-! ### Calls that leave the resources as they are -/
mutual
theorem AV.ren_id : ∀ x : AV, x.ren idN = x
  | .v x => rfl
  | .sem p => rfl
  | .res g => rfl
  | .ptr g o => rfl
  | .fn f l => by simp only [AV.ren]; rw [AV.renL_id l]
  | .agg l => by simp only [AV.ren]; rw [AV.renL_id l]
  | .tup l => by simp only [AV.ren]; rw [AV.renL_id l]
theorem AV.renL_id : ∀ l : List AV, AV.renL idN l = l
  | [] => rfl
  | x :: l => by simp only [AV.renL]; rw [AV.ren_id x, AV.renL_id l]
end
theorem RK.ren_id (x : RK) : x.ren idN = x := by
  cases x <;> simp only [RK.ren]
  rw [AV.renL_id]
/-- These resources are there. -/
def WkS (r : List (Nat × RK)) : List (Nat × RK) → Prop
  | [] => True
  | p :: l => look r p.1 = some p.2 ∧ WkS r l
theorem WkS.wk {r : List (Nat × RK)} : ∀ {l : List (Nat × RK)}, WkS r l → WkR r idN l
  | [], _ => trivial
  | p :: l, h => ⟨by rw [RK.ren_id]; exact h.1, WkS.wk h.2⟩
theorem WkS.foot {r r' : List (Nat × RK)} : ∀ {l : List (Nat × RK)}, WkS r l → (∀ g ∈ idsOf l, look r' g = look r g) → WkS r' l
  | [], _, _ => trivial
  | p :: l, h, hf => ⟨(hf _ List.mem_cons_self).trans h.1, WkS.foot h.2 fun g hg => hf g (List.mem_cons_of_mem _ hg)⟩
theorem idsM_id {α : Type} : ∀ l : List (Nat × α), idsM idN l = idsOf l
  | [] => rfl
  | p :: l => by simp [idsM, idsOf, idsM_id l]
theorem look_same {r : List (Nat × RK)} : ∀ {l : List (Nat × RK)}, WkS r l → ∀ g, look (renR idN l (deadR idN l r)) g = look r g := by
  have h1 : ∀ (l r' : List (Nat × RK)) (g : Nat), g ∉ idsOf l → look (renR idN l r') g = look r' g := by
    intro l
    induction l with
    | nil => intro r' g _; rfl
    | cons p l ih =>
      intro r' g hg
      simp only [idsOf, List.mem_cons, not_or] at hg
      simp only [renR]
      rw [look_cons, if_neg (fun e => hg.1 e.symm)]
      exact ih r' g hg.2
  have h2 : ∀ (l r' : List (Nat × RK)) (g : Nat), g ∉ idsOf l → look (deadR idN l r') g = look r' g := by
    intro l
    induction l with
    | nil => intro r' g _; rfl
    | cons p l ih =>
      intro r' g hg
      simp only [idsOf, List.mem_cons, not_or] at hg
      simp only [deadR]
      rw [look_cons, if_neg (fun e => hg.1 e.symm)]
      exact ih r' g hg.2
  have h3 : ∀ (l : List (Nat × RK)) (r' : List (Nat × RK)), WkS r l → ∀ g, g ∈ idsOf l → look (renR idN l r') g = look r g := by
    intro l
    induction l with
    | nil => intro r' _ g hg; cases hg
    | cons p l ih =>
      intro r' hw g hg
      simp only [renR]
      rw [look_cons]
      by_cases e : p.1 = g
      · rw [if_pos e, RK.ren_id, ← hw.1, e]
      · rw [if_neg e]
        simp only [idsOf, List.mem_cons] at hg
        exact ih r' hw.2 g (hg.resolve_left fun e' => e e'.symm)
  intro l hw g
  by_cases hg : g ∈ idsOf l
  · exact h3 l _ hw g hg
  · rw [h1 l _ g hg, h2 l _ g hg]
theorem newIds_same (m : Nat → Nat) (r0 : List (Nat × RK)) : ∀ l : List (Nat × RK), (∀ g ∈ idsOf l, g ∈ idsOf r0) → newIds m r0 l = []
  | [], _ => rfl
  | p :: l, h => by
    have : notIn p.1 (idsOf r0) = false := by
      cases hb : notIn p.1 (idsOf r0)
      · rfl
      · exact absurd (h p.1 List.mem_cons_self) (notIn_iff.1 hb)
    simp only [newIds, this, cond_false]
    exact newIds_same m r0 l fun g hg => h g (List.mem_cons_of_mem _ hg)
theorem op_callS {f : FuncId} {r2 : List (Nat × RK)} {l : List AV} {xs : List Operand} {ts : Array TypeId} (hF : Fun C.P f l r2 V r2) (ho : o.op = .call { callee := .value (.func f), args := xs.toArray, argTypes := ts }) (hc : callB C.P f = true) (hlen : xs.length = l.length) (hw : WkS r r2) (hn0 : nodupB (idsOf r2) = true) (hl0 : liveAll r2 = true) (hcl : closedR (idsOf r2 ++ idsOf r2) r2 = true) (hrv : V.inL (idsOf r2 ++ idsOf r2) = true) : OpEff C r o ((.func f, .v (.func (.func f) #[] #[])) :: xs.zip l) V r [] := fun ι F S w ρ hs hr => by
  have hnew := newIds_same idN r2 r2 fun g hg => hg
  have h := op_callR (C := C) (r := r) (o := o) idN hF ho hc hlen hw.wk (by rw [idsM_id]; exact hn0) hl0 (by rw [idsM_id]; exact hn0) (by rw [hnew]; rfl) (by rw [hnew]; rfl) hcl hrv
  rw [AV.renL_id, AV.ren_id, hnew] at h
  refine (h ι F S w ρ hs hr).mono fun u w' ⟨ι', F', S', h1, h2⟩ => ⟨ι', F', S', h1.congr fun g => (look_same hw g).symm, h2⟩
theorem v_cSx {f : FuncId} {r2 : List (Nat × RK)} {l : List AV} {xs : List Operand} {ts : Array TypeId} (hr : evalAs t xs = some l) (hc : callB C.P f = true) (hF : Fun C.P f l r2 V r2) (hw : WkS r r2) (hn0 : nodupB (idsOf r2) = true) (hl0 : liveAll r2 = true) (hcl : closedR (idsOf r2 ++ idsOf r2) r2 = true) (hrv : V.inL (idsOf r2 ++ idsOf r2) = true) (hn : Nat.blt d C.N = true) (hk : RunL C ops rest ⟨(d, V) :: t, r⟩ k) : RunL C ops (⟨some d, .call { callee := .value (.func f), args := xs.toArray, argTypes := ts }, ty, pos, af, none⟩ :: rest) ⟨t, r⟩ k :=
  runL_eff _ [] rfl rfl hn (rdC (evalAs_spec hr).1) rfl (op_callS hF rfl hc (evalAs_spec hr).2 hw hn0 hl0 hcl hrv) hk
theorem p_cSx {f : FuncId} {r2 : List (Nat × RK)} {l : List AV} {xs : List Operand} {ts : Array TypeId} {gd : Option (Nat × Bool)} (hr : evalAs t xs = some l) (hc : callB C.P f = true) (hF : Fun C.P f l r2 V r2) (hw : WkS r r2) (hn0 : nodupB (idsOf r2) = true) (hl0 : liveAll r2 = true) (hcl : closedR (idsOf r2 ++ idsOf r2) r2 = true) (hrv : V.inL (idsOf r2 ++ idsOf r2) = true) (hn : Nat.blt d C.N = true) (hgd : wantedA t ops ⟨some d, .call { callee := .value (.func f), args := xs.toArray, argTypes := ts }, ty, pos, af, gd⟩ = some true) (hk : PlanL C ops t0 r0 (⟨some d, V, [], idsOf r2, []⟩ :: qs) rest ⟨(d, V) :: t, r⟩ k) : PlanL C ops t0 r0 qs (⟨some d, .call { callee := .value (.func f), args := xs.toArray, argTypes := ts }, ty, pos, af, gd⟩ :: rest) ⟨t, r⟩ k :=
  planL_eff _ [] _ [] f_ok hgd rfl hn (rdC (evalAs_spec hr).1) (fun r' hF' _ => op_callS hF rfl hc (evalAs_spec hr).2 (hw.foot hF') hn0 hl0 hcl hrv) hk
/-- A call that turns the resources and takes new names, the arguments first. -/
theorem v_cRx {f : FuncId} {r2 r1 : List (Nat × RK)} {l : List AV} {xs : List Operand} {ts : Array TypeId} (m : Nat → Nat) (hF : Fun C.P f l r2 V r1) (hr : evalAs t xs = some (AV.renL m l)) (hc : callB C.P f = true) (hw : WkR r m r2) (hn0 : nodupB (idsM m r2) = true) (hl0 : liveAll r2 = true) (hn1 : nodupB (idsM m r1) = true) (hfr : freshAll r C.r0 (newIds m r2 r1) = true) (hft : freshTs t (newIds m r2 r1) = true) (hnew : allNotIn (idsM m r2) (newIds m r2 r1) = true) (hcl : closedR (idsOf r1 ++ idsOf r2) r1 = true) (hrv : V.inL (idsOf r1 ++ idsOf r2) = true) (hk : RunL C ops rest ⟨t, renR m r1 (deadR m r2 r)⟩ k) : RunL C ops (⟨none, .call { callee := .value (.func f), args := xs.toArray, argTypes := ts }, ty, pos, af, none⟩ :: rest) ⟨t, r⟩ k :=
  v_callR0 m hF hc (evalAs_spec hr).1 ((evalAs_spec hr).2.trans (renL_length m l)) hw hn0 hl0 hn1 hfr hft hnew hcl hrv hk

/-! ### A box written as a whole -/
theorem splice_whole {α : Type} (l cs : List α) (h : l.length = cs.length) : spliceL l 0 cs = cs := by
  rw [spliceL_eq _ _ _ (by omega), List.take_zero, List.nil_append, Nat.zero_add, ← h, List.drop_length, List.append_nil]
theorem v_storeW {T' : TypeId} {l : List AV} {i : TyI} (hi : tyI C.P ty' = some i) (hx : evalA t x = some (.ptr g 0)) (hy : evalA t y = some V) (hg : look r g = some (.box T' l)) (hV : okC V = true) (hc : AV.cellL (cellsA V) = true) (hl : (cellsA V).length = i.size) (hw : l.length = i.size) (hk : RunL C ops rest ⟨t, (g, .box T' (cellsA V)) :: r⟩ k) : RunL C ops (⟨none, .store ty' x y, ty, pos, af, none⟩ :: rest) ⟨t, r⟩ k := by
  refine v_storeB hi hx hy hg hV hc hl (Nat.ble_eq_true_of_le (by omega)) ?_
  rw [splice_whole _ _ (by omega)]
  exact hk
theorem p_storeW {T' : TypeId} {l : List AV} {i : TyI} {gd : Option (Nat × Bool)} (hi : tyI C.P ty' = some i) (hx : evalA t x = some (.ptr g 0)) (hy : evalA t y = some V) (hg : look r g = some (.box T' l)) (hV : okC V = true) (hc : AV.cellL (cellsA V) = true) (hl : (cellsA V).length = i.size) (hw : l.length = i.size) (hgd : wantedA t ops ⟨none, .store ty' x y, ty, pos, af, gd⟩ = some true) (hk : PlanL C ops t0 r0 (⟨none, .v undef, [(g, .box T' (cellsA V))], [g], []⟩ :: qs) rest ⟨t, (g, .box T' (cellsA V)) :: r⟩ k) : PlanL C ops t0 r0 qs (⟨none, .store ty' x y, ty, pos, af, gd⟩ :: rest) ⟨t, r⟩ k := by
  refine p_storeB hi hx hy hg hV hc hl (Nat.ble_eq_true_of_le (by omega)) hgd ?_
  rw [splice_whole _ _ (by omega)]
  exact hk

/-! ### A row written in place -/
theorem spliceL_mid {α : Type} : ∀ (cs a b c : List α) (f : Nat), f + cs.length ≤ b.length → spliceL (a ++ b ++ c) (a.length + f) cs = a ++ spliceL b f cs ++ c
  | [], a, b, c, f, _ => rfl
  | x :: cs, a, b, c, f, h => by
    simp only [List.length_cons] at h
    rw [spliceL, spliceL, ← spliceL_mid cs a (b.set f x) c (f + 1) (by simp; omega)]
    congr 1
    rw [List.append_assoc, List.set_append_right _ _ (by omega), List.set_append_left _ _ (by omega), List.append_assoc]
    congr 3
    omega
theorem Enc.all_split {α : Type} (E : Enc α) {xs : List α} {j : Nat} {v : α} (hj : xs[j]? = some v) : E.all xs = (E.all xs).take (j * E.sz) ++ E.f v ++ (E.all xs).drop ((j + 1) * E.sz) := by
  have hlt := (List.getElem?_eq_some_iff.1 hj).1
  have h := E.all_set (x := v) hlt
  have : xs.set j v = xs := by
    apply List.ext_getElem?
    intro i
    rw [List.getElem?_set]
    by_cases e : j = i
    · subst e; rw [if_pos rfl, if_pos hlt, hj]
    · rw [if_neg e]
  rwa [this] at h
theorem Enc.all_splice {α : Type} (E : Enc α) {xs : List α} {j f : Nat} {v v' : α} {cs : List AV} (hj : xs[j]? = some v) (hle : f + cs.length ≤ E.sz) (hv : E.f v' = spliceL (E.f v) f cs) : E.all (xs.set j v') = spliceL (E.all xs) (j * E.sz + f) cs := by
  have hlt := (List.getElem?_eq_some_iff.1 hj).1
  have hlen := E.all_len xs
  have hle2 : j * E.sz ≤ xs.length * E.sz := Nat.mul_le_mul_right _ (by omega)
  rw [E.all_set hlt, hv]
  have h := E.all_split hj
  generalize ha : (E.all xs).take (j * E.sz) = a at *
  have hal : a.length = j * E.sz := by rw [← ha, List.length_take]; omega
  generalize (E.all xs).drop ((j + 1) * E.sz) = c at *
  rw [h, ← hal, spliceL_mid _ _ _ _ _ (by rw [E.len]; exact hle)]
theorem spliceL_take {α : Type} : ∀ (cs l : List α) (o n : Nat), o + cs.length ≤ n → (spliceL l o cs).take n = spliceL (l.take n) o cs
  | [], l, o, n, _ => rfl
  | c :: cs, l, o, n, h => by
    simp only [List.length_cons] at h
    rw [spliceL, spliceL, spliceL_take cs _ _ _ (by omega), List.take_set]
theorem op_store_own {α : Type} {e : TypeId} {E : Enc α} {xs : List α} {off j f : Nat} {v v' : α} {i : TyI} (ho : o.op = .store ty x y) (hg : look r g = some (.obj (ownS e E xs))) (hoff : off = j * E.sz + f) (hj : xs[j]? = some v) (hi : tyI C.P ty = some i) (hk : okC V = true) (hl : (cellsA V).length = i.size) (hle : f + i.size ≤ E.sz) (hlf : AV.leaves (cellsA V) = true) (hv : E.f v' = spliceL (E.f v) f (cellsA V)) : OpEff C r o [(x, .ptr g off), (y, V)] (.v undef) ((g, .obj (ownS e E (xs.set j v'))) :: r) [] := fun ι F S w ρ hs hr => by
  have hx := hr (x, .ptr g off) (by simp)
  have hy := hr (y, V) (by simp)
  simp only [AVR] at hx
  obtain ⟨b0, hb, hx⟩ := hx
  obtain ⟨⟨us, h1, h2⟩, h3⟩ := hs.hs.ob g _ hg
  have hlt := (List.getElem?_eq_some_iff.1 hj).1
  rcases h1.2 with ⟨_, h0⟩ | ⟨b, cap, cur, hvv, hbase, hh, hn, hcap, hsz, htk⟩
  · omega
  · rw [hvv] at hb
    obtain rfl : b = b0 := by simpa [baseOf] using hb
    have hvc := cellsA_R hy hk
    have hvl : (ρ y).cells.toList.length = i.size := by rw [hvc.length]; exact hl
    have hcl : cur.toList.length = cur.size := Array.length_toList
    have hone := hvc.leaf_one hlf
    have hm1 : (j + 1) * E.sz ≤ xs.length * E.sz := Nat.mul_le_mul_right _ (by omega)
    have hm2 : xs.length * E.sz ≤ cap * E.sz := Nat.mul_le_mul_right _ hn
    rw [Nat.add_mul, Nat.one_mul] at hm1
    have hst := run_storeCells_at C.P b off e (ρ y).cells.toList 0 cur w hh (by omega) hone
    rw [Nat.add_zero] at hst
    have hsz2 : (ρ y).cells.size = i.size := by rw [← Array.length_toList]; exact hvl
    have hrun : (Instr.storeAt ty (ρ x) (ρ y)).run C.P w = .ok () (w.setRow b (cur.toList.take off ++ (ρ y).cells.toList ++ cur.toList.drop (off + (ρ y).cells.toList.length)).toArray) := by
      rw [hx]
      simp only [Instr.storeAt, Instr.sureAddr, storeVar, Sem.run_bind, Sem.run_pure, Result.andThen_ok, run_sizeOf hi, hsz2, ne_eq, not_true, if_false]
      exact hst
    rw [← spliceL_eq _ _ _ (by omega)] at hrun
    have hFg : ∀ k, F g k ↔ k = b := fun k => by rw [h3, hvv]; simp [Value.ownBlock, eq_comm]
    have hbut : But (F g) w (w.setRow b (spliceL cur.toList off (ρ y).cells.toList).toArray) := ⟨rfl, rfl, rfl, by simp, fun k _ hn => setRow_other w b k _ fun e => hn ((hFg k).2 e)⟩
    have hFut : Fut S w S (w.setRow b (spliceL cur.toList off (ρ y).cells.toList).toArray) := ⟨fun _ h => h, fun k hk hl => hbut.block k hl fun hf => hs.hs.out g _ hg rfl k hf hk⟩
    obtain ⟨hw, _⟩ := hs.turn (x' := .obj (ownS e E (xs.set j v'))) hg rfl hbut (fun T l' e => by cases e) (fun R e0 => by
      cases e0
      refine ⟨⟨spliceL us off (ρ y).cells.toList, ⟨by rw [spliceL_length, h1.1, List.length_set], .inr ⟨b, cap, _, by rw [hvv, List.length_set], hbase, setRow_heap w b cur _ e (0, 0) hh, by rw [List.length_set]; exact hn, hcap, by rw [List.size_toArray, spliceL_length, Array.length_toList]; exact hsz, ?_⟩⟩, ?_⟩, h3⟩
      · rw [List.toList_toArray, List.length_set, spliceL_take _ _ _ _ (by omega), htk]
      · rw [E.all_splice hj (by rw [hl]; exact hle) hv, ← hoff]
        exact (h2.fut hFut fun _ _ => rfl).splice ((hvc.leaf_any hlf).fut hFut fun _ _ => rfl))
    refine Does.skip (w' := w.setRow b (spliceL cur.toList off (ρ y).cells.toList).toArray) ?_ ⟨ι, F, S, hw, hFut, fun _ _ => rfl, by simp [AVR]⟩
    simp [execOp, ho, hrun]
theorem v_storeO {α : Type} {e : TypeId} {E : Enc α} {xs : List α} {off j f : Nat} {v : α} {i : TyI} (v' : α) (hi : tyI C.P ty' = some i) (hx : evalA t x = some (.ptr g off)) (hy : evalA t y = some V) (hg : look r g = some (.obj (ownS e E xs))) (hoff : off = j * E.sz + f) (hj : xs[j]? = some v) (hk : okC V = true) (hl : (cellsA V).length = i.size) (hle : f + i.size ≤ E.sz) (hlf : AV.leaves (cellsA V) = true) (hv : E.f v' = spliceL (E.f v) f (cellsA V)) (hn : RunL C ops rest ⟨t, (g, .obj (ownS e E (xs.set j v'))) :: r⟩ k) : RunL C ops (⟨none, .store ty' x y, ty, pos, af, none⟩ :: rest) ⟨t, r⟩ k :=
  runL_eff0 _ [] rfl rfl (rd2 hx hy) rfl (op_store_own rfl hg hoff hj hi hk hl hle hlf hv) hn
theorem p_storeO {α : Type} {e : TypeId} {E : Enc α} {xs : List α} {off j f : Nat} {v : α} {i : TyI} (v' : α) {gd : Option (Nat × Bool)} (hi : tyI C.P ty' = some i) (hx : evalA t x = some (.ptr g off)) (hy : evalA t y = some V) (hg : look r g = some (.obj (ownS e E xs))) (hoff : off = j * E.sz + f) (hj : xs[j]? = some v) (hk : okC V = true) (hl : (cellsA V).length = i.size) (hle : f + i.size ≤ E.sz) (hlf : AV.leaves (cellsA V) = true) (hv : E.f v' = spliceL (E.f v) f (cellsA V)) (hgd : wantedA t ops ⟨none, .store ty' x y, ty, pos, af, gd⟩ = some true) (hk : PlanL C ops t0 r0 (⟨none, .v undef, [(g, .obj (ownS e E (xs.set j v')))], [g], []⟩ :: qs) rest ⟨t, (g, .obj (ownS e E (xs.set j v'))) :: r⟩ k) : PlanL C ops t0 r0 qs (⟨none, .store ty' x y, ty, pos, af, gd⟩ :: rest) ⟨t, r⟩ k :=
  planL_eff0 _ [(g, .obj (ownS e E (xs.set j v')))] [g] [] (rd2_ok (by simp [Op.operands]) (by simp [Op.operands])) hgd rfl (rd2 hx hy) (fun r' hF _ => op_store_own rfl ((hF g (List.mem_singleton.2 rfl)).trans hg) hoff hj hi ‹_› hl hle hlf hv) hk

/-! ### A row made -/
theorem all_replicate {α : Type} (E : Enc α) (z : α) (n : Nat) : E.all (List.replicate n z) = (List.replicate n (E.f z)).flatten := by
  rw [Enc.all, List.flatMap_def, List.map_replicate]
theorem madeCells_rep (z : Array Value) (n : Nat) : (madeCells z (n * z.size)).toList = (List.replicate n z.toList).flatten := by
  induction n with
  | zero => simp [madeCells]
  | succ n ih =>
    rw [List.replicate_succ', List.flatten_append, ← ih]
    apply List.ext_getElem?
    intro j
    have hm : (n + 1) * z.size = n * z.size + z.size := by rw [Nat.add_mul, Nat.one_mul]
    rw [List.getElem?_append]
    simp only [madeCells, hm, Array.toList_map, Array.toList_range, List.length_map, List.length_range, List.getElem?_map, List.flatten_cons, List.flatten_nil, List.append_nil]
    by_cases h1 : j < n * z.size
    · rw [if_pos h1, List.getElem?_range (by omega), List.getElem?_range h1]
    · rw [if_neg h1]
      by_cases h2 : j < n * z.size + z.size
      · rw [List.getElem?_range h2]
        have e : j % z.size = j - n * z.size := by
          have hj : j = (j - n * z.size) + n * z.size := by omega
          conv => lhs; rw [hj]
          rw [Nat.add_mul_mod_self_right, Nat.mod_eq_of_lt (by omega)]
        simp only [Option.map_some, e]
        rw [Array.getElem?_toList, Array.getElem?_eq_getElem (by omega), getElem!_pos]
      · rw [List.getElem?_eq_none (by simp; omega), List.getElem?_eq_none (by simp; omega)]
        rfl
theorem AVRs_flat {ι : Nat → Value} {S : Bl} {w : World} {l : List AV} {us : List Value} (h : AVRs ι S w l us) : ∀ n, AVRs ι S w (List.replicate n l).flatten (List.replicate n us).flatten
  | 0 => rfl
  | n + 1 => by
    rw [List.replicate_succ, List.replicate_succ, List.flatten_cons, List.flatten_cons]
    exact h.append (AVRs_flat h n)
theorem op_make {α : Type} (g : Nat) (E : Enc α) (z : α) {e : TypeId} {i : TyI} {n : Nat} {kd : IntKind} (ho : o.op = .makeSlice ty x y) (hE : sliceE C.P ty = some e) (hi : tyI C.P e = some i) (hsz : i.size = E.sz) (hzl : i.zero.length = E.sz) (hz : LeL (i.zero.map .v) (E.f z)) (hby : i.bytes ≤ 1000000) (hn : n ≤ 1000000) (hf : freshR g r = true) (h0 : look C.r0 g = none) : OpEff C r o [(x, .v (.int kd n)), (y, .v (.int kd n))] (.res g) ((g, .obj (ownS e E (List.replicate n z))) :: r) [g] := fun ι F S w ρ hs hr => by
  have hx := hr (x, .v (.int kd n)) (by simp)
  have hy := hr (y, .v (.int kd n)) (by simp)
  simp only [AVR] at hx hy
  have hu := sliceE_spec hE
  obtain ⟨ti, dd, zv, t1, t2, t3, t4, t5, t6, t7⟩ := tyI_info hi
  have hzs : zv.cells.size = E.sz := by rw [← Array.length_toList, t7]; exact hzl
  have hbn : ti.bytes * n ≤ 1000000 * 1000000 := Nat.mul_le_mul (by omega) hn
  obtain ⟨w', hrun, hown, hgr⟩ := run_make_full (P := C.P) w 0 ty e ti zv E.sz hu t1 t3 (by omega) kd kd n (by omega) (by simp [maxLen]; omega) (Nat.zero_le _)
  have hb : Below w.heap.size w w' := ⟨hgr.os, hgr.tape, hgr.output, hgr.size, fun k hk => hgr.block k hk (by simp)⟩
  have hw := hs.same hb
  have hFut : Fut S w S w' := ⟨fun _ h => h, fun k _ hk => hb.block k hk⟩
  refine Does.value (v := .slice (some ⟨w.heap.size, 0, none⟩) n n) (w' := w') (by simp [execOp, ho, hx, hy, hrun]) ⟨_, _, S, hw.add (g := g) (x := .obj (ownS e E (List.replicate n z))) (v := .slice (some ⟨w.heap.size, 0, none⟩) n n) (G := fun k => k = w.heap.size) hf h0 (fun T l e => by cases e) (fun R e => ?_) (fun k hk => ?_) (fun k hk hS => ?_) (fun g' y hg' hy hne k hk hk' => ?_), hFut, fun j hj => newI_other (mem_one hj), ?_⟩
  · cases e
    refine ⟨⟨_, by rw [List.length_replicate]; exact hown, ?_⟩, fun k => by simp [Value.ownBlock, eq_comm]⟩
    rw [all_replicate, ← hzs, madeCells_rep, t7]
    exact AVRs_flat (hz.R (AVRs_v i.zero)) n
  · subst hk; exact .inl hs.but.size
  · subst hk; have := hs.hs.bnd _ hS; omega
  · subst hk'; have := hs.hs.lt hg' hy hk; omega
  · simp only [AVR, newI_same]
    exact ⟨trivial, rfl⟩
theorem v_make {α : Type} (E : Enc α) (z : α) {e : TypeId} {i : TyI} {n : Nat} {kd : IntKind} (hE : sliceE C.P ty' = some e) (hi : tyI C.P e = some i) (hx : evalA t x = some (.v (.int kd n))) (hy : evalA t y = some (.v (.int kd n))) (hsz : i.size = E.sz) (hzl : i.zero.length = E.sz) (hz : LeL (i.zero.map .v) (E.f z)) (hby : Nat.ble i.bytes 1000000 = true) (hnn : n ≤ 1000000) (hf : freshR d r = true) (hft : freshT d t = true) (h0 : look C.r0 d = none) (hn : Nat.blt d C.N = true) (hk : RunL C ops rest ⟨(d, .res d) :: t, (d, .obj (ownS e E (List.replicate n z))) :: r⟩ k) : RunL C ops (⟨some d, .makeSlice ty' x y, ty, pos, af, none⟩ :: rest) ⟨t, r⟩ k :=
  runL_eff _ [d] rfl rfl hn (rd2 hx hy) (by simp [freshTs, hft]) (op_make d E z rfl hE hi hsz hzl hz (Nat.le_of_ble_eq_true hby) hnn hf h0) hk

/-! ### A resource's value, by its name -/
/-- The resource is known by u. -/
def atS (u : Value) (R : Res) : Res where
  H := fun w S F v => v = u ∧ R.H w S F v
  one := fun h => R.one h.2
  bnd := fun h => R.bnd h.2
  fut := fun hm hw h => ⟨h.1, R.fut hm hw h.2⟩
theorem runL_name {l : List Oper} (n g : Nat) {R : Res} (hx : look t n = some (.res g)) (hg : look r g = some (.obj R)) (h : ∀ u, u.oneCell' = true → RunL C ops l ⟨(n, .v u) :: t, (g, .obj (atS u R)) :: r⟩ k) : RunL C ops l ⟨t, r⟩ k := .mk fun a w hs => by
  obtain ⟨ι, F, S, hA⟩ := hs
  have hR := hA.sw.hs.ob g _ hg
  obtain ⟨hw, _⟩ := hA.sw.turn (x' := .obj (atS (ι g) R)) hg rfl (But.refl _ _) (fun _ _ e => by cases e) (fun R' e => by cases e; exact ⟨rfl, hR⟩)
  refine (h (ι g) (R.one hR)).go a w ⟨ι, F, S, hw, fun m z hz => ?_, hA.sz, hA.df⟩
  rw [look_cons] at hz
  by_cases hm : n = m
  · subst hm
    rw [if_pos rfl] at hz
    cases hz
    obtain ⟨u, h1, h2⟩ := hA.ts n _ hx
    simp only [AVR] at h2
    exact ⟨u, h1, by simp only [AVR]; exact h2.1⟩
  · rw [if_neg hm] at hz
    exact hA.ts m z hz
/-- A row as another kind of row. -/
theorem run_recode (g : Nat) {α β : Type} {e : TypeId} {E : Enc α} {E' : Enc β} {xs : List α} {ys : List β} (hg : look r g = some (.obj (ownS e E xs))) (hsz : E.sz = E'.sz) (hl : xs.length = ys.length) (hle : LeL (E.all xs) (E'.all ys)) (h : Run C k ⟨t, (g, .obj (ownS e E' ys)) :: r⟩) : Run C k ⟨t, r⟩ := .mk fun a w hs => by
  obtain ⟨ι, F, S, hA⟩ := hs
  obtain ⟨⟨us, h1, h2⟩, h3⟩ := hA.sw.hs.ob g _ hg
  obtain ⟨hw, _⟩ := hA.sw.turn (x' := .obj (ownS e E' ys)) hg rfl (But.refl _ _) (fun _ _ e => by cases e) (fun R' e => by cases e; exact ⟨⟨us, by rw [← hsz, ← hl]; exact h1, hle.R h2⟩, h3⟩)
  exact h.go a w ⟨ι, F, S, hw, hA.ts, hA.sz, hA.df⟩
def LeU (u : Value) (p : Sem) (x y : AV) : Prop := ∀ ι S w v, p.R w S u → AVR ι S w x v → AVR ι S w y v
def LeUs (u : Value) (p : Sem) : List AV → List AV → Prop
  | [], [] => True
  | x :: l, y :: l' => LeU u p x y ∧ LeUs u p l l'
  | _, _ => False
theorem LeU.refl {u : Value} {p : Sem} {x : AV} : LeU u p x x := fun _ _ _ _ _ h => h
theorem LeU.here {u : Value} {p : Sem} : LeU u p (.v u) (.sem p) := fun ι S w v hp h => by
  simp only [AVR] at h ⊢
  rw [h]; exact hp
theorem LeUs.refl {u : Value} {p : Sem} : ∀ {l : List AV}, LeUs u p l l
  | [] => trivial
  | _ :: _ => ⟨LeU.refl, LeUs.refl⟩
theorem LeUs.append {u : Value} {p : Sem} : ∀ {a a' b b' : List AV}, LeUs u p a a' → LeUs u p b b' → LeUs u p (a ++ b) (a' ++ b')
  | [], [], b, b', _, h => h
  | _ :: a, _ :: a', b, b', h, h' => ⟨h.1, LeUs.append h.2 h'⟩
theorem LeUs.R {ι : Nat → Value} {S : Bl} {w : World} {u : Value} {p : Sem} (hp : p.R w S u) : ∀ {l l' : List AV} {us : List Value}, LeUs u p l l' → AVRs ι S w l us → AVRs ι S w l' us
  | [], [], us, _, h => h
  | x :: l, y :: l', us, hl, h => by
    simp only [AVRs] at h
    obtain ⟨v, r, e, h1, h2⟩ := h
    exact ⟨v, r, e, hl.1 _ _ _ _ hp h1, LeUs.R hp hl.2 h2⟩
/-- The row g2, known by u, is left as it is from here on; where u stands in row g1 that says what it reads as. -/
theorem run_sink (g g2 : Nat) {α β γ : Type} {e e2 : TypeId} {E : Enc α} {E' : Enc β} {E2 : Enc γ} {xs : List α} {ys : List β} {ks : List γ} {u : Value} (hg : look r g = some (.obj (ownS e E xs))) (hg2 : look r g2 = some (.obj (atS u (ownS e2 E2 ks)))) (hne : Nat.beq g g2 = false) (hsz : E.sz = E'.sz) (hl : xs.length = ys.length) (hle : LeUs u (listS E2 ks) (E.all xs) (E'.all ys)) (h : Run C k ⟨t, (g, .obj (ownS e E' ys)) :: (g2, .dead) :: r⟩) : Run C k ⟨t, r⟩ := .mk fun a w hs => by
  obtain ⟨ι, F, S, hA⟩ := hs
  have hne' : g ≠ g2 := fun e => by subst e; simp at hne
  have hd := hA.sw.drop g2 hg2 rfl
  have hF : Fut S w (fun k => S k ∨ F g2 k) w := ⟨fun k hk => .inl hk, fun _ _ _ => rfl⟩
  have hg' : look ((g2, RK.dead) :: r) g = some (.obj (ownS e E xs)) := by rw [look_cons, if_neg (Ne.symm hne')]; exact hg
  obtain ⟨⟨us, h1, h2⟩, h3⟩ := hd.hs.ob g _ hg'
  obtain ⟨hu, hR2⟩ := hA.sw.hs.ob g2 _ hg2
  have hp : (listS E2 ks).R w (fun k => S k ∨ F g2 k) u := by
    rw [← hu]
    exact ownS_list hR2 (fun k hk => .inl hk) (fun k hk => .inr hk)
  obtain ⟨hw, _⟩ := hd.turn (x' := .obj (ownS e E' ys)) hg' rfl (But.refl _ _) (fun _ _ e => by cases e) (fun R' e => by cases e; exact ⟨⟨us, by rw [← hsz, ← hl]; exact h1, hle.R hp h2⟩, h3⟩)
  exact h.go a w ⟨ι, F, _, hw, hA.ts.fut hF fun _ _ _ _ _ => rfl, hA.sz, hA.df⟩
/-- 'copy' into a row that is known by u. -/
theorem op_copyU {e : TypeId} {α : Type} {E : Enc α} {xs ys : List α} {u : Value} (ho : o.op = .call { callee := .builtin .copy, args := #[x, y], argTypes := #[ty, ty] }) (hg : look r g = some (.obj (atS u (ownS e E xs)))) {e' : TypeId} {i : TyI} (hE : sliceE C.P ty = some e') (hi : tyI C.P e' = some i) (hsz : i.size = 1) (hs1 : E.sz = 1) (hl : xs.length = ys.length) : OpEff C r o [(x, .v u), (y, .sem (listS E ys))] (.v (.int .i64 ys.length)) ((g, .obj (atS u (ownS e E ys))) :: r) [] := fun ι F S w ρ hs hr => by
  have hx := hr (x, .v u) (by simp)
  have hy := hr (y, .sem (listS E ys)) (by simp)
  simp only [AVR] at hx hy
  obtain ⟨A, c, hy, hc, hA⟩ := hy
  obtain ⟨hu, ⟨us, h1, h2⟩, h3⟩ := hs.hs.ob g _ hg
  have hund := sliceE_spec hE
  obtain ⟨ti, dd, zv, t1, t2, t3, t4, t5, t6, t7⟩ := tyI_info hi
  have hinf : (C.P.info? e').map (·.size) = some 1 := by rw [t1]; simp [t5, hsz]
  by_cases h0 : ys.length = 0
  · have hys : ys = [] := List.eq_nil_of_length_eq_zero h0
    have hxs : xs = [] := List.eq_nil_of_length_eq_zero (by omega)
    subst hys
    subst hxs
    have hform : ∃ A' c', u = .slice A' 0 c' := by
      rcases h1.2 with ⟨hv, _⟩ | ⟨b, cap, cur, hv, _⟩
      · exact ⟨none, 0, by rw [← hu]; exact hv⟩
      · exact ⟨_, cap, by rw [← hu]; exact hv⟩
    obtain ⟨A', c', hu'⟩ := hform
    have hrun := run_copy_none (P := C.P) w ty ty o.type e' A' A 0 c' 0 c hund hinf (by simp)
    refine Does.value (v := goInt 0) (w' := w) ?_ ⟨ι, F, S, hs.congr fun g' => ?_, Fut.refl _ _, fun _ _ => rfl, by simp [AVR, goInt]⟩
    · subst hu'
      simp [execOp, ho, resolve, invoke, builtin, hx, hy, hrun]
    · rw [look_cons]
      by_cases e' : g = g'
      · subst e'; rw [if_pos rfl, hg]
      · rw [if_neg e']
  · rcases h1.2 with ⟨_, h0'⟩ | ⟨b, cap, cur, hv, hbase, hh, hn, hcap, hsz', htk⟩
    · omega
    · rcases hA with hA | ⟨b2, off, rfl, hb2, us2, v1, v2⟩
      · exfalso
        have := E.all_len ys
        rw [hA, hs1] at this
        simp at this
        omega
      · have hl2 : us2.length = ys.length := by rw [v1.length, E.all_len, hs1, Nat.mul_one]
        have hone := v1.leaf_one (E.all_leaf ys)
        rw [hs1, Nat.mul_one] at hsz' htk
        have hrun := run_copy_row (P := C.P) w ty ty o.type e' b 0 xs.length cap ⟨b2, off, none⟩ ys.length c cur e us2 hund hinf hh (by rw [hl2]; simp [hl]) (fun j v hj => v2 j v hj) (by omega) hone
        rw [List.take_zero, List.nil_append, Nat.zero_add] at hrun
        have hFg : ∀ k, F g k ↔ k = b := fun k => by rw [h3, hv]; simp [Value.ownBlock, eq_comm]
        have hbut : But (F g) w (w.setRow b (us2 ++ cur.toList.drop us2.length).toArray) := ⟨rfl, rfl, rfl, by simp, fun k _ hn => setRow_other w b k _ fun e => hn ((hFg k).2 e)⟩
        have hFut : Fut S w S (w.setRow b (us2 ++ cur.toList.drop us2.length).toArray) := ⟨fun _ h => h, fun k hk hl => hbut.block k hl fun hf => hs.hs.out g _ hg rfl k hf hk⟩
        obtain ⟨hw, _⟩ := hs.turn (x' := .obj (atS u (ownS e E ys))) hg rfl hbut (fun T l' e => by cases e) (fun R e0 => by
          cases e0
          refine ⟨hu, ⟨us2, ⟨by rw [hl2, hs1, Nat.mul_one], .inr ⟨b, cap, _, by rw [hv, hl], hbase, setRow_heap w b cur _ e (0, 0) hh, by omega, hcap, ?_, ?_⟩⟩, (v1.fut hFut fun _ _ => rfl)⟩, h3⟩
          · rw [hs1, Nat.mul_one, List.size_toArray, List.length_append, List.length_drop]
            have : cur.toList.length = cur.size := Array.length_toList
            omega
          · rw [hs1, Nat.mul_one, List.toList_toArray, ← hl2, List.take_left])
        refine Does.value (v := goInt us2.length) (w' := w.setRow b (us2 ++ cur.toList.drop us2.length).toArray) ?_ ⟨ι, F, S, hw, hFut, fun _ _ => rfl, by simp [AVR, goInt, hl2]⟩
        have hux : ρ x = .slice (some ⟨b, 0, none⟩) xs.length cap := by rw [hx, ← hu]; exact hv
        simp [execOp, ho, resolve, invoke, builtin, hux, hy, hrun]
theorem v_copyU {e : TypeId} {α : Type} {E : Enc α} {xs ys : List α} {u : Value} (g : Nat) {e' : TypeId} {i : TyI} (hE : sliceE C.P ty' = some e') (hi : tyI C.P e' = some i) (hx : evalA t x = some (.v u)) (hy : evalA t y = some (.sem (listS E ys))) (hg : look r g = some (.obj (atS u (ownS e E xs)))) (hsz : i.size = 1) (hs1 : E.sz = 1) (hl : xs.length = ys.length) (hn : Nat.blt d C.N = true) (hk : RunL C ops rest ⟨(d, .v (.int .i64 ys.length)) :: t, (g, .obj (atS u (ownS e E ys))) :: r⟩ k) : RunL C ops (⟨some d, .call { callee := .builtin .copy, args := #[x, y], argTypes := #[ty', ty'] }, ty, pos, af, none⟩ :: rest) ⟨t, r⟩ k :=
  runL_eff _ [] rfl rfl hn (rd2 hx hy) rfl (op_copyU rfl hg hE hi hsz hs1 hl) hk
end
end Go.Proofs.YtpmeffdcbjakoaaDoor
