/- VL, part 10: tables; loops; literal tests; the end. -/
import Derived.Test.YtpmeffdcbjakoaaDoorVL9
import Derived.Test.YtpmeffdcbjakoaaDoorTy
import Derived.Lib.SliceRun
namespace Go.Proofs.YtpmeffdcbjakoaaDoor
set_option linter.unusedVariables false
set_option linter.unusedSimpArgs false
open Go.RowKit

section
variable {C : Cx} {k : List Item} {σ : VS} {t : List (Nat × AV)} {r : List (Nat × RK)}
theorem run_condT {x : Operand} {c d : Code} (hx : evalA t x = some (.v (.bool true))) (h : Run C (.code c :: k) ⟨t, r⟩) : Run C (.code (.cond x c d) :: k) ⟨t, r⟩ := run_cond hx (fun _ => h) (fun e => by cases e)
theorem run_condF {x : Operand} {c d : Code} (hx : evalA t x = some (.v (.bool false))) (h : Run C (.code d :: k) ⟨t, r⟩) : Run C (.code (.cond x c d) :: k) ⟨t, r⟩ := run_cond hx (fun e => by cases e) (fun _ => h)
/-- A test that is known to be so. -/
theorem run_condY {x : Operand} {c d : Code} {b : Bool} (hx : evalA t x = some (.v (.bool b))) (hb : b = true) (h : Run C (.code c :: k) ⟨t, r⟩) : Run C (.code (.cond x c d) :: k) ⟨t, r⟩ := run_cond hx (fun _ => h) (fun e => by rw [hb] at e; cases e)
theorem run_condN {x : Operand} {c d : Code} {b : Bool} (hx : evalA t x = some (.v (.bool b))) (hb : b = false) (h : Run C (.code d :: k) ⟨t, r⟩) : Run C (.code (.cond x c d) :: k) ⟨t, r⟩ := run_cond hx (fun e => by rw [hb] at e; cases e) (fun _ => h)
/-- A bool that is known. -/
theorem v_is (n : Nat) {ops : Array Oper} {l : List Oper} {b : Bool} (c : Bool) (hx : look t n = some (.v (.bool b))) (hb : b = c) (h : RunL C ops l ⟨(n, .v (.bool c)) :: t, r⟩ k) : RunL C ops l ⟨t, r⟩ k := runL_know n hx (fun ι F S w u _ hu => by rw [← hb]; exact hu) h

/-- A loop, out of any state. -/
theorem v_loop {α : Type} {c : Code} (St : α → VS) (I : α → Prop) (μ : α → Nat) (x0 : α) (m : Nat → Nat) (hk : KeepM m C.r0) (ht : WkT σ.t m (St x0).t) (hr : WkR σ.r m (St x0).r) (hn : nodupB (idsM m (St x0).r) = true) (h0 : I x0) (round : ∀ x, I x → (∀ y, I y → μ y < μ x → Run C (.inLoop c :: k) (St y)) → Run C (.code c :: .inLoop c :: k) (St x)) : Run C (.code (.loop c) :: k) σ :=
  run_loop (run_weak m hk hr ht hn (run_while St I μ round x0 h0))
theorem v_again {α : Type} {c : Code} {St : α → VS} {I : α → Prop} {μ : α → Nat} {x : α} (ih : ∀ y, I y → μ y < μ x → Run C (.inLoop c :: k) (St y)) (y : α) (m : Nat → Nat) (hk : KeepM m C.r0) (ht : WkT σ.t m (St y).t) (hr : WkR σ.r m (St y).r) (hn : nodupB (idsM m (St y).r) = true) (hy : I y) (hlt : μ y < μ x) : Run C (.inLoop c :: k) σ :=
  run_weak m hk hr ht hn (ih y hy hlt)
end

section
variable {C : Cx} {k : List Item} {t : List (Nat × AV)} {r : List (Nat × RK)} {ops : Array Oper} {rest : List Oper}
variable {d : Nat} {ty ty' : TypeId} {pos : String} {af : Array Edge} {x y z : Operand} {V : AV} {g : Nat}
theorem run_eql_nilS {P : Program} {T e : TypeId} (hE : sliceE P T = some e) (w : World) (A : Option Addr) (n c : Nat) : (binOp .eql T (.slice A n c) (.slice none 0 0)).run P w = .ok (.bool A.isNone) w := Lib.run_eql_slice_nil w T e A n c 0 0 (sliceE_spec hE)
/-- 'xs == nil': if so, it is empty. -/
theorem v_sliceNil {α : Type} {E : Enc α} {xs : List α} {e t2 : TypeId} (hE : sliceE C.P ty' = some e) (hx : evalA t x = some (.sem (listS E xs))) (hn : Nat.blt d C.N = true) (hz : 0 < E.sz) (hk : ∀ b : Bool, (b = true → xs = []) → RunL C ops rest ⟨(d, .v (.bool b)) :: t, r⟩ k) : RunL C ops (⟨some d, .binOp .eql ty' x (.const (.slice none 0 0)) t2, ty, pos, af, none⟩ :: rest) ⟨t, r⟩ k := .mk fun a w hs => by
  obtain ⟨ι, F, S, hA⟩ := id hs
  have hv := hA.ts.eval hx
  simp only [AVR] at hv
  obtain ⟨A, c, hv, hc, hR⟩ := hv
  have hb : A.isNone = true → xs = [] := fun h => by
    rcases hR with hR | ⟨b, off, hb, _⟩
    · have := E.all_len xs
      rw [hR] at this
      rcases Nat.eq_zero_or_pos xs.length with h0 | h0
      · exact List.eq_nil_of_length_eq_zero h0
      · have h6 := Nat.mul_pos h0 hz
        rw [← this] at h6
        cases h6
    · rw [hb] at h; cases h
  refine wpList_step fun K hK => ?_
  rw [if_pos (by simp [Region.wanted])]
  refine Does.wp (Does.value (v := .bool A.isNone) (w' := w) ?_ ?_)
  · have : a.eval (.const (.slice none 0 0)) = .slice none 0 0 := rfl
    simp [execOp, hv, this, eqGuard_at_slice, run_eql_nilS hE]
  · refine hK _ _ ((hk A.isNone hb).go _ _ ⟨ι, F, S, hA.sw, hA.ts.put (Fut.refl _ _) (fun _ _ _ _ _ => rfl) (by rw [hA.sz]; exact Nat.le_of_ble_eq_true hn) (by simp [AVR]), by simp [Act.put, hA.sz], by simp [Act.put, hA.df]⟩)
/-- A slice's literal, of the call's own. -/
theorem op_litO {C : Cx} {r : List (Nat × RK)} {o : Oper} {α : Type} (g : Nat) (E : Enc α) (ys : List α) {e : TypeId} {i : TyI} {xs : List Operand} (l : List AV) {n : Nat} (ho : o.op = .buildSlice ty n (seqP 0 xs).toArray) (hn : xs.length = n) (hE : sliceE C.P ty = some e) (hi : tyI C.P e = some i) (hsz : i.size = E.sz) (hz : i.zero.length = i.size) (hlen : xs.length = l.length) (hy : ys.length = n) (hmax : n * i.size ≤ 16777216) (hnn : n ≤ 1000000) (hk : okL E.sz l = true) (hl : lineA l = E.all ys) (hf : freshR g r = true) (h0 : look C.r0 g = none) : OpEff C r o (xs.zip l) (.res g) ((g, .obj (ownS e E ys)) :: r) [g] := fun ι F S w ρ hs hr => by
  subst hn
  have hv := zip_AVRs hlen hr
  obtain ⟨h1, h2⟩ := line_R hk hv
  have hrun := run_buildSlice (ρ := ρ) (w := w) hE hi hz hmax (by rw [hsz]; exact h2)
  have hb : Below w.heap.size w (w.alloc (.cells ((xs.map ρ).flatMap fun u => u.cells.toList).toArray e)) := (Below.refl _ _).alloc (Nat.le_refl _) _
  have hw := hs.same hb
  have hFut : Fut S w S (w.alloc (.cells ((xs.map ρ).flatMap fun u => u.cells.toList).toArray e)) := ⟨fun _ h => h, fun k _ hk => hb.block k hk⟩
  have hlenA : ((xs.map ρ).flatMap fun u => u.cells.toList).length = ys.length * E.sz := by
    rw [h1.length, hl, E.all_len]
  refine Does.value (v := .slice (some ⟨w.heap.size, 0, none⟩) xs.length xs.length) (w' := w.alloc (.cells ((xs.map ρ).flatMap fun u => u.cells.toList).toArray e)) ?_ ⟨_, _, S, hw.add (g := g) (x := .obj (ownS e E ys)) (v := .slice (some ⟨w.heap.size, 0, none⟩) xs.length xs.length) (G := fun k => k = w.heap.size) hf h0 (fun T l e => by cases e) (fun R e => ?_) (fun k hk => ?_) (fun k hk hS => ?_) (fun g' y hg' hy hne k hk hk' => ?_), hFut, fun j hj => newI_other (mem_one hj), ?_⟩
  · simp [execOp, ho, hrun]
  · cases e
    refine ⟨⟨(xs.map ρ).flatMap fun u => u.cells.toList, ⟨hlenA, .inr ⟨w.heap.size, xs.length, ((xs.map ρ).flatMap fun u => u.cells.toList).toArray, by rw [hy], Nat.zero_le _, heap_alloc_new w _, by rw [hy]; exact Nat.le_refl _, by unfold maxLen; omega, by rw [List.size_toArray, hlenA, hy], ?_⟩⟩, ?_⟩, fun k => ?_⟩
    · rw [List.toList_toArray, ← hlenA, List.take_length]
    · rw [hl] at h1
      exact (h1.leaf_any (E.all_leaf ys)).fut hFut fun _ _ => rfl
    · simp [Value.ownBlock, eq_comm]
  · subst hk; exact .inl hs.but.size
  · subst hk; have := hs.hs.bnd _ hS; omega
  · subst hk'; have := hs.hs.lt hg' hy hk; omega
  · simp only [AVR, newI_same]
    exact ⟨trivial, rfl⟩
theorem v_litO {α : Type} (E : Enc α) (ys : List α) {e : TypeId} {i : TyI} (xs : List Operand) (l : List AV) {n : Nat} {ps : Array (Nat × Operand)} (hE : sliceE C.P ty' = some e) (hi : tyI C.P e = some i) (hps : ps = (seqP 0 xs).toArray) (hxn : xs.length = n) (hr : Rd t (xs.zip l)) (hsz : i.size = E.sz) (hz : i.zero.length = i.size) (hlen : xs.length = l.length) (hy : ys.length = n) (hmax : Nat.ble (n * i.size) 16777216 = true) (hnn : Nat.ble n 1000000 = true) (hok : okL E.sz l = true) (hl : lineA l = E.all ys) (hf : freshR d r = true) (hft : freshT d t = true) (h0 : look C.r0 d = none) (hn : Nat.blt d C.N = true) (hk : RunL C ops rest ⟨(d, .res d) :: t, (d, .obj (ownS e E ys)) :: r⟩ k) : RunL C ops (⟨some d, .buildSlice ty' n ps, ty, pos, af, none⟩ :: rest) ⟨t, r⟩ k := runL_eff _ [d] rfl rfl hn hr (by simp [freshTs, hft]) (op_litO d E ys l (by rw [hps]) hxn hE hi hsz hz hlen hy (Nat.le_of_ble_eq_true hmax) (Nat.le_of_ble_eq_true hnn) hok hl hf h0) hk
theorem v_appendD {α : Type} {e : TypeId} {E : Enc α} {xs ys : List α} {i : TyI} (hE : sliceE C.P ty' = some e) (hi : tyI C.P e = some i) (hx : evalA t x = some (.res g)) (hg : look r g = some (.obj (ownS e E xs))) (hy : evalA t y = some (.sem (listS E ys))) (hsz : i.size = E.sz) (hz : i.zero.length = E.sz) (h0 : Nat.blt 0 E.sz = true) (hby : Nat.ble i.bytes 100000000 = true) (hm : xs.length + ys.length ≤ 1000000) (hf : freshR d r = true) (hft : freshT d t = true) (hr0 : look C.r0 d = none) (hn : Nat.blt d C.N = true) (hk : RunL C ops rest ⟨(d, .res d) :: t, (d, .obj (ownS e E (xs ++ ys))) :: (g, .dead) :: r⟩ k) : RunL C ops (⟨some d, .call { callee := .builtin .append, args := #[x, y], argTypes := #[ty', ty'] }, ty, pos, af, none⟩ :: rest) ⟨t, r⟩ k := v_append d hE hi hx hg hy hsz hz h0 hby hm hf hft hr0 hn hk
end

/-! ### Operands in line -/
def evalAs (t : List (Nat × AV)) : List Operand → Option (List AV)
  | [] => some []
  | x :: l => match evalA t x, evalAs t l with
    | some a, some r => some (a :: r)
    | _, _ => none
theorem evalAs_spec {t : List (Nat × AV)} : ∀ {xs : List Operand} {l : List AV}, evalAs t xs = some l → Rd t (xs.zip l) ∧ xs.length = l.length
  | [], l, h => by
    simp only [evalAs] at h
    cases h
    exact ⟨trivial, rfl⟩
  | x :: xs, l, h => by
    simp only [evalAs] at h
    split at h
    · rename_i a r h1 h2
      cases h
      obtain ⟨h3, h4⟩ := evalAs_spec h2
      exact ⟨⟨h1, h3⟩, by simp [h4]⟩
    · cases h
def opsOf : List (Nat × Operand) → List Operand
  | [] => []
  | p :: l => p.2 :: opsOf l
theorem evalAs_zip {t : List (Nat × AV)} : ∀ {ps : List (Nat × Operand)} {l : List AV}, evalAs t (opsOf ps) = some l → Rd t (zipRd ps l) ∧ ps.length = l.length
  | [], l, h => by
    simp only [opsOf, evalAs] at h
    cases h
    exact ⟨trivial, rfl⟩
  | p :: ps, l, h => by
    simp only [opsOf, evalAs] at h
    split at h
    · rename_i a r h1 h2
      cases h
      obtain ⟨h3, h4⟩ := evalAs_zip h2
      exact ⟨⟨h1, h3⟩, by simp [h4]⟩
    · cases h
section
variable {C : Cx} {k : List Item} {t : List (Nat × AV)} {r : List (Nat × RK)} {ops : Array Oper} {rest : List Oper}
variable {d : Nat} {ty ty' : TypeId} {pos : String} {af : Array Edge} {x y z : Operand} {V : AV} {g : Nat}
theorem v_b {ps : List (Nat × Operand)} {pl : List (Nat × Nat)} {i : TyI} {l l' : List AV} (hpl : placesI C.P ty' = some pl) (hi : tyI C.P ty' = some i) (hr : evalAs t (opsOf ps) = some l) (hf : fillA (fun n => pl[n]?) (i.zero.map .v) (zipFl ps l) = some l') (hn : Nat.blt d C.N = true) (hk : RunL C ops rest ⟨(d, .agg l') :: t, r⟩ k) : RunL C ops (⟨some d, .build ty' ps.toArray, ty, pos, af, none⟩ :: rest) ⟨t, r⟩ k := v_build l hpl hi (evalAs_zip hr).1 (evalAs_zip hr).2 hf hn hk
theorem v_l {α : Type} (E : Enc α) (ys : List α) {e : TypeId} {i : TyI} {l : List AV} {n : Nat} {ps : List (Nat × Operand)} (hE : sliceE C.P ty' = some e) (hi : tyI C.P e = some i) (hr : evalAs t (opsOf ps) = some l) (hps : ps = seqP 0 (opsOf ps)) (hxn : (opsOf ps).length = n) (hsz : i.size = E.sz) (hz : i.zero.length = i.size) (hy : ys.length = n) (hmax : Nat.ble (n * i.size) 16777216 = true) (hok : okL E.sz l = true) (hl : lineA l = E.all ys) (hn : Nat.blt d C.N = true) (hk : RunL C ops rest ⟨(d, .sem (listS E ys)) :: t, r⟩ k) : RunL C ops (⟨some d, .buildSlice ty' n ps.toArray, ty, pos, af, none⟩ :: rest) ⟨t, r⟩ k := v_lit E ys (opsOf ps) l hE hi (congrArg List.toArray hps) hxn (evalAs_spec hr).1 hsz hz (evalAs_spec hr).2 hy hmax hok hl hn hk
theorem v_lO {α : Type} (E : Enc α) (ys : List α) {e : TypeId} {i : TyI} {l : List AV} {n : Nat} {ps : List (Nat × Operand)} (hE : sliceE C.P ty' = some e) (hi : tyI C.P e = some i) (hr : evalAs t (opsOf ps) = some l) (hps : ps = seqP 0 (opsOf ps)) (hxn : (opsOf ps).length = n) (hsz : i.size = E.sz) (hz : i.zero.length = i.size) (hy : ys.length = n) (hmax : Nat.ble (n * i.size) 16777216 = true) (hnn : Nat.ble n 1000000 = true) (hok : okL E.sz l = true) (hl : lineA l = E.all ys) (hf : freshR d r = true) (hft : freshT d t = true) (h0 : look C.r0 d = none) (hn : Nat.blt d C.N = true) (hk : RunL C ops rest ⟨(d, .res d) :: t, (d, .obj (ownS e E ys)) :: r⟩ k) : RunL C ops (⟨some d, .buildSlice ty' n ps.toArray, ty, pos, af, none⟩ :: rest) ⟨t, r⟩ k := v_litO E ys (opsOf ps) l hE hi (congrArg List.toArray hps) hxn (evalAs_spec hr).1 hsz hz (evalAs_spec hr).2 hy hmax hnn hok hl hf hft h0 hn hk
theorem v_f {f : FuncId} {xs : List Operand} {l : List AV} (hr : evalAs t xs = some l) (hn : Nat.blt d C.N = true) (hk : RunL C ops rest ⟨(d, .fn f l) :: t, r⟩ k) : RunL C ops (⟨some d, .makeFunc (.func f) #[] xs.toArray, ty, pos, af, none⟩ :: rest) ⟨t, r⟩ k := v_func l (evalAs_spec hr).1 (evalAs_spec hr).2 hn hk
theorem v_c {f : FuncId} {l : List AV} {xs : List Operand} {ts : Array TypeId} (hF : Fun C.P f l [] V []) (hr : evalAs t xs = some l) (hc : callB C.P f = true) (hV : V.noRef = true) (hn : Nat.blt d C.N = true) (hk : RunL C ops rest ⟨(d, V) :: t, r⟩ k) : RunL C ops (⟨some d, .call { callee := .value (.func f), args := xs.toArray, argTypes := ts }, ty, pos, af, none⟩ :: rest) ⟨t, r⟩ k := v_call hF hc (evalAs_spec hr).1 (evalAs_spec hr).2 hV hn hk
theorem v_cO {f : FuncId} {l : List AV} {xs : List Operand} {ts : Array TypeId} {R : Res} (hF : Fun C.P f l [] (.res 0) [(0, .obj R)]) (hr : evalAs t xs = some l) (hc : callB C.P f = true) (hl : AV.noRefs l = true) (hf : freshR d r = true) (hft : freshT d t = true) (h0 : notIn d (idsOf C.r0) = true) (hn : Nat.blt d C.N = true) (hk : RunL C ops rest ⟨(d, .res d) :: t, (d, .obj R) :: r⟩ k) : RunL C ops (⟨some d, .call { callee := .value (.func f), args := xs.toArray, argTypes := ts }, ty, pos, af, none⟩ :: rest) ⟨t, r⟩ k := v_callO d hF hc (evalAs_spec hr).1 (evalAs_spec hr).2 hl hf hft h0 hn hk
theorem renL_length (m : Nat → Nat) : ∀ l : List AV, (AV.renL m l).length = l.length
  | [] => rfl
  | x :: l => by simp [AV.renL, renL_length m l]
theorem v_cR {f : FuncId} {r0 r1 : List (Nat × RK)} {l : List AV} {xs : List Operand} {ts : Array TypeId} (m : Nat → Nat) (hF : Fun C.P f l r0 V r1) (hr : evalAs t xs = some (AV.renL m l)) (hc : callB C.P f = true) (hw : WkR r m r0) (hn0 : nodupB (idsM m r0) = true) (hl0 : liveAll r0 = true) (hn1 : nodupB (idsM m r1) = true) (hfr : freshAll r C.r0 (newIds m r0 r1) = true) (hft : freshTs t (newIds m r0 r1) = true) (hnew : allNotIn (idsM m r0) (newIds m r0 r1) = true) (hcl : closedR (idsOf r1 ++ idsOf r0) r1 = true) (hrv : V.inL (idsOf r1 ++ idsOf r0) = true) (hn : Nat.blt d C.N = true) (hk : RunL C ops rest ⟨(d, V.ren m) :: t, renR m r1 (deadR m r0 r)⟩ k) : RunL C ops (⟨some d, .call { callee := .value (.func f), args := xs.toArray, argTypes := ts }, ty, pos, af, none⟩ :: rest) ⟨t, r⟩ k :=
  v_callR m hF hc (evalAs_spec hr).1 ((evalAs_spec hr).2.trans (renL_length m l)) hw hn0 hl0 hn1 hfr hft hnew hcl hrv hn hk
theorem v_cC {f : FuncId} {r0 r1 : List (Nat × RK)} {l cap : List AV} {xs : List Operand} {ts : Array TypeId} (m : Nat → Nat) (hF : Fun C.P f (l ++ cap) r0 V r1) (hx : evalA t x = some (.fn f (AV.renL m cap))) (hr : evalAs t xs = some (AV.renL m l)) (hc : callB C.P f = true) (hw : WkR r m r0) (hn0 : nodupB (idsM m r0) = true) (hl0 : liveAll r0 = true) (hn1 : nodupB (idsM m r1) = true) (hfr : freshAll r C.r0 (newIds m r0 r1) = true) (hft : freshTs t (newIds m r0 r1) = true) (hnew : allNotIn (idsM m r0) (newIds m r0 r1) = true) (hcl : closedR (idsOf r1 ++ idsOf r0) r1 = true) (hrv : V.inL (idsOf r1 ++ idsOf r0) = true) (hn : Nat.blt d C.N = true) (hk : RunL C ops rest ⟨(d, V.ren m) :: t, renR m r1 (deadR m r0 r)⟩ k) : RunL C ops (⟨some d, .call { callee := .value x, args := xs.toArray, argTypes := ts }, ty, pos, af, none⟩ :: rest) ⟨t, r⟩ k :=
  v_callC m hF hc hx (evalAs_spec hr).1 ((evalAs_spec hr).2.trans (renL_length m l)) hw hn0 hl0 hn1 hfr hft hnew hcl hrv hn hk
end

/-! ### Less said -/
def Le (x y : AV) : Prop := ∀ ι S w u, AVR ι S w x u → AVR ι S w y u
def LeL : List AV → List AV → Prop
  | [], [] => True
  | x :: l, y :: l' => Le x y ∧ LeL l l'
  | _, _ => False
theorem Le.refl {x : AV} : Le x x := fun _ _ _ _ h => h
theorem LeL.refl : ∀ {l : List AV}, LeL l l
  | [] => trivial
  | _ :: _ => ⟨Le.refl, LeL.refl⟩
theorem Le.nil {α : Type} {E : Enc α} : Le (.v (.slice none 0 0)) (.sem (listS E ([] : List α))) := fun ι S w u h => by
  simp only [AVR] at h ⊢
  subst h
  exact ⟨none, 0, rfl, by simp, .inl rfl⟩
theorem LeL.R {ι : Nat → Value} {S : Bl} {w : World} : ∀ {l l' : List AV} {us : List Value}, LeL l l' → AVRs ι S w l us → AVRs ι S w l' us
  | [], [], us, _, h => h
  | x :: l, y :: l', us, hl, h => by
    simp only [AVRs] at h
    obtain ⟨u, r, e, h1, h2⟩ := h
    exact ⟨u, r, e, hl.1 _ _ _ _ h1, LeL.R hl.2 h2⟩
theorem Le.agg {l l' : List AV} (h : LeL l l') : Le (.agg l) (.agg l') := fun ι S w u hu => by
  simp only [AVR] at hu ⊢
  obtain ⟨us, e, h2⟩ := hu
  exact ⟨us, e, h.R h2⟩
theorem Le.tup {l l' : List AV} (h : LeL l l') : Le (.tup l) (.tup l') := fun ι S w u hu => by
  simp only [AVR] at hu ⊢
  obtain ⟨us, e, h2⟩ := hu
  exact ⟨us, e, h.R h2⟩
/-- A contract that says less. -/
theorem Fun.le {P : Program} {f : FuncId} {l : List AV} {r0 r1 : List (Nat × RK)} {x y : AV} (h : Fun P f l r0 x r1) (hle : Le x y) : Fun P f l r0 y r1 := fun ι F S w vals hh hv => (h ι F S w vals hh hv).mono fun e w' hr => by
  obtain ⟨ι', F', S', u, h1, h2, h3, h4⟩ := hr
  exact ⟨ι', F', S', u, h1, h2, hle _ _ _ _ h3, h4⟩
/-- A contract for arguments of which more is known. -/
theorem Fun.arg {P : Program} {f : FuncId} {l l' : List AV} {r0 r1 : List (Nat × RK)} {x : AV} (h : Fun P f l r0 x r1) (hle : LeL l' l) : Fun P f l' r0 x r1 := fun ι F S w vals hh hv => h ι F S w vals hh (hle.R hv)
section
variable {C : Cx} {k : List Item} {t : List (Nat × AV)} {r : List (Nat × RK)}
theorem run_le (n : Nat) {x y : AV} (hx : look t n = some x) (hy : Le x y) (h : Run C k ⟨(n, y) :: t, r⟩) : Run C k ⟨t, r⟩ := run_know n hx (fun ι F S w u _ hu => hy _ _ _ _ hu) h
theorem runL_le {ops : Array Oper} {l : List Oper} (n : Nat) {x y : AV} (hx : look t n = some x) (hy : Le x y) (h : RunL C ops l ⟨(n, y) :: t, r⟩ k) : RunL C ops l ⟨t, r⟩ k := runL_know n hx (fun ι F S w u _ hu => hy _ _ _ _ hu) h
/-- A box of which less is said. -/
theorem run_leB (g : Nat) {T : TypeId} {l l' : List AV} (hg : look r g = some (.box T l)) (hl : LeL l l') (h : Run C k ⟨t, (g, .box T l') :: r⟩) : Run C k ⟨t, r⟩ := .mk fun a w hs => by
  obtain ⟨ι, F, S, hA⟩ := hs
  have hb : But (F g) w w := But.refl _ _
  obtain ⟨hw, _⟩ := hA.sw.turn (x' := .box T l') hg rfl hb (fun T' l'' e => by
    cases e
    obtain ⟨b, h1, h2, cs, h3, h4⟩ := hA.sw.hs.bx g T l hg
    exact ⟨b, h1, h2, cs, h3, hl.R h4⟩) (fun R e => by cases e)
  exact h.go a w ⟨ι, F, S, hw, hA.ts, hA.sz, hA.df⟩
end
/-- Names by a table; others stay. -/
def mp (l : List (Nat × Nat)) (n : Nat) : Nat := match look l n with
  | some k => k
  | none => n
/-- What is handed back as a row of the caller's own may be read alone. -/
theorem Fun.freeze {P : Program} {f : FuncId} {l : List AV} {α : Type} {e : TypeId} {E : Enc α} {xs : List α} (h : Fun P f l [] (.res 0) [(0, .obj (ownS e E xs))]) : Fun P f l [] (.sem (listS E xs)) [] := fun ι F S w vals hh hv => (h ι F S w vals hh hv).mono fun e' w' hr => by
  obtain ⟨ι', F', S', u, h1, h2, h3, h4, h5, h6, h7, h8⟩ := hr
  have hob := h2.ob 0 _ rfl
  have hD : ∀ k, ¬ Dom [] F k := fun k ⟨_, _, h, _⟩ => by cases h
  refine ⟨ι', F', fun k => S' k ∨ F' 0 k, u, h1, ⟨fun _ _ _ h => (by cases h), fun _ _ h => (by cases h), fun _ _ _ _ h => (by cases h), fun _ _ h => (by cases h), fun k hk => hk.elim (h2.bnd k) ((ownS e E xs).bnd hob k)⟩, ?_, ⟨fun k hk => .inl (h4.mono k hk), h4.same⟩, h5, h6, fun k hk => hk.elim (h7 k) fun hk => ?_, fun _ _ h => (by cases h)⟩
  · simp only [AVR] at h3 ⊢
    rw [h3.1]
    exact ownS_list hob (fun k hk => .inl hk) (fun k hk => .inr hk)
  · exact (h8 0 _ rfl rfl k hk).imp_left (fun h => h) |>.elim (fun h => .inr (.inl h)) (fun h => absurd h (hD k))
end Go.Proofs.YtpmeffdcbjakoaaDoor
