/- VL, part 6: operations that make and turn resources. -/
import Derived.Test.YtpmeffdcbjakoaaDoorVL5
namespace Go.Proofs.YtpmeffdcbjakoaaDoor
set_option linter.unusedVariables false
set_option linter.unusedSimpArgs false
open Go.RowKit

/-! ### A value's cells -/
def cellsA : AV → List AV
  | .agg l => l
  | x => [x]
def okC : AV → Bool
  | .v x => match x with
    | .agg _ => false
    | _ => true
  | _ => true
def AV.cell : AV → Bool
  | .v x => x.oneCell'
  | .agg _ => false
  | .tup _ => false
  | _ => true
def AV.cellL : List AV → Bool
  | [] => true
  | x :: l => and x.cell (AV.cellL l)
section
variable {ι : Nat → Value} {S : Bl} {w : World}
theorem cells_one {u : Value} (h : u.oneCell' = true) : u.cells.toList = [u] := by cases u <;> simp_all [Value.oneCell', Value.cells]
theorem cellsA_R {x : AV} {u : Value} (h : AVR ι S w x u) (hk : okC x = true) : AVRs ι S w (cellsA x) u.cells.toList := by
  cases x with
  | v y =>
    simp only [AVR] at h
    subst h
    cases u <;> simp_all [okC, cellsA, AVRs, AVR, Value.cells]
  | sem p =>
    simp only [AVR] at h
    rw [cells_one (p.one h)]
    exact ⟨u, [], rfl, by simpa [AVR] using h, rfl⟩
  | res g =>
    simp only [AVR] at h
    rw [cells_one h.2]
    exact ⟨u, [], rfl, by simpa [AVR] using h, rfl⟩
  | ptr g n =>
    have h' := h
    simp only [AVR] at h'
    obtain ⟨b, _, rfl⟩ := h'
    exact ⟨_, [], rfl, h, rfl⟩
  | fn f l =>
    have h' := h
    simp only [AVR] at h'
    obtain ⟨b, rfl, _⟩ := h'
    exact ⟨_, [], rfl, h, rfl⟩
  | agg l =>
    simp only [AVR] at h
    obtain ⟨us, rfl, h⟩ := h
    simpa [cellsA, Value.cells] using h
  | tup l =>
    have h' := h
    simp only [AVR] at h'
    obtain ⟨b, rfl, _⟩ := h'
    exact ⟨_, [], rfl, h, rfl⟩
theorem AVR.cell_one {x : AV} {u : Value} (h : AVR ι S w x u) (hk : x.cell = true) : u.oneCell' = true := by
  cases x with
  | v y => simp only [AVR] at h; subst h; exact hk
  | sem p => simp only [AVR] at h; exact p.one h
  | res g => simp only [AVR] at h; exact h.2
  | ptr g n => simp only [AVR] at h; obtain ⟨b, _, rfl⟩ := h; rfl
  | fn f l => simp only [AVR] at h; obtain ⟨b, rfl, _⟩ := h; rfl
  | agg l => cases hk
  | tup l => cases hk
theorem AVRs.cell_one : ∀ {l : List AV} {us : List Value}, AVRs ι S w l us → AV.cellL l = true → ∀ u ∈ us, u.oneCell' = true
  | [], us, h, _, u, hu => by simp only [AVRs] at h; subst h; cases hu
  | x :: l, us, h, hl, u, hu => by
    simp only [AVRs] at h
    obtain ⟨u0, r, rfl, h1, h2⟩ := h
    simp only [AV.cellL, Bool.and_eq_true] at hl
    rcases List.mem_cons.1 hu with rfl | hu
    · exact h1.cell_one hl.1
    · exact h2.cell_one hl.2 u hu
end
/-- A run of cells written over. -/
def spliceL {α : Type} (l : List α) (o : Nat) : List α → List α
  | [] => l
  | c :: cs => spliceL (l.set o c) (o + 1) cs
theorem spliceL_length {α : Type} : ∀ (cs : List α) (l : List α) (o : Nat), (spliceL l o cs).length = l.length
  | [], l, o => rfl
  | c :: cs, l, o => by rw [spliceL, spliceL_length cs]; simp
theorem spliceL_eq {α : Type} : ∀ (cs : List α) (l : List α) (o : Nat), o + cs.length ≤ l.length → spliceL l o cs = l.take o ++ cs ++ l.drop (o + cs.length)
  | [], l, o, _ => by simp [spliceL]
  | c :: cs, l, o, h => by
    rw [spliceL, spliceL_eq cs _ _ (by simp at h ⊢; omega)]
    have h' : o < l.length := by simp at h; omega
    apply List.ext_getElem?
    intro j
    simp only [List.getElem?_append, List.getElem?_take, List.getElem?_drop, List.length_append, List.length_take, List.length_set, List.getElem?_set, List.length_cons, List.append_assoc]
    have m1 : min o l.length = o := by omega
    have m2 : min (o + 1) l.length = o + 1 := by omega
    rw [m1, m2]
    by_cases h1 : j < o
    · simp [h1, show j < o + 1 by omega, show ¬ o = j by omega]
    · by_cases h2 : j = o
      · subst h2; simp [h']
      · simp only [show ¬ j < o + 1 by omega, if_false, h1, show ¬ o = j by omega]
        by_cases h3 : j - (o + 1) < cs.length
        · simp only [h3, if_true, show j - o < cs.length + 1 by omega]
          rw [show j - o = (j - (o + 1)) + 1 by omega, List.getElem?_cons_succ]
        · simp only [h3, if_false, show ¬ j - o < cs.length + 1 by omega]
          have : ¬ o = o + 1 + cs.length + (j - (o + 1) - cs.length) := by omega
          simp only [this, if_false]
          congr 1
          omega
theorem AVRs.splice {ι : Nat → Value} {S : Bl} {w : World} : ∀ {cs l : List AV} {us vs : List Value} {o : Nat}, AVRs ι S w l us → AVRs ι S w cs vs → AVRs ι S w (spliceL l o cs) (spliceL us o vs)
  | [], l, us, vs, o, h, h' => by
    simp only [AVRs] at h'
    subst h'
    exact h
  | c :: cs, l, us, vs, o, h, h' => by
    simp only [AVRs] at h'
    obtain ⟨v, vs', rfl, h1, h2⟩ := h'
    exact AVRs.splice (o := o + 1) (AVRs.set (i := o) h h1) h2

/-! ### Resources that turn -/
theorem SimW.butTurn {C : Cx} {r : List (Nat × RK)} {ι : Nat → Value} {F : Nat → Bl} {S : Bl} {w w' : World} (h : SimW C r ι F S w) {g : Nat} {x : RK} (hg : look r g = some x) (hx : x.live = true) (hb : But (F g) w w') : But C.D C.w0 w' :=
  ⟨hb.os.trans h.but.os, hb.tape.trans h.but.tape, hb.output.trans h.but.output, Nat.le_trans h.but.size hb.size, fun k hk hn => (hb.block k (Nat.lt_of_lt_of_le hk h.but.size) fun hf => (h.own g x hg hx k hf).elim (fun h1 => by omega) hn).trans (h.but.block k hk hn)⟩
/-- Resource g has turned in place. -/
theorem SimW.turn {C : Cx} {r : List (Nat × RK)} {ι : Nat → Value} {F : Nat → Bl} {S : Bl} {w w' : World} (h : SimW C r ι F S w) {g : Nat} {x x' : RK} (hg : look r g = some x) (hx : x.live = true) (hb : But (F g) w w')
    (hbx : ∀ T l, x' = .box T l → ∃ b, ι g = .pointer (some ⟨b, 0, none⟩) ∧ (∀ k, F g k ↔ k = b) ∧ ∃ cs : Array Value, w'.heap[b]? = some (.cells cs T (0, 0)) ∧ AVRs ι S w' l cs.toList)
    (hob : ∀ R, x' = .obj R → R.H w' S (F g) (ι g)) : SimW C ((g, x') :: r) ι F S w' ∧ Fut S w S w' := by
  have hF : Fut S w S w' := ⟨fun _ h => h, fun k hk hl => hb.block k hl fun hf => h.hs.out g x hg hx k hf hk⟩
  have key : ∀ n y, look ((g, x') :: r) n = some y → y.live = true → ∃ z, look r n = some z ∧ z.live = true := fun n y hn hy => by
    rw [look_cons] at hn
    by_cases e : g = n
    · subst e; exact ⟨x, hg, hx⟩
    · rw [if_neg e] at hn; exact ⟨y, hn, hy⟩
  refine ⟨⟨⟨fun n T l hn => ?_, fun n R hn => ?_, fun n n' y y' hn hn' hy hy' hne k hk => ?_, fun n y hn hy k hk => ?_, fun k hk => by have := h.hs.bnd k hk; have := hb.size; omega⟩, h.butTurn hg hx hb, fun n y hn hy k hk => ?_, h.sb, h.fut.trans hF h.but.size, h.keep⟩, hF⟩
  · rw [look_cons] at hn
    by_cases e : g = n
    · subst e
      rw [if_pos rfl] at hn
      cases hn
      exact hbx T l rfl
    · rw [if_neg e] at hn
      obtain ⟨b, h1, h2, cs, h3, h4⟩ := h.hs.bx n T l hn
      refine ⟨b, h1, h2, cs, ?_, h4.fut hF fun _ _ => rfl⟩
      rw [hb.block b (h.hs.lt hn rfl ((h2 b).2 rfl)) fun hf => h.hs.dis n g _ x hn hg rfl hx (Ne.symm e) b ((h2 b).2 rfl) hf]
      exact h3
  · rw [look_cons] at hn
    by_cases e : g = n
    · subst e
      rw [if_pos rfl] at hn
      cases hn
      exact hob R rfl
    · rw [if_neg e] at hn
      refine R.fut (fun _ h => h) (fun k hk hl => hb.block k hl fun hf => ?_) (h.hs.ob n R hn)
      rcases hk with hk | hk
      · exact h.hs.out g x hg hx k hf hk
      · exact h.hs.dis n g _ x hn hg rfl hx (Ne.symm e) k hk hf
  · obtain ⟨z, h1, h2⟩ := key n y hn hy
    obtain ⟨z', h1', h2'⟩ := key n' y' hn' hy'
    exact h.hs.dis n n' z z' h1 h1' h2 h2' hne k hk
  · obtain ⟨z, h1, h2⟩ := key n y hn hy
    exact h.hs.out n z h1 h2 k hk
  · obtain ⟨z, h1, h2⟩ := key n y hn hy
    exact h.own n z h1 h2 k hk
/-- Resource g is gone; its blocks may have turned. -/
theorem SimW.kill {C : Cx} {r : List (Nat × RK)} {ι : Nat → Value} {F : Nat → Bl} {S : Bl} {w w' : World} (h : SimW C r ι F S w) {g : Nat} {x : RK} (hg : look r g = some x) (hx : x.live = true) (hb : But (F g) w w') : SimW C ((g, .dead) :: r) ι F S w' ∧ Fut S w S w' :=
  h.turn hg hx hb (fun _ _ e => by cases e) (fun _ e => by cases e)

section
variable {C : Cx} {r : List (Nat × RK)} {o : Oper} {x y z : Operand} {V : AV} {ty : TypeId} {g : Nat}
theorem mem_one {g i : Nat} (h : i ∉ [g]) : i ≠ g := fun e => h (by simp [e])
theorem op_alloc {i : TyI} (g : Nat) (ho : o.op = .alloc ty) (hi : tyI C.P ty = some i) (hf : freshR g r = true) (h0 : look C.r0 g = none) : OpEff C r o [] (.ptr g 0) ((g, .box ty (i.zero.map .v)) :: r) [g] := fun ι F S w ρ hs hr => by
  obtain ⟨z, hz, hzc⟩ := run_zeroValue (P := C.P) hi w
  have hrun : (Instr.alloc ty true (.tuple #[])).run C.P w = .ok (.pointer (some ⟨w.heap.size, 0, none⟩)) (w.alloc (.cells z.cells ty)) := by
    simp [Instr.alloc, hz, newVar, newRow]
  have hb : Below w.heap.size w (w.alloc (.cells z.cells ty)) := (Below.refl _ _).alloc (Nat.le_refl _) _
  have hw := hs.same hb
  have hFut : Fut S w S (w.alloc (.cells z.cells ty)) := ⟨fun _ h => h, fun k _ hk => hb.block k hk⟩
  refine Does.value (v := .pointer (some ⟨w.heap.size, 0, none⟩)) (w' := w.alloc (.cells z.cells ty)) (by simp [execOp, ho, hrun]) ?_
  refine ⟨_, _, S, hw.add (g := g) (x := .box ty (i.zero.map .v)) (v := .pointer (some ⟨w.heap.size, 0, none⟩)) (G := fun k => k = w.heap.size) hf h0 (fun T l e => ?_) (fun R e => by cases e) (fun k hk => ?_) (fun k hk hS => ?_) (fun g' y hg' hy hne k hk hk' => ?_), hFut, fun j hj => newI_other (mem_one hj), ?_⟩
  · cases e
    refine ⟨_, rfl, fun _ => Iff.rfl, z.cells, heap_alloc_new w _, ?_⟩
    rw [hzc]
    generalize i.zero = zs
    induction zs with
    | nil => simp [AVRs]
    | cons u zs ih => exact ⟨u, zs, rfl, by simp [AVR], ih⟩
  · subst hk; exact .inl hs.but.size
  · subst hk; have := hs.hs.bnd _ hS; omega
  · subst hk'; have := hs.hs.lt hg' hy hk; omega
  · simp only [AVR]
    exact ⟨w.heap.size, by rw [newI_same]; simp [baseOf], rfl⟩
theorem op_box (g : Nat) (ho : o.op = .box ty x) (hk : okC V = true) (hf : freshR g r = true) (h0 : look C.r0 g = none) (hV : V.has g = false) : OpEff C r o [(x, V)] (.ptr g 0) ((g, .box ty (cellsA V)) :: r) [g] := fun ι F S w ρ hs hr => by
  have hx := hr (x, V) (by simp)
  have hrun : (Instr.box ty (ρ x)).run C.P w = .ok (.pointer (some ⟨w.heap.size, 0, none⟩)) (w.alloc (.cells (ρ x).cells ty)) := by
    simp [Instr.box, newVar, newRow]
  have hb : Below w.heap.size w (w.alloc (.cells (ρ x).cells ty)) := (Below.refl _ _).alloc (Nat.le_refl _) _
  have hw := hs.same hb
  have hFut : Fut S w S (w.alloc (.cells (ρ x).cells ty)) := ⟨fun _ h => h, fun k _ hk => hb.block k hk⟩
  refine Does.value (v := .pointer (some ⟨w.heap.size, 0, none⟩)) (w' := w.alloc (.cells (ρ x).cells ty)) (by simp [execOp, ho, hrun]) ?_
  refine ⟨_, _, S, hw.add (g := g) (x := .box ty (cellsA V)) (v := .pointer (some ⟨w.heap.size, 0, none⟩)) (G := fun k => k = w.heap.size) hf h0 (fun T l e => ?_) (fun R e => by cases e) (fun k hk => ?_) (fun k hk hS => ?_) (fun g' y hg' hy hne k hk hk' => ?_), hFut, fun j hj => newI_other (mem_one hj), ?_⟩
  · cases e
    refine ⟨_, rfl, fun _ => Iff.rfl, (ρ x).cells, heap_alloc_new w _, ?_⟩
    refine (cellsA_R hx hk).fut hFut fun i hi => newI_other fun e => ?_
    subst e
    have : V.has i = true := by
      cases V <;> simp_all [cellsA, AV.hasL, AV.has]
    rw [hV] at this
    cases this
  · subst hk; exact .inl hs.but.size
  · subst hk; have := hs.hs.bnd _ hS; omega
  · subst hk'; have := hs.hs.lt hg' hy hk; omega
  · simp only [AVR]
    exact ⟨w.heap.size, by rw [newI_same]; simp [baseOf], rfl⟩
theorem op_store_box {T' : TypeId} {l : List AV} {off : Nat} {i : TyI} (ho : o.op = .store ty x y) (hg : look r g = some (.box T' l)) (hi : tyI C.P ty = some i) (hk : okC V = true) (hc : AV.cellL (cellsA V) = true) (hl : (cellsA V).length = i.size) (hle : Nat.ble (off + i.size) l.length = true) : OpEff C r o [(x, .ptr g off), (y, V)] (.v undef) ((g, .box T' (spliceL l off (cellsA V))) :: r) [] := fun ι F S w ρ hs hr => by
  have hx := hr (x, .ptr g off) (by simp)
  have hy := hr (y, V) (by simp)
  simp only [AVR] at hx
  obtain ⟨b, hb, hx⟩ := hx
  obtain ⟨b', h1, h2, cs, h3, h4⟩ := hs.hs.bx g T' l hg
  rw [h1] at hb
  obtain rfl : b' = b := by simpa [baseOf] using hb
  have hle' := Nat.le_of_ble_eq_true hle
  have hv := cellsA_R hy hk
  have hvl := hv.length
  have hcl := h4.length
  have hone := hv.cell_one hc
  have hst := run_storeCells_at C.P b' off T' (ρ y).cells.toList 0 cs w h3 (by simp only [Array.length_toList] at hvl hcl ⊢; omega) hone
  rw [Nat.add_zero] at hst
  have hsz : (ρ y).cells.size = i.size := by simp only [Array.length_toList] at hvl; omega
  have hrun : (Instr.storeAt ty (ρ x) (ρ y)).run C.P w = .ok () (w.setRow b' (cs.toList.take off ++ (ρ y).cells.toList ++ cs.toList.drop (off + (ρ y).cells.toList.length)).toArray) := by
    rw [hx]
    simp only [Instr.storeAt, Instr.sureAddr, storeVar, Sem.run_bind, Sem.run_pure, Result.andThen_ok, run_sizeOf hi, hsz, ne_eq, not_true, if_false]
    exact hst
  rw [← spliceL_eq _ _ _ (by simp only [Array.length_toList] at hvl hcl ⊢; omega)] at hrun
  have hbut : But (F g) w (w.setRow b' (spliceL cs.toList off (ρ y).cells.toList).toArray) := ⟨rfl, rfl, rfl, by simp, fun k _ hn => setRow_other w b' k _ fun e => hn ((h2 k).2 e)⟩
  have hFut : Fut S w S (w.setRow b' (spliceL cs.toList off (ρ y).cells.toList).toArray) := ⟨fun _ h => h, fun k hk hl => hbut.block k hl fun hf => hs.hs.out g _ hg rfl k hf hk⟩
  obtain ⟨hw, _⟩ := hs.turn (x' := .box T' (spliceL l off (cellsA V))) hg rfl hbut (fun T l' e => by
    cases e
    exact ⟨b', h1, h2, _, setRow_heap w b' cs _ T' (0, 0) h3, by
      rw [List.toList_toArray]
      exact (h4.splice hv).fut hFut fun _ _ => rfl⟩) (fun R e => by cases e)
  refine Does.skip (w' := w.setRow b' (spliceL cs.toList off (ρ y).cells.toList).toArray) ?_ ⟨ι, F, S, hw, hFut, fun _ _ => rfl, by simp [AVR]⟩
  simp [execOp, ho, hrun]
/-- A row of the call's own, grown: g' is its name from now on. -/
theorem op_append {α : Type} {e : TypeId} {E : Enc α} {xs ys : List α} {i : TyI} (g' : Nat) (ho : o.op = .call { callee := .builtin .append, args := #[x, y], argTypes := #[ty, ty] }) (hg : look r g = some (.obj (ownS e E xs))) (hE : sliceE C.P ty = some e) (hi : tyI C.P e = some i) (hsz : i.size = E.sz) (hz : i.zero.length = E.sz) (h0 : 0 < E.sz) (hm : xs.length + ys.length ≤ 1000000) (hby : i.bytes ≤ 100000000) (hf : freshR g' r = true) (hr0 : look C.r0 g' = none) : OpEff C r o [(x, .res g), (y, .sem (listS E ys))] (.res g') ((g', .obj (ownS e E (xs ++ ys))) :: (g, .dead) :: r) [g'] := fun ι F S w ρ hs hr => by
  have hx := hr (x, .res g) (by simp)
  have hy := hr (y, .sem (listS E ys)) (by simp)
  simp only [AVR] at hx hy
  obtain ⟨A, c, hy, hc, hA⟩ := hy
  obtain ⟨⟨us, h1, h2⟩, h3⟩ := hs.hs.ob g _ hg
  obtain ⟨ti, d, z, t1, t2, t3, t4, t5, t6, t7⟩ := tyI_info hi
  have hu := sliceE_spec hE
  obtain ⟨vs, hvs, hR⟩ : ∃ vs, AVRs ι0 S w (E.all ys) vs ∧ Go.Proofs.YtpmeffdcbjakoaaDoor.Reads w w.heap.size E.sz A ys.length vs := by
    rcases hA with hA | ⟨b, off, rfl, hb, vs, v1, v2⟩
    · refine ⟨[], by rw [hA]; rfl, ?_⟩
      have := E.all_len ys
      rw [hA] at this
      have h0' : ys.length = 0 := by
        rcases Nat.eq_zero_or_pos ys.length with h | h
        · exact h
        · have h6 := Nat.mul_pos h h0
          rw [← this] at h6
          cases h6
      exact ⟨by rw [h0']; simp, fun hn => by omega⟩
    · refine ⟨vs, v1, by rw [v1.length, E.all_len], fun hn => ⟨_, rfl, hs.hs.bnd b hb, v2⟩⟩
  have hone := hvs.leaf_one (E.all_leaf ys)
  obtain ⟨v', w', hrun, a1, a2, a3⟩ := run_append_any (P := C.P) w 0 ty o.type e ti z E.sz i.bytes hu t1 t3 (by rw [t5, hsz]) t6 (by rw [← Array.length_toList, t7, hz]) h0 (ρ x) xs.length us (by rw [hx.1]; exact h1) w.heap.size A ys.length c vs hR hone (by unfold maxLen; omega) (by
    calc (xs.length + ys.length) * i.bytes ≤ 1000000 * 100000000 := Nat.mul_le_mul hm hby
      _ ≤ 140737488355328 := by decide) (Nat.zero_le _)
  have hbut : But (F g) w w' := ⟨a2.os, a2.tape, a2.output, a2.size, fun k hk hn => a2.block k hk fun e => hn ((h3 k).2 (by rw [← hx.1]; exact e.symm))⟩
  obtain ⟨hk, hFut⟩ := hs.kill hg rfl hbut
  have hrun' : (execOp ρ o).run C.P w = .ok (.value v') w' := by
    simp [execOp, ho, resolve, invoke, builtin, hy, hrun]
  have hfr : freshR g' ((g, RK.dead) :: r) = true := by simp [freshR, RK.has, hf]
  have hG : ∀ k, v'.ownBlock = some k → F g k ∨ k = w.heap.size := fun k hk => by
    rcases a3 with a3 | a3
    · exact .inl ((h3 k).2 (by rw [← hx.1, ← a3]; exact hk))
    · rw [a3] at hk; injection hk with hk; exact .inr hk.symm
  have hb2 : (ownS e E (xs ++ ys)).H w' S (fun k => v'.ownBlock = some k) v' := by
    refine ⟨⟨us ++ vs, by rw [List.length_append]; exact a1, by rw [E.all_append]; exact (h2.fut hFut fun _ _ => rfl).append (hvs.fut hFut fun _ _ => rfl)⟩, fun _ => Iff.rfl⟩
  refine Does.value hrun' ⟨_, _, S, hk.add (g := g') (x := .obj (ownS e E (xs ++ ys))) (v := v') (G := fun k => v'.ownBlock = some k) hfr hr0 (fun T l e => by cases e) (fun R e => by cases e; exact hb2) (fun k hk => ?_) (fun k hk hS => ?_) (fun n y hn hy hne k hk hk' => ?_), hFut, fun j hj => newI_other (mem_one hj), ?_⟩
  · rcases hG k hk with h | h
    · exact hs.own g _ hg rfl k h
    · subst h; exact .inl hs.but.size
  · rcases hG k hk with h | h
    · exact hs.hs.out g _ hg rfl k h hS
    · subst h; have := hs.hs.bnd _ hS; omega
  · rw [look_cons] at hn
    by_cases e1 : g = n
    · rw [if_pos e1] at hn; cases hn; cases hy
    · rw [if_neg e1] at hn
      rcases hG k hk' with h | h
      · exact hs.hs.dis n g y _ hn hg hy rfl (Ne.symm e1) k hk h
      · subst h; have := hs.hs.lt hn hy hk; omega
  · simp only [AVR, newI_same]
    exact ⟨trivial, (ownS e E (xs ++ ys)).one hb2⟩
end
end Go.Proofs.YtpmeffdcbjakoaaDoor
