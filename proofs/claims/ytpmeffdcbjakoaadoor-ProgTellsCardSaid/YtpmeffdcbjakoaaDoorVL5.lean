/- VL, part 5: the operations that leave the resources alone. -/
import Derived.Test.YtpmeffdcbjakoaaDoorVL4
import Derived.IntWalk
import Derived.Laws.Strings
namespace Go.Proofs.YtpmeffdcbjakoaaDoor
set_option linter.unusedVariables false
set_option linter.unusedSimpArgs false
open Go.RowKit

theorem Does.val {P : Program} {s : Go.Sem Value} {w w' : World} {u : Value} {K : Value → World → Prop} (hr : s.run P w = .ok u w') (h : K u w') : Does P (do pure (Next.value (← s))) w K := by
  refine Does.value (v := u) (w' := w') ?_ h
  simp [hr]
theorem OpPure.here {C : Cx} {r : List (Nat × RK)} {o : Oper} {rd : List (Operand × AV)} {V : AV} (h : ∀ ι F S w (ρ : Operand → Value), SimW C r ι F S w → (∀ p ∈ rd, AVR ι S w p.2 (ρ p.1)) → ∃ u, (execOp ρ o).run C.P w = .ok (.value u) w ∧ AVR ι S w V u) : OpPure C r o rd V := fun ι F S w ρ hs hr => by
  obtain ⟨u, h1, h2⟩ := h ι F S w ρ hs hr
  exact Does.value h1 ⟨S, hs, Fut.refl _ _, h2⟩

/-- What is asked of a struct's field: where it lies, how many cells it has, whether it is of several. -/
structure FldI where
  off : Nat
  size : Nat
  agg : Bool
def fldI (P : Program) (T : TypeId) (j : Nat) : Option FldI :=
  match P.underlying T with
  | some (.struct fs) =>
    match fs[j]? with
    | some f => match tyI P f.type with
      | some i => some ⟨f.offset, i.size, i.agg⟩
      | none => none
    | none => none
  | _ => none
theorem fldI_spec {P : Program} {T : TypeId} {j : Nat} {x : FldI} (h : fldI P T j = some x) : ∃ fs f i, P.underlying T = some (.struct fs) ∧ fs[j]? = some f ∧ tyI P f.type = some i ∧ f.offset = x.off ∧ i.size = x.size ∧ i.agg = x.agg := by
  unfold fldI at h
  split at h
  · rename_i fs h1
    split at h
    · rename_i f h2
      split at h
      · rename_i i h3
        cases h
        exact ⟨fs, f, i, h1, h2, h3, rfl, rfl, rfl⟩
      · cases h
    · cases h
  · cases h
def sliceE (P : Program) (T : TypeId) : Option TypeId :=
  match P.underlying T with
  | some (.slice e) => some e
  | _ => none
theorem sliceE_spec {P : Program} {T e : TypeId} (h : sliceE P T = some e) : P.underlying T = some (.slice e) := by
  unfold sliceE at h
  split at h
  · rename_i h1; cases h; exact h1
  · cases h

section
variable {C : Cx} {r : List (Nat × RK)} {o : Oper} {x y z : Operand} {V : AV} {ty : TypeId} {g : Nat}

theorem op_move (ho : o.op = .move x) : OpPure C r o [(x, V)] V := OpPure.here fun ι F S w ρ hs hr => ⟨ρ x, by simp [execOp, ho], hr (x, V) (by simp)⟩
theorem op_assign (ho : o.op = .assign x) : OpPure C r o [(x, V)] V := OpPure.here fun ι F S w ρ hs hr => ⟨ρ x, by simp [execOp, ho], hr (x, V) (by simp)⟩
theorem op_pick_t (ho : o.op = .pick x y z) : OpPure C r o [(x, .v (.bool true)), (y, V)] V := OpPure.here fun ι F S w ρ hs hr => by
  have h1 := hr (x, .v (.bool true)) (by simp)
  simp only [AVR] at h1
  exact ⟨ρ y, by simp [execOp, ho, h1, asBool], hr (y, V) (by simp)⟩
theorem op_pick_f (ho : o.op = .pick x y z) : OpPure C r o [(x, .v (.bool false)), (z, V)] V := OpPure.here fun ι F S w ρ hs hr => by
  have h1 := hr (x, .v (.bool false)) (by simp)
  simp only [AVR] at h1
  exact ⟨ρ z, by simp [execOp, ho, h1, asBool], hr (z, V) (by simp)⟩
theorem op_extract {l : List AV} {i : Nat} (ho : o.op = .extract x i) (hi : l[i]? = some V) : OpPure C r o [(x, .tup l)] V := OpPure.here fun ι F S w ρ hs hr => by
  have h1 := hr (x, .tup l) (by simp)
  simp only [AVR] at h1
  obtain ⟨us, h1, h2⟩ := h1
  obtain ⟨u, h3, h4⟩ := h2.get hi
  refine ⟨u, ?_, h4⟩
  have h3' : us.toArray[i]? = some u := by simpa using h3
  simp [execOp, ho, h1, Instr.extract, h3']
theorem op_not {b : Bool} (ho : o.op = .unOp .not ty x) : OpPure C r o [(x, .v (.bool b))] (.v (.bool (!b))) := OpPure.here fun ι F S w ρ hs hr => by
  have h1 := hr (x, .v (.bool b)) (by simp)
  simp only [AVR] at h1
  exact ⟨.bool (!b), by simp [execOp, ho, h1, Op.unary], by simp [AVR]⟩

section ints
variable {k : IntKind} {a b : Int} {ty' : TypeId}
theorem op_bin2 {op : BinOp} {u v q : Value} (ho : o.op = .binOp op ty x y ty') (hg : eqGuard op ty x y u v = pure ()) (hb : ∀ w, (binOp op ty u v).run C.P w = .ok q w) : OpPure C r o [(x, .v u), (y, .v v)] (.v q) := OpPure.here fun ι F S w ρ hs hr => by
  have h1 := hr (x, .v u) (by simp)
  have h2 := hr (y, .v v) (by simp)
  simp only [AVR] at h1 h2
  exact ⟨q, by simp [execOp, ho, h1, h2, hg, hb], by simp [AVR]⟩
theorem op_add (ho : o.op = .binOp .add ty x y ty') : OpPure C r o [(x, .v (.int k a)), (y, .v (.int k b))] (.v (.int k (k.wrap (a + b)))) := op_bin2 ho (eqGuard_at_int _ _ _ _ _ _ _) fun w => by simp [go_sem]
theorem op_sub (ho : o.op = .binOp .sub ty x y ty') : OpPure C r o [(x, .v (.int k a)), (y, .v (.int k b))] (.v (.int k (k.wrap (a - b)))) := op_bin2 ho (eqGuard_at_int _ _ _ _ _ _ _) fun w => by simp [go_sem]
theorem op_mul (ho : o.op = .binOp .mul ty x y ty') : OpPure C r o [(x, .v (.int k a)), (y, .v (.int k b))] (.v (.int k (k.wrap (a * b)))) := op_bin2 ho (eqGuard_at_int _ _ _ _ _ _ _) fun w => by simp [go_sem]
theorem op_eql (ho : o.op = .binOp .eql ty x y ty') : OpPure C r o [(x, .v (.int k a)), (y, .v (.int k b))] (.v (.bool (a == b))) := op_bin2 ho (eqGuard_at_int _ _ _ _ _ _ _) fun w => by simp [go_sem]
theorem op_neq (ho : o.op = .binOp .neq ty x y ty') : OpPure C r o [(x, .v (.int k a)), (y, .v (.int k b))] (.v (.bool (a != b))) := op_bin2 ho (eqGuard_at_int _ _ _ _ _ _ _) fun w => by simp [go_sem]
theorem op_lss (ho : o.op = .binOp .lss ty x y ty') : OpPure C r o [(x, .v (.int k a)), (y, .v (.int k b))] (.v (.bool (decide (a < b)))) := op_bin2 ho (eqGuard_at_int _ _ _ _ _ _ _) fun w => by simp [go_sem]
theorem op_leq (ho : o.op = .binOp .leq ty x y ty') : OpPure C r o [(x, .v (.int k a)), (y, .v (.int k b))] (.v (.bool (decide (a ≤ b)))) := op_bin2 ho (eqGuard_at_int _ _ _ _ _ _ _) fun w => by simp [go_sem]
theorem op_gtr (ho : o.op = .binOp .gtr ty x y ty') : OpPure C r o [(x, .v (.int k a)), (y, .v (.int k b))] (.v (.bool (decide (a > b)))) := op_bin2 ho (eqGuard_at_int _ _ _ _ _ _ _) fun w => by simp [go_sem]
theorem op_geq (ho : o.op = .binOp .geq ty x y ty') : OpPure C r o [(x, .v (.int k a)), (y, .v (.int k b))] (.v (.bool (decide (a ≥ b)))) := op_bin2 ho (eqGuard_at_int _ _ _ _ _ _ _) fun w => by simp [go_sem]
theorem op_neg (ho : o.op = .unOp .neg ty x) : OpPure C r o [(x, .v (.int k a))] (.v (.int k (k.wrap (-a)))) := OpPure.here fun ι F S w ρ hs hr => by
  have h1 := hr (x, .v (.int k a)) (by simp)
  simp only [AVR] at h1
  exact ⟨.int k (k.wrap (-a)), by simp [execOp, ho, h1, Op.unary, go_sem], by simp [AVR]⟩
theorem op_quo (ho : o.op = .binOp .quo ty x y ty') (ha : 0 ≤ a) (hb : 0 < b) : OpPure C r o [(x, .v (.int k a)), (y, .v (.int k b))] (.v (.int k (k.wrap (a / b)))) := op_bin2 ho (eqGuard_at_int _ _ _ _ _ _ _) fun w => by
  have : b ≠ 0 := by omega
  simp [go_sem, this, Int.tdiv_eq_ediv_of_nonneg ha]
theorem op_rem (ho : o.op = .binOp .rem ty x y ty') (ha : 0 ≤ a) (hb : 0 < b) : OpPure C r o [(x, .v (.int k a)), (y, .v (.int k b))] (.v (.int k (a % b))) := op_bin2 ho (eqGuard_at_int _ _ _ _ _ _ _) fun w => by
  have : b ≠ 0 := by omega
  simp [go_sem, this, Int.tmod_eq_emod_of_nonneg ha]
end ints
section others
variable {ty' : TypeId}
theorem op_eql_bool {a b : Bool} (ho : o.op = .binOp .eql ty x y ty') (ht : C.P.underlying ty = some .bool) : OpPure C r o [(x, .v (.bool a)), (y, .v (.bool b))] (.v (.bool (a == b))) := op_bin2 ho (eqGuard_at_bool _ _ _ _ _ _) fun w => run_eql_bool w ty a b ht
theorem op_neq_bool {a b : Bool} (ho : o.op = .binOp .neq ty x y ty') (ht : C.P.underlying ty = some .bool) : OpPure C r o [(x, .v (.bool a)), (y, .v (.bool b))] (.v (.bool (a != b))) := op_bin2 ho (eqGuard_at_bool _ _ _ _ _ _) fun w => run_neq_bool w ty a b ht
theorem bytes_beq (a b : ByteArray) : (a.toList == b.toList) = decide (a = b) := by
  rw [Bool.eq_iff_iff, beq_iff_eq, decide_eq_true_eq]
  refine ⟨fun h => ?_, fun h => by rw [h]⟩
  rw [ByteArray.toList_eq, ByteArray.toList_eq] at h
  exact ByteArray.ext (Array.ext' h)
theorem op_eql_str {a b : ByteArray} (ho : o.op = .binOp .eql ty x y ty') : OpPure C r o [(x, .v (.string a)), (y, .v (.string b))] (.v (.bool (decide (a = b)))) := op_bin2 ho (eqGuard_at_string _ _ _ _ _ _) fun w => by rw [binOp_string_eql, bytes_beq]; rfl
theorem op_neq_str {a b : ByteArray} (ho : o.op = .binOp .neq ty x y ty') : OpPure C r o [(x, .v (.string a)), (y, .v (.string b))] (.v (.bool (!decide (a = b)))) := op_bin2 ho (eqGuard_at_string _ _ _ _ _ _) fun w => by rw [binOp_string_neq, bytes_beq]; rfl
theorem op_add_str {a b : ByteArray} (ho : o.op = .binOp .add ty x y ty') (h : a.size + b.size ≤ 9223372036854775807) : OpPure C r o [(x, .v (.string a)), (y, .v (.string b))] (.v (.string (a ++ b))) := op_bin2 ho (eqGuard_at_string _ _ _ _ _ _) fun w => by rw [binOp_string_add]; exact run_string_add_sum w a b h

/-- A pointer that isn't nil. -/
def NN (r : List (Nat × RK)) (X : AV) : Prop := ∀ ι F S w u, HeapSim r ι F S w → AVR ι S w X u → ∃ a, u = .pointer (some a)
theorem NN.ptr {g off : Nat} : NN r (.ptr g off) := fun ι F S w u _ h => by
  simp only [AVR] at h
  obtain ⟨b, _, h⟩ := h
  exact ⟨_, h⟩
theorem NN.adr {l : List AV} : NN r (.sem (adrS l)) := fun ι F S w u _ h => by
  simp only [AVR] at h
  obtain ⟨b, off, h, _⟩ := h
  exact ⟨_, h⟩
theorem NN.box {T : TypeId} {l : List AV} (hg : look r g = some (.box T l)) : NN r (.res g) := fun ι F S w u hh h => by
  simp only [AVR] at h
  obtain ⟨b, hb, _⟩ := hh.bx g T l hg
  exact ⟨_, by rw [h.1, hb]⟩
def isPtr (P : Program) (T : TypeId) : Bool := match P.underlying T with | some (.pointer _) => true | _ => false
theorem isPtr_spec {P : Program} {T : TypeId} (h : isPtr P T = true) : P.underlying T = some (.pointer (P.pointee T)) := by
  unfold isPtr at h
  split at h
  · rename_i e he; rw [he]; simp [Program.pointee, he]
  · cases h
theorem op_eql_nil {X : AV} (ho : o.op = .binOp .eql ty x (.const (.pointer none)) ty') (ht : isPtr C.P ty = true) (hn : NN r X) : OpPure C r o [(x, X), (.const (.pointer none), .v (.pointer none))] (.v (.bool false)) := OpPure.here fun ι F S w ρ hs hr => by
  obtain ⟨a, ha⟩ := hn ι F S w _ hs.hs (hr (x, X) (by simp))
  have h2 := hr (.const (.pointer none), .v (.pointer none)) (by simp)
  simp only [AVR] at h2
  exact ⟨.bool false, by simp [execOp, ho, ha, h2, eqGuard_at_pointer, run_eql_pointer_nil w ty (some a) (isPtr_spec ht)], by simp [AVR]⟩
theorem op_neq_nil {X : AV} (ho : o.op = .binOp .neq ty x (.const (.pointer none)) ty') (ht : isPtr C.P ty = true) (hn : NN r X) : OpPure C r o [(x, X), (.const (.pointer none), .v (.pointer none))] (.v (.bool true)) := OpPure.here fun ι F S w ρ hs hr => by
  obtain ⟨a, ha⟩ := hn ι F S w _ hs.hs (hr (x, X) (by simp))
  have h2 := hr (.const (.pointer none), .v (.pointer none)) (by simp)
  simp only [AVR] at h2
  exact ⟨.bool true, by simp [execOp, ho, ha, h2, eqGuard_at_pointer, run_neq_pointer_nil w ty (some a) (isPtr_spec ht)], by simp [AVR]⟩
theorem op_nil_eql (ho : o.op = .binOp .eql ty x (.const (.pointer none)) ty') (ht : isPtr C.P ty = true) : OpPure C r o [(x, .v (.pointer none)), (.const (.pointer none), .v (.pointer none))] (.v (.bool true)) := op_bin2 ho (eqGuard_at_pointer _ _ _ _ _ _) fun w => run_eql_pointer_nil w ty none (isPtr_spec ht)
theorem op_nil_neq (ho : o.op = .binOp .neq ty x (.const (.pointer none)) ty') (ht : isPtr C.P ty = true) : OpPure C r o [(x, .v (.pointer none)), (.const (.pointer none), .v (.pointer none))] (.v (.bool false)) := op_bin2 ho (eqGuard_at_pointer _ _ _ _ _ _) fun w => run_neq_pointer_nil w ty none (isPtr_spec ht)
theorem op_nilCheck (ho : o.op = .nilCheck x) (hn : NN r V) : OpPure C r o [(x, V)] V := OpPure.here fun ι F S w ρ hs hr => by
  have h1 := hr (x, V) (by simp)
  obtain ⟨a, ha⟩ := hn ι F S w _ hs.hs h1
  exact ⟨ρ x, by simp [execOp, ho, ha], h1⟩

/-! ### Addresses -/
theorem add_add (b off i j : Nat) : ((⟨b, off, none⟩ : Addr).add i).add j = (⟨b, off, none⟩ : Addr).add (i + j) := add_of_add _ _ _
theorem run_fieldAt {P : Program} {T : TypeId} {j : Nat} {fl : FldI} (hf : fldI P T j = some fl) (h0 : fl.size ≠ 0) (w : World) (a : Addr) : (Instr.fieldAt T (.pointer (some a)) j).run P w = .ok (.pointer (some (a.add fl.off))) w := by
  obtain ⟨fs, f, i, h1, h2, h3, h4, h5, h6⟩ := fldI_spec hf
  simp [Instr.fieldAt, run_underlying h1, h2, Instr.sureAddr, fieldPlace, run_sizeOf h3, h5, h0, h4]
theorem op_fieldAddr_ptr {j off : Nat} {fl : FldI} (ho : o.op = .fieldAddr ty x j) (hf : fldI C.P ty j = some fl) (h0 : fl.size ≠ 0) : OpPure C r o [(x, .ptr g off)] (.ptr g (off + fl.off)) := OpPure.here fun ι F S w ρ hs hr => by
  have h1 := hr (x, .ptr g off) (by simp)
  simp only [AVR] at h1 ⊢
  obtain ⟨b, hb, h1⟩ := h1
  exact ⟨.pointer (some ⟨b, off + fl.off, none⟩), by simp [execOp, ho, h1, run_fieldAt hf h0, Addr.add_lit], b, hb, rfl⟩
theorem op_fieldAddr_adr {j : Nat} {l : List AV} {fl : FldI} (ho : o.op = .fieldAddr ty x j) (hf : fldI C.P ty j = some fl) (h0 : fl.size ≠ 0) : OpPure C r o [(x, .sem (adrS l))] (.sem (adrS (l.drop fl.off))) := OpPure.here fun ι F S w ρ hs hr => by
  have h1 := hr (x, .sem (adrS l)) (by simp)
  simp only [AVR] at h1 ⊢
  obtain ⟨b, off, h1, hb, us, h2, h3⟩ := h1
  refine ⟨.pointer (some ((⟨b, off, none⟩ : Addr).add fl.off)), by simp [execOp, ho, h1, run_fieldAt hf h0], b, off + fl.off, by rw [Addr.add_lit], hb, us.drop fl.off, h2.drop _, fun i u hu => ?_⟩
  rw [← Addr.add_lit, add_add]
  exact h3 _ u (by rw [← hu, List.getElem?_drop])
theorem op_load_box {T' : TypeId} {l : List AV} {off : Nat} {i : TyI} (ho : o.op = .load ty x) (hg : look r g = some (.box T' l)) (hi : tyI C.P ty = some i) (h1 : i.agg = false → i.size = 1) (hle : Nat.ble (off + i.size) l.length = true) (hp : packA i.agg ((l.drop off).take i.size) = some V) : OpPure C r o [(x, .ptr g off)] V := OpPure.here fun ι F S w ρ hs hr => by
  have hx := hr (x, .ptr g off) (by simp)
  simp only [AVR] at hx
  obtain ⟨b, hb, hx⟩ := hx
  obtain ⟨b', us, hb', hv, hc, hl⟩ := box_cells hs.hs (o := off) (n := i.size) hg
  rw [hb'] at hb
  obtain rfl : b' = b := by simpa [baseOf] using hb
  have hld := run_loadVar hi h1 (hl (Nat.le_of_ble_eq_true hle)) hc
  exact ⟨packV i.agg us, by simp [execOp, ho, hx, Instr.loadAt, Instr.sureAddr, hld], packA_R hv hp⟩
theorem op_load_adr {l : List AV} {i : TyI} (ho : o.op = .load ty x) (hi : tyI C.P ty = some i) (h1 : i.agg = false → i.size = 1) (hle : Nat.ble i.size l.length = true) (hp : packA i.agg (l.take i.size) = some V) (hl0 : AV.leaves l = true) : OpPure C r o [(x, .sem (adrS l))] V := OpPure.here fun ι F S w ρ hs hr => by
  have hx := hr (x, .sem (adrS l)) (by simp)
  simp only [AVR] at hx
  obtain ⟨b, off, hx, hb, us, h2, h3⟩ := hx
  have hlen := h2.length
  have hle' := Nat.le_of_ble_eq_true hle
  have hld := run_loadVar (w := w) (a := ⟨b, off, none⟩) (us := us.take i.size) hi h1 (by rw [List.length_take]; omega) (fun j u hu => h3 j u (by
    rw [List.getElem?_take] at hu
    split at hu
    · exact hu
    · cases hu))
  exact ⟨packV i.agg (us.take i.size), by simp [execOp, ho, hx, Instr.loadAt, Instr.sureAddr, hld], packA_R ((h2.leaf_any hl0).take _) hp⟩
theorem own_cells {α : Type} {e : TypeId} {E : Enc α} {xs : List α} {ι : Nat → Value} {F : Nat → Bl} {S : Bl} {w : World} (h : HeapSim r ι F S w) (hg : look r g = some (.obj (ownS e E xs))) {j : Nat} {y : α} (hj : xs[j]? = some y) : ∃ b cap us, ι g = .slice (some ⟨b, 0, none⟩) xs.length cap ∧ xs.length ≤ cap ∧ AVRs ι S w (E.f y) us ∧ us.length = E.sz ∧ ∀ i u, us[i]? = some u → w.cell? ⟨b, j * E.sz + i, none⟩ = some u := by
  obtain ⟨⟨us, h1, h2⟩, h3⟩ := h.ob g _ hg
  have hlt := (List.getElem?_eq_some_iff.1 hj).1
  rcases h1.2 with ⟨_, h0⟩ | ⟨b, cap, cur, hv, _, hh, hn, _⟩
  · omega
  · have hc := h1.cells (g := b) (by rw [hv]; rfl)
    have hA := (h2.drop (j * E.sz)).take E.sz
    rw [E.all_at hj] at hA
    have hlen := hA.length
    rw [E.len] at hlen
    refine ⟨b, cap, _, hv, hn, hA.leaf_any (E.leaf y), hlen, fun i u hu => ?_⟩
    rw [List.getElem?_take] at hu
    split at hu
    · rw [List.getElem?_drop] at hu
      have := hc _ u hu
      rwa [Addr.add_lit, Nat.zero_add] at this
    · cases hu
theorem op_load_own {α : Type} {e : TypeId} {E : Enc α} {xs : List α} {off j f : Nat} {y : α} {i : TyI} (ho : o.op = .load ty x) (hg : look r g = some (.obj (ownS e E xs))) (hoff : off = j * E.sz + f) (hj : xs[j]? = some y) (hi : tyI C.P ty = some i) (h1 : i.agg = false → i.size = 1) (hle : f + i.size ≤ E.sz) (hp : packA i.agg (((E.f y).drop f).take i.size) = some V) : OpPure C r o [(x, .ptr g off)] V := OpPure.here fun ι F S w ρ hs hr => by
  have hx := hr (x, .ptr g off) (by simp)
  simp only [AVR] at hx
  obtain ⟨b, hb, hx⟩ := hx
  obtain ⟨b', cap, us, hv, _, h2, h3, h4⟩ := own_cells hs.hs hg hj
  rw [hv] at hb
  obtain rfl : b' = b := by simpa [baseOf] using hb
  have hld := run_loadVar (w := w) (a := ⟨b', off, none⟩) (us := (us.drop f).take i.size) hi h1 (by rw [List.length_take, List.length_drop]; omega) (fun n u hu => by
    rw [List.getElem?_take] at hu
    split at hu
    · rw [List.getElem?_drop] at hu
      have := h4 _ u hu
      rw [Addr.add_lit, hoff, Nat.add_assoc]
      exact this
    · cases hu)
  exact ⟨packV i.agg ((us.drop f).take i.size), by simp [execOp, ho, hx, Instr.loadAt, Instr.sureAddr, hld], packA_R ((h2.drop _).take _) hp⟩

/-! ### Slices -/
theorem sliceE_elem {P : Program} {T e : TypeId} (h : sliceE P T = some e) : P.underlying T = some (.slice (P.elem T)) ∧ P.elem T = e := by
  have h1 := sliceE_spec h
  have : P.elem T = e := by simp [Program.elem, h1]
  exact ⟨by rw [this]; exact h1, this⟩
theorem op_index_list {α : Type} {E : Enc α} {xs : List α} {k : IntKind} {m : Int} {el : α} {e : TypeId} {i : TyI} (ho : o.op = .indexAddr ty x y) (hE : sliceE C.P ty = some e) (hi : tyI C.P e = some i) (hsz : i.size = E.sz) (h0 : 0 ≤ m) (hy : xs[m.toNat]? = some el) (hne : 0 < E.sz) : OpPure C r o [(x, .sem (listS E xs)), (y, .v (.int k m))] (.sem (adrS (E.f el))) := OpPure.here fun ι F S w ρ hs hr => by
  have hx := hr (x, .sem (listS E xs)) (by simp)
  have hm := hr (y, .v (.int k m)) (by simp)
  simp only [AVR] at hx hm ⊢
  obtain ⟨A, c, hx, hc, hA⟩ := hx
  obtain ⟨hu, hel⟩ := sliceE_elem hE
  have hlt := (List.getElem?_eq_some_iff.1 hy).1
  rcases hA with hA | ⟨b, off, rfl, hb, us, h1, h2⟩
  · have h3 := E.all_len xs
    rw [hA] at h3
    have : 0 < xs.length * E.sz := Nat.mul_pos (by omega) hne
    simp at h3
    omega
  · have hrun : (Instr.indexAt ty (.slice (some ⟨b, off, none⟩) xs.length c) (.int k m)).run C.P w = .ok (.pointer (some ((⟨b, off, none⟩ : Addr).add (m.toNat * E.sz)))) w := by
      rw [run_indexAt_slice _ _ _ _ _ _ _ hu, if_pos (by omega), hel, run_sizeOf hi, hsz]; rfl
    refine ⟨.pointer (some ((⟨b, off, none⟩ : Addr).add (m.toNat * E.sz))), by simp [execOp, ho, hx, hm, hrun], b, off + m.toNat * E.sz, by rw [Addr.add_lit], hb, (us.drop (m.toNat * E.sz)).take E.sz, ?_, fun j u hu => ?_⟩
    · have := (h1.drop (m.toNat * E.sz)).take E.sz
      rwa [E.all_at hy] at this
    · rw [List.getElem?_take] at hu
      split at hu
      · rw [List.getElem?_drop] at hu
        rw [← Addr.add_lit, add_add]
        exact h2 _ u hu
      · cases hu
theorem op_index_own {α : Type} {e' : TypeId} {E : Enc α} {xs : List α} {k : IntKind} {m : Int} {e : TypeId} {i : TyI} (ho : o.op = .indexAddr ty x y) (hg : look r g = some (.obj (ownS e' E xs))) (hE : sliceE C.P ty = some e) (hi : tyI C.P e = some i) (hsz : i.size = E.sz) (h0 : 0 ≤ m) (hlt : m.toNat < xs.length) : OpPure C r o [(x, .res g), (y, .v (.int k m))] (.ptr g (m.toNat * E.sz)) := OpPure.here fun ι F S w ρ hs hr => by
  have hx := hr (x, .res g) (by simp)
  have hm := hr (y, .v (.int k m)) (by simp)
  simp only [AVR] at hx hm ⊢
  obtain ⟨b, cap, us, hv, hcap, _⟩ := own_cells hs.hs hg (List.getElem?_eq_getElem hlt)
  obtain ⟨hu, hel⟩ := sliceE_elem hE
  have hrun : (Instr.indexAt ty (.slice (some ⟨b, 0, none⟩) xs.length cap) (.int k m)).run C.P w = .ok (.pointer (some ((⟨b, 0, none⟩ : Addr).add (m.toNat * E.sz)))) w := by
    rw [run_indexAt_slice _ _ _ _ _ _ _ hu, if_pos (by omega), hel, run_sizeOf hi, hsz]; rfl
  refine ⟨.pointer (some ((⟨b, 0, none⟩ : Addr).add (m.toNat * E.sz))), by simp [execOp, ho, hx.1, hv, hm, hrun], b, by rw [hv]; simp [baseOf], by rw [Addr.add_lit, Nat.zero_add]⟩
theorem op_len_list {α : Type} {E : Enc α} {xs : List α} {e : TypeId} (ho : o.op = .call { callee := .builtin .len, args := #[x], argTypes := #[ty] }) (hE : sliceE C.P ty = some e) : OpPure C r o [(x, .sem (listS E xs))] (.v (.int .i64 xs.length)) := OpPure.here fun ι F S w ρ hs hr => by
  have hx := hr (x, .sem (listS E xs)) (by simp)
  simp only [AVR] at hx ⊢
  obtain ⟨A, c, hx, hc, hA⟩ := hx
  obtain ⟨hu, hel⟩ := sliceE_elem hE
  exact ⟨.int .i64 xs.length, by simp [execOp, ho, resolve, invoke, builtin, hx, run_len_slice _ _ _ _ _ _ hu, goInt], rfl⟩
theorem op_len_own {α : Type} {e' : TypeId} {E : Enc α} {xs : List α} {e : TypeId} (ho : o.op = .call { callee := .builtin .len, args := #[x], argTypes := #[ty] }) (hg : look r g = some (.obj (ownS e' E xs))) (hE : sliceE C.P ty = some e) : OpPure C r o [(x, .res g)] (.v (.int .i64 xs.length)) := OpPure.here fun ι F S w ρ hs hr => by
  have hx := hr (x, .res g) (by simp)
  simp only [AVR] at hx ⊢
  obtain ⟨⟨us, h1, h2⟩, h3⟩ := hs.hs.ob g _ hg
  obtain ⟨hu, hel⟩ := sliceE_elem hE
  rcases h1.2 with ⟨hv, h0⟩ | ⟨b, cap, cur, hv, _⟩
  · exact ⟨.int .i64 xs.length, by simp [execOp, ho, resolve, invoke, builtin, hx.1, hv, run_len_slice _ _ _ _ _ _ hu, goInt, h0], rfl⟩
  · exact ⟨.int .i64 xs.length, by simp [execOp, ho, resolve, invoke, builtin, hx.1, hv, run_len_slice _ _ _ _ _ _ hu, goInt], rfl⟩
theorem op_len_nil {e : TypeId} (ho : o.op = .call { callee := .builtin .len, args := #[x], argTypes := #[ty] }) (hE : sliceE C.P ty = some e) : OpPure C r o [(x, .v (.slice none 0 0))] (.v (.int .i64 0)) := OpPure.here fun ι F S w ρ hs hr => by
  have hx := hr (x, .v (.slice none 0 0)) (by simp)
  simp only [AVR] at hx ⊢
  obtain ⟨hu, hel⟩ := sliceE_elem hE
  exact ⟨.int .i64 0, by simp [execOp, ho, resolve, invoke, builtin, hx, run_len_slice _ _ _ _ _ _ hu, goInt], rfl⟩
/-- nil is any empty list. -/
theorem nil_list {α : Type} (E : Enc α) : ∀ ι F S w u, SimW C r ι F S w → AVR ι S w (.v (.slice none 0 0)) u → AVR ι S w (.sem (listS E ([] : List α))) u := fun ι F S w u _ h => by
  simp only [AVR] at h ⊢
  subst h
  exact ⟨none, 0, rfl, by simp, .inl rfl⟩
theorem op_len_str {s : ByteArray} (ho : o.op = .call { callee := .builtin .len, args := #[x], argTypes := #[ty] }) (ht : C.P.underlying ty = some .string) : OpPure C r o [(x, .v (.string s))] (.v (.int .i64 s.size)) := OpPure.here fun ι F S w ρ hs hr => by
  have hx := hr (x, .v (.string s)) (by simp)
  simp only [AVR] at hx ⊢
  exact ⟨.int .i64 s.size, by simp [execOp, ho, resolve, invoke, builtin, hx, Builtin.len_, run_underlying ht, goInt], rfl⟩
/-- A cut of a list. -/
theorem cut_row {α : Type} {E : Enc α} {xs : List α} {w : World} {S : Bl} {A : Option Addr} {c l h : Nat} (hA : RowAt w S A (E.all xs)) (hc : xs.length ≤ c) (hl : l ≤ h) (hh : h ≤ xs.length) : RowAt w S (if c = l then A else A.map (·.add (l * E.sz))) (E.all ((xs.take h).drop l)) := by
  by_cases e : c = l
  · left
    rw [List.drop_of_length_le (by rw [List.length_take]; omega)]
    rfl
  · rw [if_neg e]
    rcases hA with hA | ⟨b, off, rfl, hb, us, h1, h2⟩
    · have h3 := E.all_len xs
      rw [hA] at h3
      by_cases hz : E.sz = 0
      · left
        have h4 := E.all_len ((xs.take h).drop l)
        rw [hz, Nat.mul_zero] at h4
        exact List.eq_nil_of_length_eq_zero h4
      · have : xs.length = 0 := by
          rcases Nat.eq_zero_or_pos xs.length with h | h
          · exact h
          · have := Nat.mul_pos h (Nat.pos_of_ne_zero hz)
            simp at h3
            omega
        left
        rw [List.eq_nil_of_length_eq_zero this]
        simp [Enc.all]
    · right
      have e1 : E.all ((xs.take h).drop l) = ((E.all xs).drop (l * E.sz)).take ((h - l) * E.sz) := by
        have e2 : xs = xs.take l ++ ((xs.take h).drop l ++ xs.drop h) := by
          rw [← List.append_assoc]
          have : xs.take l = (xs.take h).take l := by rw [List.take_take, Nat.min_eq_left hl]
          rw [this, List.take_append_drop, List.take_append_drop]
        have l1 : (E.all (xs.take l)).length = l * E.sz := by rw [E.all_len, List.length_take, Nat.min_eq_left (by omega)]
        have l2 : (E.all ((xs.take h).drop l)).length = (h - l) * E.sz := by rw [E.all_len, List.length_drop, List.length_take, Nat.min_eq_left hh]
        conv => rhs; rw [e2, E.all_append, E.all_append]
        rw [← l1, List.drop_left, ← l2, List.take_left]
      refine ⟨b, off + l * E.sz, by simp [Addr.add_lit], hb, (us.drop (l * E.sz)).take ((h - l) * E.sz), by rw [e1]; exact (h1.drop _).take _, fun j u hu => ?_⟩
      rw [List.getElem?_take] at hu
      split at hu
      · rw [List.getElem?_drop] at hu
        rw [← Addr.add_lit, add_add]
        exact h2 _ u hu
      · cases hu
theorem op_slice_h {α : Type} {E : Enc α} {xs : List α} {k : IntKind} {m : Int} {e : TypeId} {i : TyI} (ho : o.op = .slice ty x none (some y) none) (hE : sliceE C.P ty = some e) (hi : tyI C.P e = some i) (hsz : i.size = E.sz) (h0 : 0 ≤ m) (hm : m ≤ xs.length) : OpPure C r o [(x, .sem (listS E xs)), (y, .v (.int k m))] (.sem (listS E (xs.take m.toNat))) := OpPure.here fun ι F S w ρ hs hr => by
  have hx := hr (x, .sem (listS E xs)) (by simp)
  have hv := hr (y, .v (.int k m)) (by simp)
  simp only [AVR] at hx hv ⊢
  obtain ⟨A, c, hx, hc, hA⟩ := hx
  have hu := sliceE_spec hE
  have hh : m.toNat ≤ xs.length := by omega
  have hlen : (xs.take m.toNat).length = m.toNat := by rw [List.length_take, Nat.min_eq_left hh]
  have hmc : m ≤ (c : Int) := by omega
  have hcut := cut_row hA hc (Nat.zero_le m.toNat) hh
  rw [Nat.zero_mul, List.drop_zero] at hcut
  refine ⟨.slice (if c = 0 then A else A.map (·.add 0)) m.toNat c, ?_, if c = 0 then A else A.map (·.add 0), c, by rw [hlen], by omega, hcut⟩
  simp [execOp, ho, Instr.sliceAt, run_underlying hu, hx, hv, Instr.slice, Instr.sliceBounds, Instr.sliceBound, asIntOf, h0, hmc, run_sizeOf hi, hsz]
theorem op_slice_l {α : Type} {E : Enc α} {xs : List α} {k : IntKind} {m : Int} {e : TypeId} {i : TyI} (ho : o.op = .slice ty x (some y) none none) (hE : sliceE C.P ty = some e) (hi : tyI C.P e = some i) (hsz : i.size = E.sz) (h0 : 0 ≤ m) (hm : m ≤ xs.length) : OpPure C r o [(x, .sem (listS E xs)), (y, .v (.int k m))] (.sem (listS E (xs.drop m.toNat))) := OpPure.here fun ι F S w ρ hs hr => by
  have hx := hr (x, .sem (listS E xs)) (by simp)
  have hv := hr (y, .v (.int k m)) (by simp)
  simp only [AVR] at hx hv ⊢
  obtain ⟨A, c, hx, hc, hA⟩ := hx
  have hu := sliceE_spec hE
  have hh : m.toNat ≤ xs.length := by omega
  have hlen : (xs.drop m.toNat).length = xs.length - m.toNat := by rw [List.length_drop]
  have hcut := cut_row hA hc hh (Nat.le_refl _)
  rw [List.take_length] at hcut
  refine ⟨.slice (if c = m.toNat then A else A.map (·.add (m.toNat * E.sz))) (xs.length - m.toNat) (c - m.toNat), ?_, _, c - m.toNat, by rw [hlen], by omega, hcut⟩
  simp [execOp, ho, Instr.sliceAt, run_underlying hu, hx, hv, Instr.slice, Instr.sliceBounds, Instr.sliceBound, asIntOf, h0, hm, run_sizeOf hi, hsz]
end others
end
end Go.Proofs.YtpmeffdcbjakoaaDoor
