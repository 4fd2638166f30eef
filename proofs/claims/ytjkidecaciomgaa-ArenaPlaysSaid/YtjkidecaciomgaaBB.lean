/- VL7, VL8, VL9, Ty, VL10. -/
import Derived.Test.YtjkidecaciomgaaBA
import Derived.Test.YtjkidecaciomgaaProg
import Derived.KernelRfl
import Derived.Lib.SliceRun
/- VL, part 7: values built, calls. -/
namespace Go.Proofs.Ytjkidecaciomgaa
set_option linter.unusedVariables false
set_option linter.unusedSimpArgs false
open Go.RowKit

/-! ### Structs and literals -/
def fillA (place : Nat → Option (Nat × Nat)) (l : List AV) : List (Nat × AV) → Option (List AV)
  | [] => some l
  | p :: r => match place p.1 with
    | none => none
    | some q => bif (Nat.beq (cellsA p.2).length q.2 && Nat.ble (q.1 + (cellsA p.2).length) l.length && okC p.2) then fillA place (spliceL l q.1 (cellsA p.2)) r else none
theorem foldl_splice : ∀ (cs : List Value) (n : Nat) (a : Array Value) (off : Nat), (cs.zipIdx n).foldl (fun (a : Array Value) (p : Value × Nat) => a.setIfInBounds (off + p.2) p.1) a = (spliceL a.toList (off + n) cs).toArray
  | [], n, a, off => by simp [spliceL]
  | c :: cs, n, a, off => by
    rw [List.zipIdx_cons, List.foldl_cons, foldl_splice cs (n + 1)]
    simp only [spliceL]
    congr 2
    simp
def FlR (ι : Nat → Value) (S : Bl) (w : World) : List (Nat × AV) → List (Nat × Value) → Prop
  | [], vs => vs = []
  | p :: ps, vs => ∃ v r, vs = v :: r ∧ p.1 = v.1 ∧ AVR ι S w p.2 v.2 ∧ FlR ι S w ps r
theorem fillA_R {ι : Nat → Value} {S : Bl} {w : World} {place : Nat → Option (Nat × Nat)} : ∀ {ps : List (Nat × AV)} {l l' : List AV} {us : List Value} {vs : List (Nat × Value)}, fillA place l ps = some l' → AVRs ι S w l us → FlR ι S w ps vs → ∃ us', Instr.fill place us.toArray vs = some us'.toArray ∧ AVRs ι S w l' us'
  | [], l, l', us, vs, h, hl, hp => by
    simp only [FlR] at hp
    subst hp
    simp only [fillA] at h
    cases h
    exact ⟨us, rfl, hl⟩
  | p :: ps, l, l', us, vs, h, hl, hp => by
    simp only [FlR] at hp
    obtain ⟨v, vs, rfl, h1a, h1b, h2⟩ := hp
    · have h1 : p.1 = v.1 ∧ AVR ι S w p.2 v.2 := ⟨h1a, h1b⟩
      simp only [fillA] at h
      cases hq : place p.1 with
      | none => simp [hq] at h
      | some q =>
        simp only [hq] at h
        cases hc : (Nat.beq (cellsA p.2).length q.2 && Nat.ble (q.1 + (cellsA p.2).length) l.length && okC p.2) with
        | false => rw [hc] at h; cases h
        | true =>
          rw [hc, cond_true] at h
          simp only [Bool.and_eq_true] at hc
          obtain ⟨⟨c1, c2⟩, c3⟩ := hc
          have c1 := Nat.eq_of_beq_eq_true c1
          have c2 := Nat.le_of_ble_eq_true c2
          have hv := cellsA_R h1.2 c3
          have hvl := hv.length
          obtain ⟨us', e1, e2⟩ := fillA_R h (hl.splice (o := q.1) hv) h2
          refine ⟨us', ?_, e2⟩
          obtain ⟨i, u⟩ := v
          have hi : p.1 = i := h1.1
          rw [hi] at hq
          obtain ⟨off, sz⟩ := q
          have hll := hl.length
          have hus : u.cells.size = (cellsA p.2).length := by rw [← hvl, Array.length_toList]
          simp only at c1 c2
          have hcond : ¬ (decide (u.cells.size ≠ sz) || decide (off + u.cells.size > us.toArray.size)) = true := by
            rw [hus, List.size_toArray, hll]
            simp only [Bool.or_eq_true, decide_eq_true_eq]
            omega
          have hff : (u.cells.zipIdx.foldl (fun cs (p : Value × Nat) => cs.setIfInBounds (off + p.2) p.1) us.toArray) = (spliceL us off u.cells.toList).toArray := by
            have hz := foldl_splice u.cells.toList 0 us.toArray off
            rw [Nat.add_zero] at hz
            rw [List.toList_toArray] at hz
            rw [← hz, ← Array.foldl_toList]
            congr 1
            simp
          have step : Instr.fill place us.toArray ((i, u) :: vs) = Instr.fill place (u.cells.zipIdx.foldl (fun cs (p : Value × Nat) => cs.setIfInBounds (off + p.2) p.1) us.toArray) vs := by
            simp only [Instr.fill, hq, if_neg hcond]
          rw [step, hff]
          exact e1
def placesI (P : Program) (T : TypeId) : Option (List (Nat × Nat)) :=
  match P.underlying T with
  | some (.struct fs) => fs.toList.mapM (fun f => (P.info? f.type).map fun i => (f.offset, i.size))
  | _ => none
theorem placesI_spec {P : Program} {T : TypeId} {pl : List (Nat × Nat)} (h : placesI P T = some pl) : ∃ fs, P.underlying T = some (.struct fs) ∧ fs.toList.mapM (fun f => (P.info? f.type).map fun i => (f.offset, i.size)) = some pl := by
  unfold placesI at h
  split at h
  · rename_i fs h1; exact ⟨fs, h1, h⟩
  · cases h
def zipRd : List (Nat × Operand) → List AV → List (Operand × AV)
  | p :: ps, a :: l => (p.2, a) :: zipRd ps l
  | _, _ => []
def zipFl : List (Nat × Operand) → List AV → List (Nat × AV)
  | p :: ps, a :: l => (p.1, a) :: zipFl ps l
  | _, _ => []
theorem zip_R {ι : Nat → Value} {S : Bl} {w : World} {ρ : Operand → Value} : ∀ {ps : List (Nat × Operand)} {l : List AV}, ps.length = l.length → (∀ q ∈ zipRd ps l, AVR ι S w q.2 (ρ q.1)) → FlR ι S w (zipFl ps l) (ps.map fun p => (p.1, ρ p.2))
  | [], [], _, _ => rfl
  | p :: ps, a :: l, hl, h => by
    refine ⟨_, _, rfl, rfl, h (p.2, a) (by simp [zipRd]), (zip_R (by simpa using hl) fun q hq => h q (by simp [zipRd, hq]))⟩
  | [], _ :: _, hl, _ => by simp at hl
  | _ :: _, [], hl, _ => by simp at hl
section
variable {C : Cx} {r : List (Nat × RK)} {o : Oper} {x y z : Operand} {V : AV} {ty : TypeId} {g : Nat}
theorem AVRs_v {ι : Nat → Value} {S : Bl} {w : World} : ∀ zs : List Value, AVRs ι S w (zs.map .v) zs
  | [] => rfl
  | u :: zs => ⟨u, zs, rfl, by simp [AVR], AVRs_v zs⟩
theorem op_build {ps : List (Nat × Operand)} {pl : List (Nat × Nat)} {i : TyI} (l : List AV) {l' : List AV} (ho : o.op = .build ty ps.toArray) (hpl : placesI C.P ty = some pl) (hi : tyI C.P ty = some i) (hlen : ps.length = l.length) (hf : fillA (fun n => pl[n]?) (i.zero.map .v) (zipFl ps l) = some l') : OpPure C r o (zipRd ps l) (.agg l') := OpPure.here fun ι F S w ρ hs hr => by
  obtain ⟨fs, h1, h2⟩ := placesI_spec hpl
  obtain ⟨ti, d, zv, t1, t2, t3, t4, t5, t6, t7⟩ := tyI_info hi
  obtain ⟨us, e1, e2⟩ := fillA_R hf (AVRs_v (ι := ι) (S := S) (w := w) i.zero) (zip_R hlen hr)
  refine ⟨.agg us.toArray, ?_, us, rfl, e2⟩
  have hz : zv.cells = i.zero.toArray := by rw [← t7, Array.toArray_toList]
  have hb : C.P.built ty (ps.map fun p => (p.1, ρ p.2)) = some us.toArray := by
    unfold Program.built
    simp only [t1, h1, t3, h2, hz]
    rw [← e1]
    congr 1
    funext n
    simp
  have hrun := run_build (P := C.P) w ty ((ps.map fun p => (p.1, ρ p.2)).toArray) us.toArray (by rw [List.toList_toArray]; exact hb)
  simp [execOp, ho, hrun]
theorem op_makeFunc {f : FuncId} {xs : List Operand} {l : List AV} (ho : o.op = .makeFunc (.func f) #[] xs.toArray) (hlen : xs.length = l.length) : OpPure C r o (xs.zip l) (.fn f l) := OpPure.here fun ι F S w ρ hs hr => by
  refine ⟨.func (.func f) #[] (xs.map ρ).toArray, by simp [execOp, ho, Instr.makeFunc], xs.map ρ, rfl, ?_⟩
  clear ho
  induction xs generalizing l with
  | nil => cases l with
    | nil => rfl
    | cons => simp at hlen
  | cons x xs ih =>
    cases l with
    | nil => simp at hlen
    | cons a l => exact ⟨ρ x, xs.map ρ, rfl, hr (x, a) (by simp), ih (by simpa using hlen) fun p hp => hr p (by simp [hp])⟩
def seqP : Nat → List Operand → List (Nat × Operand)
  | _, [] => []
  | n, x :: l => (n, x) :: seqP (n + 1) l
theorem fill_seq {sz : Nat} : ∀ {vs : List Value} {n : Nat} {cur : List Value}, (∀ u ∈ vs, u.cells.size = sz) → cur.length = (n + vs.length) * sz → Instr.fill (fun i => some (i * sz, sz)) cur.toArray (vs.zipIdx n |>.map fun p => (p.2, p.1)) = some (cur.take (n * sz) ++ vs.flatMap fun u => u.cells.toList).toArray
  | [], n, cur, _, hl => by
    simp only [List.length_nil, Nat.add_zero] at hl
    simp [Instr.fill, ← hl]
  | u :: vs, n, cur, hv, hl => by
    have hu := hv u (by simp)
    simp only [List.zipIdx_cons, List.map_cons, Instr.fill]
    have hle : n * sz + sz ≤ cur.length := by
      rw [hl, List.length_cons, ← Nat.succ_mul]; exact Nat.mul_le_mul_right _ (by omega)
    rw [if_neg (by simp only [List.size_toArray, hu, Bool.or_eq_true, decide_eq_true_eq]; omega)]
    have hff : (u.cells.zipIdx.foldl (fun cs (p : Value × Nat) => cs.setIfInBounds (n * sz + p.2) p.1) cur.toArray) = (spliceL cur (n * sz) u.cells.toList).toArray := by
      have hz := foldl_splice u.cells.toList 0 cur.toArray (n * sz)
      rw [Nat.add_zero, List.toList_toArray] at hz
      rw [← hz, ← Array.foldl_toList]
      congr 1
      simp
    have hul : u.cells.toList.length = sz := by rw [Array.length_toList]; exact hu
    rw [hff, fill_seq (fun v hv' => hv v (by simp [hv'])) (by rw [spliceL_length, hl, List.length_cons]; congr 1; omega)]
    rw [spliceL_eq _ _ _ (by rw [hul]; exact hle), Nat.add_mul, Nat.one_mul]
    congr 2
    rw [show n * sz + sz = (cur.take (n * sz) ++ u.cells.toList).length by rw [List.length_append, List.length_take, Nat.min_eq_left (by omega), hul], List.take_left]
    simp
/-- The parts' cells, in line. -/
def lineA : List AV → List AV
  | [] => []
  | x :: l => cellsA x ++ lineA l
def okL (sz : Nat) : List AV → Bool
  | [] => true
  | x :: l => okC x && Nat.beq (cellsA x).length sz && okL sz l
theorem line_R {ι : Nat → Value} {S : Bl} {w : World} {sz : Nat} : ∀ {l : List AV} {vs : List Value}, okL sz l = true → AVRs ι S w l vs → AVRs ι S w (lineA l) (vs.flatMap fun u => u.cells.toList) ∧ ∀ u ∈ vs, u.cells.size = sz
  | [], vs, _, h => by
    simp only [AVRs] at h
    subst h
    exact ⟨rfl, fun u hu => by cases hu⟩
  | x :: l, vs, hk, h => by
    simp only [AVRs] at h
    obtain ⟨u, r, rfl, h1, h2⟩ := h
    simp only [okL, Bool.and_eq_true] at hk
    obtain ⟨⟨k1, k2⟩, k3⟩ := hk
    obtain ⟨i1, i2⟩ := line_R k3 h2
    have hc := cellsA_R h1 k1
    refine ⟨by rw [List.flatMap_cons]; exact hc.append i1, fun v hv => ?_⟩
    rcases List.mem_cons.1 hv with rfl | hv
    · have := hc.length
      rw [Array.length_toList] at this
      rw [this]; exact Nat.eq_of_beq_eq_true k2
    · exact i2 v hv
theorem seqP_map {ρ : Operand → Value} : ∀ (xs : List Operand) (n : Nat), (seqP n xs).map (fun p => (p.1, ρ p.2)) = ((xs.map ρ).zipIdx n).map fun p => (p.2, p.1)
  | [], n => rfl
  | x :: xs, n => by simp [seqP, seqP_map xs (n + 1)]
theorem zip_AVRs {ι : Nat → Value} {S : Bl} {w : World} {ρ : Operand → Value} : ∀ {xs : List Operand} {l : List AV}, xs.length = l.length → (∀ p ∈ xs.zip l, AVR ι S w p.2 (ρ p.1)) → AVRs ι S w l (xs.map ρ)
  | [], [], _, _ => rfl
  | x :: xs, a :: l, hl, h => ⟨ρ x, xs.map ρ, rfl, h (x, a) (by simp), zip_AVRs (by simpa using hl) fun p hp => h p (by simp [hp])⟩
  | [], _ :: _, hl, _ => by simp at hl
  | _ :: _, [], hl, _ => by simp at hl
theorem run_buildSlice {P : Program} {e : TypeId} {i : TyI} {xs : List Operand} {ρ : Operand → Value} {w : World} (hE : sliceE P ty = some e) (hi : tyI P e = some i) (hz : i.zero.length = i.size) (hn : xs.length * i.size ≤ 16777216) (hv : ∀ u ∈ xs.map ρ, u.cells.size = i.size) : (Instr.buildSlice ty xs.length ((seqP 0 xs).map fun p => (p.1, ρ p.2)).toArray).run P w = .ok (.slice (some ⟨w.heap.size, 0, none⟩) xs.length xs.length) (w.alloc (.cells ((xs.map ρ).flatMap fun u => u.cells.toList).toArray e)) := by
  have hu := sliceE_spec hE
  obtain ⟨z, h1, h2⟩ := run_zeroValue hi w
  have key : ∀ zs : Array Value, Instr.fill (fun j => some (j * i.size, i.size)) ((Array.range (xs.length * i.size)).map (zs[· % zs.size]!)) ((seqP 0 xs).map fun p => (p.1, ρ p.2)) = some ((xs.map ρ).flatMap fun u => u.cells.toList).toArray := fun zs => by
    rw [seqP_map]
    have := fill_seq (sz := i.size) (vs := xs.map ρ) (n := 0) (cur := ((Array.range (xs.length * i.size)).map (zs[· % zs.size]!)).toList) hv (by simp)
    rw [Array.toArray_toList] at this
    rw [this]
    simp
  unfold Instr.buildSlice
  simp only [Sem.run_bind, run_underlying hu, Result.andThen_ok, run_sizeOf hi]
  rw [if_neg (by omega)]
  simp only [Sem.run_bind, Sem.run_ite, Sem.run_pure, h1, Result.andThen_ok]
  split
  · simp only [Result.andThen_ok, List.toList_toArray, key]
    simp [newRow]
  · simp only [Result.andThen_ok, List.toList_toArray, key]
    simp [newRow]
/-- A slice's literal, that is read alone from here on. -/
theorem op_buildSlice {α : Type} (E : Enc α) (ys : List α) {e : TypeId} {i : TyI} {xs : List Operand} (l : List AV) {n : Nat} (ho : o.op = .buildSlice ty n (seqP 0 xs).toArray) (hn : xs.length = n) (hE : sliceE C.P ty = some e) (hi : tyI C.P e = some i) (hsz : i.size = E.sz) (hz : i.zero.length = i.size) (hlen : xs.length = l.length) (hy : ys.length = n) (hmax : n * i.size ≤ 16777216) (hk : okL E.sz l = true) (hl : lineA l = E.all ys) : OpPure C r o (xs.zip l) (.sem (listS E ys)) := fun ι F S w ρ hs hr => by
  subst hn
  have hv := zip_AVRs hlen hr
  obtain ⟨h1, h2⟩ := line_R hk hv
  have hrun := run_buildSlice (ρ := ρ) (w := w) hE hi hz hmax (by rw [hsz]; exact h2)
  have hb : Below w.heap.size w (w.alloc (.cells ((xs.map ρ).flatMap fun u => u.cells.toList).toArray e)) := (Below.refl _ _).alloc (Nat.le_refl _) _
  have hFut : Fut S w (fun k => S k ∨ k = w.heap.size) (w.alloc (.cells ((xs.map ρ).flatMap fun u => u.cells.toList).toArray e)) := ⟨fun _ h => .inl h, fun k _ hk => hb.block k hk⟩
  refine Does.value (v := .slice (some ⟨w.heap.size, 0, none⟩) xs.length xs.length) (w' := w.alloc (.cells ((xs.map ρ).flatMap fun u => u.cells.toList).toArray e)) ?_ ⟨fun k => S k ∨ k = w.heap.size, hs.step hb (fun _ h => .inl h) (fun k hk => hk.imp_right fun h => by omega) (fun k hk => ?_), hFut, ?_⟩
  · have : (List.map (fun (x : Nat × Operand) => match x with | (i, x) => (i, ρ x)) (seqP 0 xs)) = (seqP 0 xs).map fun p => (p.1, ρ p.2) := rfl
    simp [execOp, ho, hrun]
  · rcases hk with hk | hk
    · have := hs.hs.bnd k hk; simp; omega
    · simp; omega
  · simp only [AVR]
    refine ⟨_, xs.length, by rw [hy], by rw [hy]; exact Nat.le_refl _, .inr ⟨w.heap.size, 0, rfl, .inr rfl, (xs.map ρ).flatMap fun u => u.cells.toList, ?_, fun j u hu => ?_⟩⟩
    · rw [hl] at h1
      exact (h1.leaf_any (E.all_leaf ys)).fut hFut fun _ _ => rfl
    · rw [Addr.add_lit, Nat.zero_add, World.cell?_alloc_new]
      simpa using hu
end
end Go.Proofs.Ytjkidecaciomgaa
/- VL, part 8: calls. -/
namespace Go.Proofs.Ytjkidecaciomgaa
set_option linter.unusedVariables false
set_option linter.unusedSimpArgs false
open Go.RowKit

def callB (P : Program) (f : FuncId) : Bool :=
  match P.funcs[f]? with
  | some fn => !(fn.name == "runtime.NumGoroutine") && fn.body.isSome
  | none => false
theorem run_callFunc {P : Program} {f : FuncId} (h : callB P f = true) (args : Array Value) (w : World) : (callFunc f args).run P w = .ok (.enter f args) w := by
  unfold callB at h
  split at h
  · rename_i fn hf
    simp only [Bool.and_eq_true, Bool.not_eq_true'] at h
    have h3 : ¬ fn.name = "runtime.NumGoroutine" := by simpa using h.1
    have h4 : ¬ fn.body = none := fun e => by rw [e] at h; cases h.2
    simp [callFunc, hf, h3, h4]
  · cases h
mutual
/-- No resource is meant. -/
def AV.noRef : AV → Bool
  | .v _ => true
  | .sem _ => true
  | .res _ => false
  | .ptr _ _ => false
  | .fn _ l => AV.noRefs l
  | .agg l => AV.noRefs l
  | .tup l => AV.noRefs l
def AV.noRefs : List AV → Bool
  | [] => true
  | x :: l => and (AV.noRef x) (AV.noRefs l)
end
mutual
theorem AV.noRef_has : ∀ {x : AV}, x.noRef = true → ∀ g, x.has g = false
  | .v _, _, g => by simp [AV.has]
  | .sem _, _, g => by simp [AV.has]
  | .res _, h, g => by simp [AV.noRef] at h
  | .ptr _ _, h, g => by simp [AV.noRef] at h
  | .fn _ l, h, g => by
    simp only [AV.has]
    exact AV.noRefs_has (by simpa [AV.noRef] using h) g
  | .agg l, h, g => by
    simp only [AV.has]
    exact AV.noRefs_has (by simpa [AV.noRef] using h) g
  | .tup l, h, g => by
    simp only [AV.has]
    exact AV.noRefs_has (by simpa [AV.noRef] using h) g
theorem AV.noRefs_has : ∀ {l : List AV}, AV.noRefs l = true → ∀ g, AV.hasL g l = false
  | [], _, g => by simp [AV.hasL]
  | x :: l, h, g => by
    simp only [AV.noRefs, Bool.and_eq_true] at h
    simp [AV.hasL, AV.noRef_has h.1 g, AV.noRefs_has h.2 g]
end
theorem AV.leaves_noRef : ∀ {l : List AV}, AV.leaves l = true → AV.noRefs l = true
  | [], _ => rfl
  | x :: l, h => by
    simp only [AV.leaves, Bool.and_eq_true] at h
    simp only [AV.noRefs, Bool.and_eq_true]
    exact ⟨by cases x <;> simp_all [AV.leaf, AV.noRef], AV.leaves_noRef h.2⟩

section
variable {C : Cx} {r : List (Nat × RK)} {o : Oper} {x y z : Operand} {V : AV} {ty : TypeId} {g : Nat}
/-- A call that neither takes nor leaves resources. -/
theorem op_call {f : FuncId} {l : List AV} {xs : List Operand} {ts : Array TypeId} (hF : Fun C.P f l [] V []) (ho : o.op = .call { callee := .value (.func f), args := xs.toArray, argTypes := ts }) (hc : callB C.P f = true) (hlen : xs.length = l.length) (hV : V.noRef = true) : OpPure C r o ((.func f, .v (.func (.func f) #[] #[])) :: xs.zip l) V := fun ι F S w ρ hs hr => by
  have hf := hr (.func f, .v (.func (.func f) #[] #[])) (by simp)
  simp only [AVR] at hf
  have hv := zip_AVRs hlen fun p hp => hr p (by simp [hp])
  have hrun : (execOp ρ o).run C.P w = .ok (.enter f (xs.map ρ).toArray) w := by
    simp [execOp, ho, resolve, Deferred.ofValue, hf, invoke, run_callFunc hc]
  have hcall := hF ι F S w _ ⟨fun _ _ _ h => (by cases h), fun _ _ h => (by cases h), fun _ _ _ _ h => (by cases h), fun _ _ h => (by cases h), hs.hs.bnd⟩ hv
  unfold Does
  rw [hrun]
  refine hcall.mono fun e w' h => ?_
  obtain ⟨ι', F', S', u, rfl, h1, h2, h3, h4, h5, h6, h7⟩ := h
  have hD : ∀ k, ¬ Dom [] F k := fun k ⟨_, _, h, _⟩ => by cases h
  have hb : Below w.heap.size w w' := ⟨h5.os, h5.tape, h5.output, h5.size, fun k hk => h5.block k hk (hD k)⟩
  refine ⟨u, rfl, S', hs.step hb h3.mono (fun k hk => ?_) h1.bnd, h3, h2.fut (Fut.refl _ _) fun g hg => by rw [AV.noRef_has hV] at hg; cases hg⟩
  rcases h6 k hk with h | h | h
  · exact .inl h
  · exact .inr h
  · exact absurd h (hD k)

/-! ### Calls with resources -/
mutual
/-- All resources that are meant are in this list. -/
def AV.inL (ids : List Nat) : AV → Bool
  | .v _ => true
  | .sem _ => true
  | .res g => !(notIn g ids)
  | .ptr g _ => !(notIn g ids)
  | .fn _ l => AV.inLs ids l
  | .agg l => AV.inLs ids l
  | .tup l => AV.inLs ids l
def AV.inLs (ids : List Nat) : List AV → Bool
  | [] => true
  | x :: l => and (AV.inL ids x) (AV.inLs ids l)
end
def RK.inL (ids : List Nat) : RK → Bool
  | .dead => true
  | .box _ l => AV.inLs ids l
  | .obj _ => true
theorem not_notIn {n : Nat} {l : List Nat} (h : (!(notIn n l)) = true) : n ∈ l := by
  rcases Classical.em (n ∈ l) with h1 | h1
  · exact h1
  · rw [notIn_iff.2 h1] at h; cases h
mutual
theorem AV.inL_has {ids : List Nat} : ∀ {x : AV}, x.inL ids = true → ∀ g, x.has g = true → g ∈ ids
  | .v _, _, g, h => by simp [AV.has] at h
  | .sem _, _, g, h => by simp [AV.has] at h
  | .res i, h, g, h2 => by
    simp only [AV.has] at h2
    rw [← Nat.eq_of_beq_eq_true h2]
    exact not_notIn (by simpa [AV.inL] using h)
  | .ptr i _, h, g, h2 => by
    simp only [AV.has] at h2
    rw [← Nat.eq_of_beq_eq_true h2]
    exact not_notIn (by simpa [AV.inL] using h)
  | .fn _ l, h, g, h2 => AV.inLs_has (by simpa [AV.inL] using h) g (by simpa [AV.has] using h2)
  | .agg l, h, g, h2 => AV.inLs_has (by simpa [AV.inL] using h) g (by simpa [AV.has] using h2)
  | .tup l, h, g, h2 => AV.inLs_has (by simpa [AV.inL] using h) g (by simpa [AV.has] using h2)
theorem AV.inLs_has {ids : List Nat} : ∀ {l : List AV}, AV.inLs ids l = true → ∀ g, AV.hasL g l = true → g ∈ ids
  | [], _, g, h => by simp [AV.hasL] at h
  | x :: l, h, g, h2 => by
    simp only [AV.inLs, Bool.and_eq_true] at h
    simp only [AV.hasL, Bool.or_eq_true] at h2
    rcases h2 with h2 | h2
    · exact AV.inL_has h.1 g h2
    · exact AV.inLs_has h.2 g h2
end
def idsOf {α : Type} : List (Nat × α) → List Nat
  | [] => []
  | p :: l => p.1 :: idsOf l
def renR (m : Nat → Nat) : List (Nat × RK) → List (Nat × RK) → List (Nat × RK)
  | [], r => r
  | p :: l, r => (m p.1, p.2.ren m) :: renR m l r
def deadR (m : Nat → Nat) : List (Nat × RK) → List (Nat × RK) → List (Nat × RK)
  | [], r => r
  | p :: l, r => (m p.1, .dead) :: deadR m l r
def liveAll : List (Nat × RK) → Bool
  | [] => true
  | p :: l => and p.2.live (liveAll l)
/-- The callee's name of caller's resource i. -/
def findM (m : Nat → Nat) : List (Nat × RK) → Nat → Option Nat
  | [], _ => none
  | p :: l, i => if m p.1 = i then some p.1 else findM m l i
theorem findM_some {m : Nat → Nat} : ∀ {l : List (Nat × RK)} {i g : Nat}, findM m l i = some g → m g = i ∧ g ∈ idsOf l
  | [], i, g, h => by cases h
  | p :: l, i, g, h => by
    simp only [findM] at h
    by_cases e : m p.1 = i
    · rw [if_pos e] at h; cases h; exact ⟨e, List.mem_cons_self⟩
    · rw [if_neg e] at h
      exact ⟨(findM_some h).1, List.mem_cons_of_mem _ (findM_some h).2⟩
theorem findM_none {m : Nat → Nat} : ∀ {l : List (Nat × RK)} {i : Nat}, findM m l i = none → i ∉ idsM m l
  | [], i, _ => by simp [idsM]
  | p :: l, i, h => by
    simp only [findM] at h
    by_cases e : m p.1 = i
    · rw [if_pos e] at h; cases h
    · rw [if_neg e] at h
      simp only [idsM, List.mem_cons, not_or]
      exact ⟨fun e' => e e'.symm, findM_none h⟩
theorem mem_idsM {m : Nat → Nat} : ∀ {l : List (Nat × RK)} {g : Nat}, g ∈ idsOf l → m g ∈ idsM m l
  | [], g, h => by cases h
  | p :: l, g, h => by
    simp only [idsOf, List.mem_cons] at h
    simp only [idsM, List.mem_cons]
    exact h.imp (fun e => by rw [e]) mem_idsM
theorem look_ids {α : Type} : ∀ {l : List (Nat × α)} {g : Nat}, g ∈ idsOf l → ∃ x, look l g = some x
  | [], g, h => by cases h
  | (k, y) :: l, g, h => by
    rw [look_cons]
    by_cases e : k = g
    · exact ⟨y, by rw [if_pos e]⟩
    · rw [if_neg e]
      simp only [idsOf, List.mem_cons] at h
      exact look_ids (h.resolve_left fun e' => e e'.symm)
theorem ids_look {α : Type} : ∀ {l : List (Nat × α)} {g : Nat} {x : α}, look l g = some x → g ∈ idsOf l
  | [], g, x, h => by cases h
  | (k, y) :: l, g, x, h => by
    rw [look_cons] at h
    simp only [idsOf, List.mem_cons]
    by_cases e : k = g
    · exact .inl e.symm
    · rw [if_neg e] at h; exact .inr (ids_look h)
theorem look_renR {m : Nat → Nat} : ∀ {l r : List (Nat × RK)} {i : Nat} {x : RK}, (idsM m l).Nodup → look (renR m l r) i = some x → (∃ g y, m g = i ∧ look l g = some y ∧ x = y.ren m ∧ findM m l i = some g) ∨ (findM m l i = none ∧ look r i = some x)
  | [], r, i, x, _, h => .inr ⟨rfl, h⟩
  | (k, y) :: l, r, i, x, hn, h => by
    simp only [renR, look_cons] at h
    rw [idsM, List.nodup_cons] at hn
    by_cases e : m k = i
    · rw [if_pos e] at h
      cases h
      exact .inl ⟨k, y, e, by rw [look_cons, if_pos rfl], rfl, by simp [findM, e]⟩
    · rw [if_neg e] at h
      rcases look_renR hn.2 h with ⟨g, z, h1, h2, h3, h4⟩ | ⟨h1, h2⟩
      · refine .inl ⟨g, z, h1, ?_, h3, by simp [findM, e, h4]⟩
        rw [look_cons, if_neg fun e' => ?_]
        · exact h2
        · subst e'; exact e h1
      · exact .inr ⟨by simp [findM, e, h1], h2⟩
theorem look_deadR {m : Nat → Nat} : ∀ {l r : List (Nat × RK)} {i : Nat} {x : RK}, look (deadR m l r) i = some x → x.live = true → i ∉ idsM m l ∧ look r i = some x
  | [], r, i, x, h, _ => ⟨by simp [idsM], h⟩
  | (k, y) :: l, r, i, x, h, hx => by
    simp only [deadR, look_cons] at h
    by_cases e : m k = i
    · rw [if_pos e] at h; cases h; cases hx
    · rw [if_neg e] at h
      obtain ⟨h1, h2⟩ := look_deadR h hx
      refine ⟨?_, h2⟩
      simp only [idsM, List.mem_cons, not_or]
      exact ⟨fun e' => e e'.symm, h1⟩
theorem live_look : ∀ {l : List (Nat × RK)} {g : Nat} {x : RK}, liveAll l = true → look l g = some x → x.live = true
  | [], g, x, _, h => by cases h
  | (k, y) :: l, g, x, hl, h => by
    simp only [liveAll, Bool.and_eq_true] at hl
    rw [look_cons] at h
    by_cases e : k = g
    · rw [if_pos e] at h; cases h; exact hl.1
    · rw [if_neg e] at h; exact live_look hl.2 h
/-- The new names: of what the callee leaves, and didn't get. -/
def newIds (m : Nat → Nat) (r0 : List (Nat × RK)) : List (Nat × RK) → List Nat
  | [] => []
  | p :: l => bif notIn p.1 (idsOf r0) then m p.1 :: newIds m r0 l else newIds m r0 l
theorem newIds_mem {m : Nat → Nat} {r0 : List (Nat × RK)} : ∀ {l : List (Nat × RK)} {i : Nat}, i ∈ newIds m r0 l ↔ ∃ g, g ∈ idsOf l ∧ g ∉ idsOf r0 ∧ m g = i
  | [], i => by simp [newIds, idsOf]
  | p :: l, i => by
    simp only [newIds]
    cases h : notIn p.1 (idsOf r0) with
    | true =>
      have h' := notIn_iff.1 h
      rw [cond_true, List.mem_cons, newIds_mem]
      constructor
      · rintro (rfl | ⟨g, h1, h2, h3⟩)
        · exact ⟨p.1, List.mem_cons_self, h', rfl⟩
        · exact ⟨g, List.mem_cons_of_mem _ h1, h2, h3⟩
      · rintro ⟨g, h1, h2, h3⟩
        simp only [idsOf, List.mem_cons] at h1
        rcases h1 with rfl | h1
        · exact .inl h3.symm
        · exact .inr ⟨g, h1, h2, h3⟩
    | false =>
      rw [cond_false, newIds_mem]
      constructor
      · rintro ⟨g, h1, h2, h3⟩
        exact ⟨g, List.mem_cons_of_mem _ h1, h2, h3⟩
      · rintro ⟨g, h1, h2, h3⟩
        simp only [idsOf, List.mem_cons] at h1
        rcases h1 with rfl | h1
        · exfalso
          rw [notIn_iff.2 h2] at h
          cases h
        · exact ⟨g, h1, h2, h3⟩
def freshAll (r r0c : List (Nat × RK)) : List Nat → Bool
  | [] => true
  | i :: l => and (and (freshR i r) (notIn i (idsOf r0c))) (freshAll r r0c l)
theorem freshAll_mem {r r0c : List (Nat × RK)} : ∀ {l : List Nat} {i : Nat}, freshAll r r0c l = true → i ∈ l → freshR i r = true ∧ i ∉ idsOf r0c
  | [], i, _, h => by cases h
  | j :: l, i, hf, h => by
    simp only [freshAll, Bool.and_eq_true] at hf
    rcases List.mem_cons.1 h with rfl | h
    · exact ⟨hf.1.1, notIn_iff.1 hf.1.2⟩
    · exact freshAll_mem hf.2 h
def allNotIn (l : List Nat) : List Nat → Bool
  | [] => true
  | i :: k => and (notIn i l) (allNotIn l k)
theorem allNotIn_mem {l : List Nat} : ∀ {k : List Nat} {i : Nat}, allNotIn l k = true → i ∈ k → i ∉ l
  | [], i, _, h => by cases h
  | j :: k, i, hf, h => by
    simp only [allNotIn, Bool.and_eq_true] at hf
    rcases List.mem_cons.1 h with rfl | h
    · exact notIn_iff.1 hf.1
    · exact allNotIn_mem hf.2 h
def closedR (ids : List Nat) : List (Nat × RK) → Bool
  | [] => true
  | p :: l => and (p.2.inL ids) (closedR ids l)
theorem closedR_look {ids : List Nat} : ∀ {l : List (Nat × RK)} {g : Nat} {x : RK}, closedR ids l = true → look l g = some x → x.inL ids = true
  | [], g, x, _, h => by cases h
  | (k, y) :: l, g, x, hf, h => by
    simp only [closedR, Bool.and_eq_true] at hf
    rw [look_cons] at h
    by_cases e : k = g
    · rw [if_pos e] at h; cases h; exact hf.1
    · rw [if_neg e] at h; exact closedR_look hf.2 h

/-- Behind a call: the caller's memory, out of the callee's. -/
theorem SimW.call {C : Cx} {r r0 r1 : List (Nat × RK)} {rv : AV} {ι ι' : Nat → Value} {F F' : Nat → Bl} {S S' : Bl} {w w' : World} {u : Value} (m : Nat → Nat) (hs : SimW C r ι F S w) (hw : WkR r m r0) (hn0 : nodupB (idsM m r0) = true) (hl0 : liveAll r0 = true) (hn1 : nodupB (idsM m r1) = true) (hfr : freshAll r C.r0 (newIds m r0 r1) = true) (hnew : allNotIn (idsM m r0) (newIds m r0 r1) = true) (hcl : closedR (idsOf r1 ++ idsOf r0) r1 = true) (hrv : rv.inL (idsOf r1 ++ idsOf r0) = true)
    (h1 : HeapSim r1 ι' F' S' w') (h2 : AVR ι' S' w' rv u) (h3 : Fut S w S' w') (h4 : ∀ g x, look r0 g = some x → x.live = true → ι' g = ι (m g)) (h5 : But (Dom r0 fun g => F (m g)) w w') (h6 : ∀ k, S' k → S k ∨ w.heap.size ≤ k ∨ Dom r0 (fun g => F (m g)) k) (h7 : ∀ g x, look r1 g = some x → x.live = true → ∀ k, F' g k → w.heap.size ≤ k ∨ Dom r0 (fun g => F (m g)) k) :
    ∃ ι'' F'', SimW C (renR m r1 (deadR m r0 r)) ι'' F'' S' w' ∧ AVR ι'' S' w' (rv.ren m) u ∧ ∀ i, i ∉ newIds m r0 r1 → ι'' i = ι i := by
  have hn0' := nodupB_iff.1 hn0
  have hn1' := nodupB_iff.1 hn1
  have hkeep : ∀ g, g ∈ idsOf r0 → ι' g = ι (m g) := fun g hg => by
    obtain ⟨x, hx⟩ := look_ids hg
    exact h4 g x hx (live_look hl0 hx)
  refine ⟨fun i => match findM m r1 i with | some g => ι' g | none => ι i, fun i => match findM m r1 i with | some g => F' g | none => F i, ?_⟩
  generalize hι : (fun i => match findM m r1 i with | some g => ι' g | none => ι i) = ι''
  generalize hFF : (fun i => match findM m r1 i with | some g => F' g | none => F i) = F''
  have ιs : ∀ {i g}, findM m r1 i = some g → ι'' i = ι' g := fun {i g} h => by rw [← hι]; simp only [h]
  have ιn : ∀ {i}, findM m r1 i = none → ι'' i = ι i := fun {i} h => by rw [← hι]; simp only [h]
  have Fs : ∀ {i g}, findM m r1 i = some g → F'' i = F' g := fun {i g} h => by rw [← hFF]; simp only [h]
  have Fn : ∀ {i}, findM m r1 i = none → F'' i = F i := fun {i} h => by rw [← hFF]; simp only [h]
  have inj1 : ∀ {g g' : Nat}, g ∈ idsOf r1 → g' ∈ idsOf r1 → m g = m g' → g = g' := fun {g g'} a b e => by
    obtain ⟨x, hx⟩ := look_ids a
    obtain ⟨x', hx'⟩ := look_ids b
    exact idsM_inj hn1' hx hx' e
  have inj0 : ∀ {g g' : Nat}, g ∈ idsOf r0 → g' ∈ idsOf r0 → m g = m g' → g = g' := fun {g g'} a b e => by
    obtain ⟨x, hx⟩ := look_ids a
    obtain ⟨x', hx'⟩ := look_ids b
    exact idsM_inj hn0' hx hx' e
  have old : ∀ g, g ∈ idsOf r1 → g ∉ idsOf r0 → m g ∈ newIds m r0 r1 := fun g a b => newIds_mem.2 ⟨g, a, b, rfl⟩
  have ιm : ∀ g, g ∈ idsOf r1 ++ idsOf r0 → ι'' (m g) = ι' g := fun g hg => by
    cases hf : findM m r1 (m g) with
    | some g' =>
      obtain ⟨e, hg'⟩ := findM_some hf
      rw [ιs hf]
      rcases List.mem_append.1 hg with hg1 | hg0
      · rw [inj1 hg' hg1 e]
      · by_cases h0 : g' ∈ idsOf r0
        · rw [inj0 h0 hg0 e]
        · exfalso
          have := allNotIn_mem hnew (old g' hg' h0)
          rw [e] at this
          exact this (mem_idsM hg0)
    | none =>
      rcases List.mem_append.1 hg with hg1 | hg0
      · exact absurd (mem_idsM hg1) (findM_none hf)
      · rw [ιn hf, hkeep g hg0]
  have ιold : ∀ i, i ∉ newIds m r0 r1 → ι'' i = ι i := fun i hi => by
    cases hf : findM m r1 i with
    | none => exact ιn hf
    | some g =>
      obtain ⟨e, hg⟩ := findM_some hf
      subst e
      by_cases h0 : g ∈ idsOf r0
      · rw [ιs hf, hkeep g h0]
      · exact absurd (old g hg h0) hi
  have caller : ∀ {i x}, look (renR m r1 (deadR m r0 r)) i = some x → x.live = true → (∃ g y, m g = i ∧ look r1 g = some y ∧ x = y.ren m ∧ findM m r1 i = some g ∧ y.live = true) ∨ (findM m r1 i = none ∧ i ∉ idsM m r0 ∧ look r i = some x) := fun {i x} hi hx => by
    rcases look_renR hn1' hi with ⟨g, y, a, b, c, d⟩ | ⟨a, b⟩
    · exact .inl ⟨g, y, a, b, c, d, by rw [c, RK.live_ren] at hx; exact hx⟩
    · exact .inr ⟨a, look_deadR b hx⟩
  have dom : ∀ {k}, Dom r0 (fun g => F (m g)) k → ∃ g x, look r0 g = some x ∧ look r (m g) = some (x.ren m) ∧ (x.ren m).live = true ∧ F (m g) k := fun {k} ⟨g, x, a, b, c⟩ => ⟨g, x, a, hw.look a, by rw [RK.live_ren]; exact b, c⟩
  have domOut : ∀ {i x k}, look r i = some x → x.live = true → i ∉ idsM m r0 → F i k → ¬ Dom r0 (fun g => F (m g)) k := fun {i x k} a b c d hd => by
    obtain ⟨g, y, e1, e2, e3, e4⟩ := dom hd
    exact hs.hs.dis i (m g) x _ a e2 b e3 (fun e => c (by rw [e]; exact mem_idsM (ids_look e1))) k d e4
  have hbnd := h5.size
  refine ⟨⟨⟨fun i T l hi => ?_, fun i R hi => ?_, fun i j x y hi hj hx hy hne k hk => ?_, fun i x hi hx k hk hS => ?_, h1.bnd⟩, ?_, fun i x hi hx k hk => ?_, fun k hk => ?_, h3' h3 hs, fun i x hi hx => ?_⟩, AVR.ren.2 (h2.fut (Fut.refl _ _) fun g hg => ιm g (AV.inL_has hrv g hg)), ιold⟩
  · rcases caller hi rfl with ⟨g, y, a, b, c, d, e⟩ | ⟨a, b, c⟩
    · cases y with
      | dead => cases c
      | obj R => cases c
      | box T' l' =>
        cases c
        obtain ⟨bb, p1, p2, cs, p3, p4⟩ := h1.bx g T l' b
        rw [ιs d, Fs d]
        refine ⟨bb, p1, p2, cs, p3, AVRs.ren.2 (p4.fut (Fut.refl _ _) fun g' hg' => ιm g' ?_)⟩
        have := closedR_look hcl b
        exact AV.inLs_has this g' hg'
    · obtain ⟨bb, p1, p2, cs, p3, p4⟩ := hs.hs.bx i T l c
      rw [ιn a, Fn a]
      have hlt := hs.hs.lt c rfl ((p2 bb).2 rfl)
      refine ⟨bb, p1, p2, cs, (h5.block bb hlt (domOut c rfl b ((p2 bb).2 rfl))).trans p3, p4.fut h3 fun j hj => ?_⟩
      refine ιold j fun hnj => ?_
      have := freshR_look (freshAll_mem hfr hnj).1 c
      simp only [RK.has] at this
      rw [this] at hj
      cases hj
  · rcases caller hi rfl with ⟨g, y, a, b, c, d, e⟩ | ⟨a, b, c⟩
    · cases y with
      | dead => cases c
      | box T' l' => cases c
      | obj R' =>
        cases c
        rw [ιs d, Fs d]
        exact h1.ob g R b
    · rw [ιn a, Fn a]
      refine R.fut h3.mono (fun k hk hl => ?_) (hs.hs.ob i R c)
      rcases hk with hk | hk
      · exact h3.same k hk hl
      · exact h5.block k hl (domOut c rfl b hk)
  · rcases caller hi hx with ⟨g, z, a, b, c, d, e⟩ | ⟨a, b, c⟩
    · rw [Fs d] at hk
      rcases caller hj hy with ⟨g', z', a', b', c', d', e'⟩ | ⟨a', b', c'⟩
      · rw [Fs d']
        refine h1.dis g g' z z' b b' e e' (fun eq => hne ?_) k hk
        subst eq
        rw [← a, ← a']
      · rw [Fn a']
        intro hk'
        rcases h7 g z b e k hk with h | h
        · have := hs.hs.lt c' hy hk'; omega
        · exact domOut c' hy b' hk' h
    · rw [Fn a] at hk
      rcases caller hj hy with ⟨g', z', a', b', c', d', e'⟩ | ⟨a', b', c'⟩
      · rw [Fs d']
        intro hk'
        rcases h7 g' z' b' e' k hk' with h | h
        · have := hs.hs.lt c hx hk; omega
        · exact domOut c hx b hk h
      · rw [Fn a']
        exact hs.hs.dis i j x y c c' hx hy hne k hk
  · rcases caller hi hx with ⟨g, z, a, b, c, d, e⟩ | ⟨a, b, c⟩
    · rw [Fs d] at hk
      exact h1.out g z b e k hk hS
    · rw [Fn a] at hk
      rcases h6 k hS with h | h | h
      · exact hs.hs.out i x c hx k hk h
      · have := hs.hs.lt c hx hk; omega
      · exact domOut c hx b hk h
  · refine ⟨h5.os.trans hs.but.os, h5.tape.trans hs.but.tape, h5.output.trans hs.but.output, Nat.le_trans hs.but.size h5.size, fun k hk hn => (h5.block k (Nat.lt_of_lt_of_le hk hs.but.size) fun hd => ?_).trans (hs.but.block k hk hn)⟩
    obtain ⟨g, y, e1, e2, e3, e4⟩ := dom hd
    exact (hs.own (m g) _ e2 e3 k e4).elim (fun h => by omega) hn
  · have hdm : ∀ k, Dom r0 (fun g => F (m g)) k → C.w0.heap.size ≤ k ∨ C.D k := fun k hd => by
      obtain ⟨g, y, e1, e2, e3, e4⟩ := dom hd
      exact hs.own (m g) _ e2 e3 k e4
    rcases caller hi hx with ⟨g, z, a, b, c, d, e⟩ | ⟨a, b, c⟩
    · rw [Fs d] at hk
      rcases h7 g z b e k hk with h | h
      · exact .inl (Nat.le_trans hs.but.size h)
      · exact hdm k h
    · rw [Fn a] at hk
      exact hs.own i x c hx k hk
  · rcases h6 k hk with h | h | h
    · exact hs.sb k h
    · exact .inr (.inl (Nat.le_trans hs.but.size h))
    · obtain ⟨g, y, e1, e2, e3, e4⟩ := dom h
      exact .inr (hs.own (m g) _ e2 e3 k e4)
  · rw [ιold i fun hni => (freshAll_mem hfr hni).2 (ids_look hi)]
    exact hs.keep i x hi hx
where
  h3' {C : Cx} {r : List (Nat × RK)} {ι : Nat → Value} {F : Nat → Bl} {S S' : Bl} {w w' : World} (h3 : Fut S w S' w') (hs : SimW C r ι F S w) : Fut C.S0 C.w0 S' w' := hs.fut.trans h3 hs.but.size
/-- A call that takes and leaves resources; m: the callee's names among the caller's. -/
theorem op_callR {f : FuncId} {r0 r1 : List (Nat × RK)} {l : List AV} {xs : List Operand} {ts : Array TypeId} (m : Nat → Nat) (hF : Fun C.P f l r0 V r1) (ho : o.op = .call { callee := .value (.func f), args := xs.toArray, argTypes := ts }) (hc : callB C.P f = true) (hlen : xs.length = l.length)
    (hw : WkR r m r0) (hn0 : nodupB (idsM m r0) = true) (hl0 : liveAll r0 = true) (hn1 : nodupB (idsM m r1) = true) (hfr : freshAll r C.r0 (newIds m r0 r1) = true) (hnew : allNotIn (idsM m r0) (newIds m r0 r1) = true) (hcl : closedR (idsOf r1 ++ idsOf r0) r1 = true) (hrv : V.inL (idsOf r1 ++ idsOf r0) = true) : OpEff C r o ((.func f, .v (.func (.func f) #[] #[])) :: xs.zip (AV.renL m l)) (V.ren m) (renR m r1 (deadR m r0 r)) (newIds m r0 r1) := fun ι F S w ρ hs hr => by
  have hf := hr (.func f, .v (.func (.func f) #[] #[])) (by simp)
  simp only [AVR] at hf
  have hll : ∀ l : List AV, (AV.renL m l).length = l.length := by
    intro l
    induction l with
    | nil => rfl
    | cons x l ih => simp [AV.renL, ih]
  have hv := zip_AVRs (l := AV.renL m l) (by rw [hll]; exact hlen) fun p hp => hr p (by simp [hp])
  have hrun : (execOp ρ o).run C.P w = .ok (.enter f (xs.map ρ).toArray) w := by
    simp [execOp, ho, resolve, Deferred.ofValue, hf, invoke, run_callFunc hc]
  have hcall := hF (fun g => ι (m g)) (fun g => F (m g)) S w _ (hs.hs.ren hw hn0) (AVRs.ren.1 hv)
  unfold Does
  rw [hrun]
  refine hcall.mono fun e w' h => ?_
  obtain ⟨ι', F', S', u, rfl, h1, h2, h3, h4, h5, h6, h7⟩ := h
  obtain ⟨ι'', F'', e1, e2, e3⟩ := hs.call m hw hn0 hl0 hn1 hfr hnew hcl hrv h1 h2 h3 h4 h5 h6 h7
  exact ⟨u, rfl, ι'', F'', S', e1, h3, e3, e2⟩
/-- A call of a function value: what it has captured goes along. -/
theorem op_callC {f : FuncId} {r0 r1 : List (Nat × RK)} {l cap : List AV} {xs : List Operand} {ts : Array TypeId} (m : Nat → Nat) (hF : Fun C.P f (l ++ cap) r0 V r1) (ho : o.op = .call { callee := .value x, args := xs.toArray, argTypes := ts }) (hc : callB C.P f = true) (hlen : xs.length = l.length)
    (hw : WkR r m r0) (hn0 : nodupB (idsM m r0) = true) (hl0 : liveAll r0 = true) (hn1 : nodupB (idsM m r1) = true) (hfr : freshAll r C.r0 (newIds m r0 r1) = true) (hnew : allNotIn (idsM m r0) (newIds m r0 r1) = true) (hcl : closedR (idsOf r1 ++ idsOf r0) r1 = true) (hrv : V.inL (idsOf r1 ++ idsOf r0) = true) : OpEff C r o ((x, .fn f (AV.renL m cap)) :: xs.zip (AV.renL m l)) (V.ren m) (renR m r1 (deadR m r0 r)) (newIds m r0 r1) := fun ι F S w ρ hs hr => by
  have hf := hr (x, .fn f (AV.renL m cap)) (by simp)
  simp only [AVR] at hf
  obtain ⟨us, hf, hus⟩ := hf
  have hll : ∀ l : List AV, (AV.renL m l).length = l.length := by
    intro l
    induction l with
    | nil => rfl
    | cons x l ih => simp [AV.renL, ih]
  have hv := zip_AVRs (l := AV.renL m l) (by rw [hll]; exact hlen) fun p hp => hr p (by simp [hp])
  have hrun : (execOp ρ o).run C.P w = .ok (.enter f (xs.map ρ ++ us).toArray) w := by
    simp [execOp, ho, resolve, Deferred.ofValue, hf, invoke, run_callFunc hc]
  have hcall := hF (fun g => ι (m g)) (fun g => F (m g)) S w _ (hs.hs.ren hw hn0) ((AVRs.ren.1 hv).append (AVRs.ren.1 hus))
  unfold Does
  rw [hrun]
  refine hcall.mono fun e w' h => ?_
  obtain ⟨ι', F', S', u, rfl, h1, h2, h3, h4, h5, h6, h7⟩ := h
  obtain ⟨ι'', F'', e1, e2, e3⟩ := hs.call m hw hn0 hl0 hn1 hfr hnew hcl hrv h1 h2 h3 h4 h5 h6 h7
  exact ⟨u, rfl, ι'', F'', S', e1, h3, e3, e2⟩
end
end Go.Proofs.Ytjkidecaciomgaa
/- VL, part 9: one step of a proof, kind by kind. -/
namespace Go.Proofs.Ytjkidecaciomgaa
set_option linter.unusedVariables false
set_option linter.unusedSimpArgs false
open Go.RowKit

mutual
theorem AV.ren_noRef {m : Nat → Nat} : ∀ {x : AV}, x.noRef = true → x.ren m = x
  | .v _, _ => rfl
  | .sem _, _ => rfl
  | .res _, h => by simp [AV.noRef] at h
  | .ptr _ _, h => by simp [AV.noRef] at h
  | .fn _ l, h => by
    simp only [AV.ren]
    rw [AV.renL_noRefs (by simpa [AV.noRef] using h)]
  | .agg l, h => by
    simp only [AV.ren]
    rw [AV.renL_noRefs (by simpa [AV.noRef] using h)]
  | .tup l, h => by
    simp only [AV.ren]
    rw [AV.renL_noRefs (by simpa [AV.noRef] using h)]
theorem AV.renL_noRefs {m : Nat → Nat} : ∀ {l : List AV}, AV.noRefs l = true → AV.renL m l = l
  | [], _ => rfl
  | x :: l, h => by
    simp only [AV.noRefs, Bool.and_eq_true] at h
    simp only [AV.renL]
    rw [AV.ren_noRef h.1, AV.renL_noRefs h.2]
end
section
variable {C : Cx} {k : List Item} {t : List (Nat × AV)} {r : List (Nat × RK)} {ops : Array Oper} {rest : List Oper}
variable {d : Nat} {ty ty' : TypeId} {pos : String} {af : Array Edge} {x y z : Operand} {V : AV} {g : Nat}
theorem rd1 (h : evalA t x = some V) : Rd t [(x, V)] := ⟨h, trivial⟩
theorem rd2 {W : AV} (h : evalA t x = some V) (h' : evalA t y = some W) : Rd t [(x, V), (y, W)] := ⟨h, h', trivial⟩
theorem rdC {f : FuncId} {l : List (Operand × AV)} (h : Rd t l) : Rd t ((.func f, .v (.func (.func f) #[] #[])) :: l) := ⟨rfl, h⟩
theorem rdX {l : List (Operand × AV)} (h' : evalA t x = some V) (h : Rd t l) : Rd t ((x, V) :: l) := ⟨h', h⟩
/-- The guard says yes. -/
theorem v_on {op : Op} {dst : Option Tmp} {gd : Nat × Bool} (hg : wantedA t ops ⟨dst, op, ty, pos, af, some gd⟩ = some true) (h : RunL C ops (⟨dst, op, ty, pos, af, none⟩ :: rest) ⟨t, r⟩ k) : RunL C ops (⟨dst, op, ty, pos, af, some gd⟩ :: rest) ⟨t, r⟩ k := .mk fun a w hs => by
  obtain ⟨ι, F, S, hA⟩ := id hs
  have hw := wantedA_of hg hA.ts
  have h1 := h.go a w hs
  unfold wpList at h1 ⊢
  rw [if_pos (by simp [Region.wanted])] at h1
  rw [if_pos hw]
  exact h1
theorem v_off {op : Op} {gd : Nat × Bool} (hg : wantedA t ops ⟨some d, op, ty, pos, af, some gd⟩ = some false) (hn : Nat.blt d C.N = true) (hk : RunL C ops rest ⟨(d, .v undef) :: t, r⟩ k) : RunL C ops (⟨some d, op, ty, pos, af, some gd⟩ :: rest) ⟨t, r⟩ k := runL_off hg rfl hn hk
theorem v_off0 {op : Op} {gd : Nat × Bool} (hg : wantedA t ops ⟨none, op, ty, pos, af, some gd⟩ = some false) (hk : RunL C ops rest ⟨t, r⟩ k) : RunL C ops (⟨none, op, ty, pos, af, some gd⟩ :: rest) ⟨t, r⟩ k := runL_off0 hg rfl hk

theorem v_move (hx : evalA t x = some V) (hn : Nat.blt d C.N = true) (hk : RunL C ops rest ⟨(d, V) :: t, r⟩ k) : RunL C ops (⟨some d, .move x, ty, pos, af, none⟩ :: rest) ⟨t, r⟩ k := runL_pure _ rfl rfl hn (rd1 hx) (op_move rfl) hk
theorem v_assign (hx : evalA t x = some V) (hn : Nat.blt d C.N = true) (hk : RunL C ops rest ⟨(d, V) :: t, r⟩ k) : RunL C ops (⟨some d, .assign x, ty, pos, af, none⟩ :: rest) ⟨t, r⟩ k := runL_pure _ rfl rfl hn (rd1 hx) (op_assign rfl) hk
theorem v_pick_t (hx : evalA t x = some (.v (.bool true))) (hy : evalA t y = some V) (hn : Nat.blt d C.N = true) (hk : RunL C ops rest ⟨(d, V) :: t, r⟩ k) : RunL C ops (⟨some d, .pick x y z, ty, pos, af, none⟩ :: rest) ⟨t, r⟩ k := runL_pure _ rfl rfl hn (rd2 hx hy) (op_pick_t rfl) hk
theorem v_pick_f (hx : evalA t x = some (.v (.bool false))) (hz : evalA t z = some V) (hn : Nat.blt d C.N = true) (hk : RunL C ops rest ⟨(d, V) :: t, r⟩ k) : RunL C ops (⟨some d, .pick x y z, ty, pos, af, none⟩ :: rest) ⟨t, r⟩ k := runL_pure _ rfl rfl hn (rd2 hx hz) (op_pick_f rfl) hk
theorem v_extract {l : List AV} {i : Nat} (hx : evalA t x = some (.tup l)) (hi : l[i]? = some V) (hn : Nat.blt d C.N = true) (hk : RunL C ops rest ⟨(d, V) :: t, r⟩ k) : RunL C ops (⟨some d, .extract x i, ty, pos, af, none⟩ :: rest) ⟨t, r⟩ k := runL_pure _ rfl rfl hn (rd1 hx) (op_extract rfl hi) hk
theorem v_not {b : Bool} (hx : evalA t x = some (.v (.bool b))) (hn : Nat.blt d C.N = true) (hk : RunL C ops rest ⟨(d, .v (.bool (!b))) :: t, r⟩ k) : RunL C ops (⟨some d, .unOp .not ty' x, ty, pos, af, none⟩ :: rest) ⟨t, r⟩ k := runL_pure _ rfl rfl hn (rd1 hx) (op_not rfl) hk
section
variable {kd : IntKind} {a b : Int} {t1 t2 : TypeId}
theorem v_add (hx : evalA t x = some (.v (.int .i64 a))) (hy : evalA t y = some (.v (.int .i64 b))) (hn : Nat.blt d C.N = true) (h : -9223372036854775808 ≤ a + b ∧ a + b ≤ 9223372036854775807) (hk : RunL C ops rest ⟨(d, .v (.int .i64 (a + b))) :: t, r⟩ k) : RunL C ops (⟨some d, .binOp .add t1 x y t2, ty, pos, af, none⟩ :: rest) ⟨t, r⟩ k := runL_pure _ rfl rfl hn (rd2 hx hy) (by have h1 := op_add (C := C) (r := r) (o := ⟨some d, .binOp .add t1 x y t2, ty, pos, af, none⟩) (k := .i64) (a := a) (b := b) rfl; rwa [IntWalk.i64_in _ h] at h1) hk
theorem v_sub (hx : evalA t x = some (.v (.int .i64 a))) (hy : evalA t y = some (.v (.int .i64 b))) (hn : Nat.blt d C.N = true) (h : -9223372036854775808 ≤ a - b ∧ a - b ≤ 9223372036854775807) (hk : RunL C ops rest ⟨(d, .v (.int .i64 (a - b))) :: t, r⟩ k) : RunL C ops (⟨some d, .binOp .sub t1 x y t2, ty, pos, af, none⟩ :: rest) ⟨t, r⟩ k := runL_pure _ rfl rfl hn (rd2 hx hy) (by have h1 := op_sub (C := C) (r := r) (o := ⟨some d, .binOp .sub t1 x y t2, ty, pos, af, none⟩) (k := .i64) (a := a) (b := b) rfl; rwa [IntWalk.i64_in _ h] at h1) hk
theorem v_mul (hx : evalA t x = some (.v (.int .i64 a))) (hy : evalA t y = some (.v (.int .i64 b))) (hn : Nat.blt d C.N = true) (h : -9223372036854775808 ≤ a * b ∧ a * b ≤ 9223372036854775807) (hk : RunL C ops rest ⟨(d, .v (.int .i64 (a * b))) :: t, r⟩ k) : RunL C ops (⟨some d, .binOp .mul t1 x y t2, ty, pos, af, none⟩ :: rest) ⟨t, r⟩ k := runL_pure _ rfl rfl hn (rd2 hx hy) (by have h1 := op_mul (C := C) (r := r) (o := ⟨some d, .binOp .mul t1 x y t2, ty, pos, af, none⟩) (k := .i64) (a := a) (b := b) rfl; rwa [IntWalk.i64_in _ h] at h1) hk
theorem v_quo (hx : evalA t x = some (.v (.int .i64 a))) (hy : evalA t y = some (.v (.int .i64 b))) (hn : Nat.blt d C.N = true) (h : 0 ≤ a ∧ 0 < b ∧ a / b ≤ 9223372036854775807) (hk : RunL C ops rest ⟨(d, .v (.int .i64 (a / b))) :: t, r⟩ k) : RunL C ops (⟨some d, .binOp .quo t1 x y t2, ty, pos, af, none⟩ :: rest) ⟨t, r⟩ k := runL_pure _ rfl rfl hn (rd2 hx hy) (by
  have h1 := op_quo (C := C) (r := r) (o := ⟨some d, .binOp .quo t1 x y t2, ty, pos, af, none⟩) (k := .i64) (a := a) (b := b) rfl h.1 h.2.1
  have h0 : 0 ≤ a / b := Int.ediv_nonneg h.1 (by omega)
  rwa [IntWalk.i64_in _ ⟨by omega, h.2.2⟩] at h1) hk
theorem v_rem (hx : evalA t x = some (.v (.int kd a))) (hy : evalA t y = some (.v (.int kd b))) (hn : Nat.blt d C.N = true) (h : 0 ≤ a ∧ 0 < b) (hk : RunL C ops rest ⟨(d, .v (.int kd (a % b))) :: t, r⟩ k) : RunL C ops (⟨some d, .binOp .rem t1 x y t2, ty, pos, af, none⟩ :: rest) ⟨t, r⟩ k := runL_pure _ rfl rfl hn (rd2 hx hy) (op_rem rfl h.1 h.2) hk
theorem v_eql (hx : evalA t x = some (.v (.int kd a))) (hy : evalA t y = some (.v (.int kd b))) (hn : Nat.blt d C.N = true) (hk : RunL C ops rest ⟨(d, .v (.bool (a == b))) :: t, r⟩ k) : RunL C ops (⟨some d, .binOp .eql t1 x y t2, ty, pos, af, none⟩ :: rest) ⟨t, r⟩ k := runL_pure _ rfl rfl hn (rd2 hx hy) (op_eql rfl) hk
theorem v_neq (hx : evalA t x = some (.v (.int kd a))) (hy : evalA t y = some (.v (.int kd b))) (hn : Nat.blt d C.N = true) (hk : RunL C ops rest ⟨(d, .v (.bool (a != b))) :: t, r⟩ k) : RunL C ops (⟨some d, .binOp .neq t1 x y t2, ty, pos, af, none⟩ :: rest) ⟨t, r⟩ k := runL_pure _ rfl rfl hn (rd2 hx hy) (op_neq rfl) hk
theorem v_lss (hx : evalA t x = some (.v (.int kd a))) (hy : evalA t y = some (.v (.int kd b))) (hn : Nat.blt d C.N = true) (hk : RunL C ops rest ⟨(d, .v (.bool (decide (a < b)))) :: t, r⟩ k) : RunL C ops (⟨some d, .binOp .lss t1 x y t2, ty, pos, af, none⟩ :: rest) ⟨t, r⟩ k := runL_pure _ rfl rfl hn (rd2 hx hy) (op_lss rfl) hk
theorem v_leq (hx : evalA t x = some (.v (.int kd a))) (hy : evalA t y = some (.v (.int kd b))) (hn : Nat.blt d C.N = true) (hk : RunL C ops rest ⟨(d, .v (.bool (decide (a ≤ b)))) :: t, r⟩ k) : RunL C ops (⟨some d, .binOp .leq t1 x y t2, ty, pos, af, none⟩ :: rest) ⟨t, r⟩ k := runL_pure _ rfl rfl hn (rd2 hx hy) (op_leq rfl) hk
theorem v_gtr (hx : evalA t x = some (.v (.int kd a))) (hy : evalA t y = some (.v (.int kd b))) (hn : Nat.blt d C.N = true) (hk : RunL C ops rest ⟨(d, .v (.bool (decide (a > b)))) :: t, r⟩ k) : RunL C ops (⟨some d, .binOp .gtr t1 x y t2, ty, pos, af, none⟩ :: rest) ⟨t, r⟩ k := runL_pure _ rfl rfl hn (rd2 hx hy) (op_gtr rfl) hk
theorem v_geq (hx : evalA t x = some (.v (.int kd a))) (hy : evalA t y = some (.v (.int kd b))) (hn : Nat.blt d C.N = true) (hk : RunL C ops rest ⟨(d, .v (.bool (decide (a ≥ b)))) :: t, r⟩ k) : RunL C ops (⟨some d, .binOp .geq t1 x y t2, ty, pos, af, none⟩ :: rest) ⟨t, r⟩ k := runL_pure _ rfl rfl hn (rd2 hx hy) (op_geq rfl) hk
theorem v_eqlB {p q : Bool} (ht : C.P.underlying t1 = some .bool) (hx : evalA t x = some (.v (.bool p))) (hy : evalA t y = some (.v (.bool q))) (hn : Nat.blt d C.N = true) (hk : RunL C ops rest ⟨(d, .v (.bool (p == q))) :: t, r⟩ k) : RunL C ops (⟨some d, .binOp .eql t1 x y t2, ty, pos, af, none⟩ :: rest) ⟨t, r⟩ k := runL_pure _ rfl rfl hn (rd2 hx hy) (op_eql_bool rfl ht) hk
theorem v_neqB {p q : Bool} (ht : C.P.underlying t1 = some .bool) (hx : evalA t x = some (.v (.bool p))) (hy : evalA t y = some (.v (.bool q))) (hn : Nat.blt d C.N = true) (hk : RunL C ops rest ⟨(d, .v (.bool (p != q))) :: t, r⟩ k) : RunL C ops (⟨some d, .binOp .neq t1 x y t2, ty, pos, af, none⟩ :: rest) ⟨t, r⟩ k := runL_pure _ rfl rfl hn (rd2 hx hy) (op_neq_bool rfl ht) hk
theorem v_eqlS {p q : ByteArray} (hx : evalA t x = some (.v (.string p))) (hy : evalA t y = some (.v (.string q))) (hn : Nat.blt d C.N = true) (hk : RunL C ops rest ⟨(d, .v (.bool (decide (p = q)))) :: t, r⟩ k) : RunL C ops (⟨some d, .binOp .eql t1 x y t2, ty, pos, af, none⟩ :: rest) ⟨t, r⟩ k := runL_pure _ rfl rfl hn (rd2 hx hy) (op_eql_str rfl) hk
theorem v_neqS {p q : ByteArray} (hx : evalA t x = some (.v (.string p))) (hy : evalA t y = some (.v (.string q))) (hn : Nat.blt d C.N = true) (hk : RunL C ops rest ⟨(d, .v (.bool (!decide (p = q)))) :: t, r⟩ k) : RunL C ops (⟨some d, .binOp .neq t1 x y t2, ty, pos, af, none⟩ :: rest) ⟨t, r⟩ k := runL_pure _ rfl rfl hn (rd2 hx hy) (op_neq_str rfl) hk
theorem v_eqlNil {X : AV} (ht : isPtr C.P t1 = true) (hx : evalA t x = some X) (hX : NN r X) (hn : Nat.blt d C.N = true) (hk : RunL C ops rest ⟨(d, .v (.bool false)) :: t, r⟩ k) : RunL C ops (⟨some d, .binOp .eql t1 x (.const (.pointer none)) t2, ty, pos, af, none⟩ :: rest) ⟨t, r⟩ k := runL_pure _ rfl rfl hn (rd2 hx (rfl : evalA t (.const (.pointer none)) = some (.v (.pointer none)))) (op_eql_nil rfl ht hX) hk
theorem v_neqNil {X : AV} (ht : isPtr C.P t1 = true) (hx : evalA t x = some X) (hX : NN r X) (hn : Nat.blt d C.N = true) (hk : RunL C ops rest ⟨(d, .v (.bool true)) :: t, r⟩ k) : RunL C ops (⟨some d, .binOp .neq t1 x (.const (.pointer none)) t2, ty, pos, af, none⟩ :: rest) ⟨t, r⟩ k := runL_pure _ rfl rfl hn (rd2 hx (rfl : evalA t (.const (.pointer none)) = some (.v (.pointer none)))) (op_neq_nil rfl ht hX) hk
theorem v_nilEql (ht : isPtr C.P t1 = true) (hx : evalA t x = some (.v (.pointer none))) (hn : Nat.blt d C.N = true) (hk : RunL C ops rest ⟨(d, .v (.bool true)) :: t, r⟩ k) : RunL C ops (⟨some d, .binOp .eql t1 x (.const (.pointer none)) t2, ty, pos, af, none⟩ :: rest) ⟨t, r⟩ k := runL_pure _ rfl rfl hn (rd2 hx (rfl : evalA t (.const (.pointer none)) = some (.v (.pointer none)))) (op_nil_eql rfl ht) hk
theorem v_nilNeq (ht : isPtr C.P t1 = true) (hx : evalA t x = some (.v (.pointer none))) (hn : Nat.blt d C.N = true) (hk : RunL C ops rest ⟨(d, .v (.bool false)) :: t, r⟩ k) : RunL C ops (⟨some d, .binOp .neq t1 x (.const (.pointer none)) t2, ty, pos, af, none⟩ :: rest) ⟨t, r⟩ k := runL_pure _ rfl rfl hn (rd2 hx (rfl : evalA t (.const (.pointer none)) = some (.v (.pointer none)))) (op_nil_neq rfl ht) hk
end
theorem v_nilCheck (hx : evalA t x = some V) (hX : NN r V) (hn : Nat.blt d C.N = true) (hk : RunL C ops rest ⟨(d, V) :: t, r⟩ k) : RunL C ops (⟨some d, .nilCheck x, ty, pos, af, none⟩ :: rest) ⟨t, r⟩ k := runL_pure _ rfl rfl hn (rd1 hx) (op_nilCheck rfl hX) hk
theorem v_fldP {j off : Nat} {fl : FldI} (hf : fldI C.P ty' j = some fl) (h0 : Nat.beq fl.size 0 = false) (hx : evalA t x = some (.ptr g off)) (hn : Nat.blt d C.N = true) (hk : RunL C ops rest ⟨(d, .ptr g (off + fl.off)) :: t, r⟩ k) : RunL C ops (⟨some d, .fieldAddr ty' x j, ty, pos, af, none⟩ :: rest) ⟨t, r⟩ k := runL_pure _ rfl rfl hn (rd1 hx) (op_fieldAddr_ptr rfl hf (fun e => by rw [e] at h0; cases h0)) hk
theorem v_fldA {j : Nat} {l : List AV} {fl : FldI} (hf : fldI C.P ty' j = some fl) (h0 : Nat.beq fl.size 0 = false) (hx : evalA t x = some (.sem (adrS l))) (hn : Nat.blt d C.N = true) (hk : RunL C ops rest ⟨(d, .sem (adrS (l.drop fl.off))) :: t, r⟩ k) : RunL C ops (⟨some d, .fieldAddr ty' x j, ty, pos, af, none⟩ :: rest) ⟨t, r⟩ k := runL_pure _ rfl rfl hn (rd1 hx) (op_fieldAddr_adr rfl hf (fun e => by rw [e] at h0; cases h0)) hk
def oneOk (i : TyI) : Bool := i.agg || Nat.beq i.size 1
theorem oneOk_spec {i : TyI} (h : oneOk i = true) : i.agg = false → i.size = 1 := fun ha => by
  unfold oneOk at h
  rw [ha, Bool.false_or] at h
  exact Nat.eq_of_beq_eq_true h
theorem v_loadB {T' : TypeId} {l : List AV} {off : Nat} {i : TyI} (hi : tyI C.P ty' = some i) (h1 : oneOk i = true) (hx : evalA t x = some (.ptr g off)) (hg : look r g = some (.box T' l)) (hle : Nat.ble (off + i.size) l.length = true) (hp : packA i.agg ((l.drop off).take i.size) = some V) (hn : Nat.blt d C.N = true) (hk : RunL C ops rest ⟨(d, V) :: t, r⟩ k) : RunL C ops (⟨some d, .load ty' x, ty, pos, af, none⟩ :: rest) ⟨t, r⟩ k := runL_pure _ rfl rfl hn (rd1 hx) (op_load_box rfl hg hi (oneOk_spec h1) hle hp) hk
theorem v_loadA {l : List AV} {i : TyI} (hi : tyI C.P ty' = some i) (h1 : oneOk i = true) (hx : evalA t x = some (.sem (adrS l))) (hle : Nat.ble i.size l.length = true) (hp : packA i.agg (l.take i.size) = some V) (hl : AV.leaves l = true) (hn : Nat.blt d C.N = true) (hk : RunL C ops rest ⟨(d, V) :: t, r⟩ k) : RunL C ops (⟨some d, .load ty' x, ty, pos, af, none⟩ :: rest) ⟨t, r⟩ k := runL_pure _ rfl rfl hn (rd1 hx) (op_load_adr rfl hi (oneOk_spec h1) hle hp hl) hk
theorem v_loadO {α : Type} {e : TypeId} {E : Enc α} {xs : List α} {off j f : Nat} {v : α} {i : TyI} (hi : tyI C.P ty' = some i) (h1 : oneOk i = true) (hx : evalA t x = some (.ptr g off)) (hg : look r g = some (.obj (ownS e E xs))) (hoff : off = j * E.sz + f) (hj : xs[j]? = some v) (hle : f + i.size ≤ E.sz) (hp : packA i.agg (((E.f v).drop f).take i.size) = some V) (hn : Nat.blt d C.N = true) (hk : RunL C ops rest ⟨(d, V) :: t, r⟩ k) : RunL C ops (⟨some d, .load ty' x, ty, pos, af, none⟩ :: rest) ⟨t, r⟩ k := runL_pure _ rfl rfl hn (rd1 hx) (op_load_own rfl hg hoff hj hi (oneOk_spec h1) hle hp) hk
theorem v_idxL {α : Type} {E : Enc α} {xs : List α} {kd : IntKind} {m : Int} {el : α} {e : TypeId} {i : TyI} (hE : sliceE C.P ty' = some e) (hi : tyI C.P e = some i) (hx : evalA t x = some (.sem (listS E xs))) (hy : evalA t y = some (.v (.int kd m))) (hsz : i.size = E.sz) (hne : Nat.blt 0 E.sz = true) (h0 : 0 ≤ m) (hel : xs[m.toNat]? = some el) (hn : Nat.blt d C.N = true) (hk : RunL C ops rest ⟨(d, .sem (adrS (E.f el))) :: t, r⟩ k) : RunL C ops (⟨some d, .indexAddr ty' x y, ty, pos, af, none⟩ :: rest) ⟨t, r⟩ k := runL_pure _ rfl rfl hn (rd2 hx hy) (op_index_list rfl hE hi hsz h0 hel (Nat.le_of_ble_eq_true hne)) hk
theorem v_idxO {α : Type} {e' : TypeId} {E : Enc α} {xs : List α} {kd : IntKind} {m : Int} {e : TypeId} {i : TyI} (hE : sliceE C.P ty' = some e) (hi : tyI C.P e = some i) (hx : evalA t x = some (.res g)) (hg : look r g = some (.obj (ownS e' E xs))) (hy : evalA t y = some (.v (.int kd m))) (hsz : i.size = E.sz) (h0 : 0 ≤ m) (hlt : m.toNat < xs.length) (hn : Nat.blt d C.N = true) (hk : RunL C ops rest ⟨(d, .ptr g (m.toNat * E.sz)) :: t, r⟩ k) : RunL C ops (⟨some d, .indexAddr ty' x y, ty, pos, af, none⟩ :: rest) ⟨t, r⟩ k := runL_pure _ rfl rfl hn (rd2 hx hy) (op_index_own rfl hg hE hi hsz h0 hlt) hk
theorem v_lenL {α : Type} {E : Enc α} {xs : List α} {e : TypeId} (hE : sliceE C.P ty' = some e) (hx : evalA t x = some (.sem (listS E xs))) (hn : Nat.blt d C.N = true) (hk : RunL C ops rest ⟨(d, .v (.int .i64 xs.length)) :: t, r⟩ k) : RunL C ops (⟨some d, .call { callee := .builtin .len, args := #[x], argTypes := #[ty'] }, ty, pos, af, none⟩ :: rest) ⟨t, r⟩ k := runL_pure _ rfl rfl hn (rd1 hx) (op_len_list rfl hE) hk
theorem v_lenO {α : Type} {e' : TypeId} {E : Enc α} {xs : List α} {e : TypeId} (hE : sliceE C.P ty' = some e) (hx : evalA t x = some (.res g)) (hg : look r g = some (.obj (ownS e' E xs))) (hn : Nat.blt d C.N = true) (hk : RunL C ops rest ⟨(d, .v (.int .i64 xs.length)) :: t, r⟩ k) : RunL C ops (⟨some d, .call { callee := .builtin .len, args := #[x], argTypes := #[ty'] }, ty, pos, af, none⟩ :: rest) ⟨t, r⟩ k := runL_pure _ rfl rfl hn (rd1 hx) (op_len_own rfl hg hE) hk
theorem v_lenN {e : TypeId} (hE : sliceE C.P ty' = some e) (hx : evalA t x = some (.v (.slice none 0 0))) (hn : Nat.blt d C.N = true) (hk : RunL C ops rest ⟨(d, .v (.int .i64 0)) :: t, r⟩ k) : RunL C ops (⟨some d, .call { callee := .builtin .len, args := #[x], argTypes := #[ty'] }, ty, pos, af, none⟩ :: rest) ⟨t, r⟩ k := runL_pure _ rfl rfl hn (rd1 hx) (op_len_nil rfl hE) hk
theorem v_lenS {s : ByteArray} (hE : C.P.underlying ty' = some .string) (hx : evalA t x = some (.v (.string s))) (hn : Nat.blt d C.N = true) (hk : RunL C ops rest ⟨(d, .v (.int .i64 s.size)) :: t, r⟩ k) : RunL C ops (⟨some d, .call { callee := .builtin .len, args := #[x], argTypes := #[ty'] }, ty, pos, af, none⟩ :: rest) ⟨t, r⟩ k := runL_pure _ rfl rfl hn (rd1 hx) (op_len_str rfl hE) hk
theorem v_sliceH {α : Type} {E : Enc α} {xs : List α} {kd : IntKind} {m : Int} {e : TypeId} {i : TyI} (hE : sliceE C.P ty' = some e) (hi : tyI C.P e = some i) (hx : evalA t x = some (.sem (listS E xs))) (hy : evalA t y = some (.v (.int kd m))) (hsz : i.size = E.sz) (h0 : 0 ≤ m) (hm : m ≤ xs.length) (hn : Nat.blt d C.N = true) (hk : RunL C ops rest ⟨(d, .sem (listS E (xs.take m.toNat))) :: t, r⟩ k) : RunL C ops (⟨some d, .slice ty' x none (some y) none, ty, pos, af, none⟩ :: rest) ⟨t, r⟩ k := runL_pure _ rfl rfl hn (rd2 hx hy) (op_slice_h rfl hE hi hsz h0 hm) hk
theorem v_sliceL {α : Type} {E : Enc α} {xs : List α} {kd : IntKind} {m : Int} {e : TypeId} {i : TyI} (hE : sliceE C.P ty' = some e) (hi : tyI C.P e = some i) (hx : evalA t x = some (.sem (listS E xs))) (hy : evalA t y = some (.v (.int kd m))) (hsz : i.size = E.sz) (h0 : 0 ≤ m) (hm : m ≤ xs.length) (hn : Nat.blt d C.N = true) (hk : RunL C ops rest ⟨(d, .sem (listS E (xs.drop m.toNat))) :: t, r⟩ k) : RunL C ops (⟨some d, .slice ty' x (some y) none none, ty, pos, af, none⟩ :: rest) ⟨t, r⟩ k := runL_pure _ rfl rfl hn (rd2 hx hy) (op_slice_l rfl hE hi hsz h0 hm) hk
theorem v_alloc {i : TyI} (g : Nat) (hi : tyI C.P ty' = some i) (hf : freshR g r = true) (hft : freshT g t = true) (h0 : look C.r0 g = none) (hn : Nat.blt d C.N = true) (hk : RunL C ops rest ⟨(d, .ptr g 0) :: t, (g, .box ty' (i.zero.map .v)) :: r⟩ k) : RunL C ops (⟨some d, .alloc ty', ty, pos, af, none⟩ :: rest) ⟨t, r⟩ k := runL_eff [] [g] rfl rfl hn trivial (by simp [freshTs, hft]) (op_alloc g rfl hi hf h0) hk
theorem v_allocD {i : TyI} (hi : tyI C.P ty' = some i) (hf : freshR d r = true) (hft : freshT d t = true) (h0 : look C.r0 d = none) (hn : Nat.blt d C.N = true) (hk : RunL C ops rest ⟨(d, .ptr d 0) :: t, (d, .box ty' (i.zero.map .v)) :: r⟩ k) : RunL C ops (⟨some d, .alloc ty', ty, pos, af, none⟩ :: rest) ⟨t, r⟩ k := v_alloc d hi hf hft h0 hn hk
theorem v_box (g : Nat) (hx : evalA t x = some V) (hV : okC V = true) (hVg : V.has g = false) (hf : freshR g r = true) (hft : freshT g t = true) (h0 : look C.r0 g = none) (hn : Nat.blt d C.N = true) (hk : RunL C ops rest ⟨(d, .ptr g 0) :: t, (g, .box ty' (cellsA V)) :: r⟩ k) : RunL C ops (⟨some d, .box ty' x, ty, pos, af, none⟩ :: rest) ⟨t, r⟩ k := runL_eff _ [g] rfl rfl hn (rd1 hx) (by simp [freshTs, hft]) (op_box g rfl hV hf h0 hVg) hk
theorem v_boxD (hx : evalA t x = some V) (hV : okC V = true) (hVg : V.has d = false) (hf : freshR d r = true) (hft : freshT d t = true) (h0 : look C.r0 d = none) (hn : Nat.blt d C.N = true) (hk : RunL C ops rest ⟨(d, .ptr d 0) :: t, (d, .box ty' (cellsA V)) :: r⟩ k) : RunL C ops (⟨some d, .box ty' x, ty, pos, af, none⟩ :: rest) ⟨t, r⟩ k := v_box d hx hV hVg hf hft h0 hn hk
theorem v_storeB {T' : TypeId} {l : List AV} {off : Nat} {i : TyI} (hi : tyI C.P ty' = some i) (hx : evalA t x = some (.ptr g off)) (hy : evalA t y = some V) (hg : look r g = some (.box T' l)) (hV : okC V = true) (hc : AV.cellL (cellsA V) = true) (hl : (cellsA V).length = i.size) (hle : Nat.ble (off + i.size) l.length = true) (hk : RunL C ops rest ⟨t, (g, .box T' (spliceL l off (cellsA V))) :: r⟩ k) : RunL C ops (⟨none, .store ty' x y, ty, pos, af, none⟩ :: rest) ⟨t, r⟩ k := runL_eff0 _ [] rfl rfl (rd2 hx hy) rfl (op_store_box rfl hg hi hV hc hl hle) hk
theorem v_append {α : Type} {e : TypeId} {E : Enc α} {xs ys : List α} {i : TyI} (g' : Nat) (hE : sliceE C.P ty' = some e) (hi : tyI C.P e = some i) (hx : evalA t x = some (.res g)) (hg : look r g = some (.obj (ownS e E xs))) (hy : evalA t y = some (.sem (listS E ys))) (hsz : i.size = E.sz) (hz : i.zero.length = E.sz) (h0 : Nat.blt 0 E.sz = true) (hby : Nat.ble i.bytes 100000000 = true) (hm : xs.length + ys.length ≤ 1000000) (hf : freshR g' r = true) (hft : freshT g' t = true) (hr0 : look C.r0 g' = none) (hn : Nat.blt d C.N = true) (hk : RunL C ops rest ⟨(d, .res g') :: t, (g', .obj (ownS e E (xs ++ ys))) :: (g, .dead) :: r⟩ k) : RunL C ops (⟨some d, .call { callee := .builtin .append, args := #[x, y], argTypes := #[ty', ty'] }, ty, pos, af, none⟩ :: rest) ⟨t, r⟩ k := runL_eff _ [g'] rfl rfl hn (rd2 hx hy) (by simp [freshTs, hft]) (op_append g' rfl hg hE hi hsz hz (Nat.le_of_ble_eq_true h0) hm (Nat.le_of_ble_eq_true hby) hf hr0) hk
theorem Rd.zipRd {t : List (Nat × AV)} : ∀ {ps : List (Nat × Operand)} {l : List AV}, (∀ q ∈ zipRd ps l, evalA t q.1 = some q.2) → Rd t (Go.Proofs.Ytjkidecaciomgaa.zipRd ps l)
  | [], l, _ => by cases l <;> exact trivial
  | p :: ps, [], _ => trivial
  | p :: ps, a :: l, h => ⟨h (p.2, a) (by simp [Go.Proofs.Ytjkidecaciomgaa.zipRd]), Rd.zipRd fun q hq => h q (by simp [Go.Proofs.Ytjkidecaciomgaa.zipRd, hq])⟩
theorem v_build {ps : List (Nat × Operand)} {pl : List (Nat × Nat)} {i : TyI} (l : List AV) {l' : List AV} (hpl : placesI C.P ty' = some pl) (hi : tyI C.P ty' = some i) (hr : Rd t (zipRd ps l)) (hlen : ps.length = l.length) (hf : fillA (fun n => pl[n]?) (i.zero.map .v) (zipFl ps l) = some l') (hn : Nat.blt d C.N = true) (hk : RunL C ops rest ⟨(d, .agg l') :: t, r⟩ k) : RunL C ops (⟨some d, .build ty' ps.toArray, ty, pos, af, none⟩ :: rest) ⟨t, r⟩ k := runL_pure _ rfl rfl hn hr (op_build l rfl hpl hi hlen hf) hk
theorem v_lit {α : Type} (E : Enc α) (ys : List α) {e : TypeId} {i : TyI} (xs : List Operand) (l : List AV) {n : Nat} {ps : Array (Nat × Operand)} (hE : sliceE C.P ty' = some e) (hi : tyI C.P e = some i) (hps : ps = (seqP 0 xs).toArray) (hxn : xs.length = n) (hr : Rd t (xs.zip l)) (hsz : i.size = E.sz) (hz : i.zero.length = i.size) (hlen : xs.length = l.length) (hy : ys.length = n) (hmax : Nat.ble (n * i.size) 16777216 = true) (hok : okL E.sz l = true) (hl : lineA l = E.all ys) (hn : Nat.blt d C.N = true) (hk : RunL C ops rest ⟨(d, .sem (listS E ys)) :: t, r⟩ k) : RunL C ops (⟨some d, .buildSlice ty' n ps, ty, pos, af, none⟩ :: rest) ⟨t, r⟩ k := runL_pure _ rfl rfl hn hr (op_buildSlice E ys l (by rw [hps]) hxn hE hi hsz hz hlen hy (Nat.le_of_ble_eq_true hmax) hok hl) hk
theorem v_func {f : FuncId} {xs : List Operand} (l : List AV) (hr : Rd t (xs.zip l)) (hlen : xs.length = l.length) (hn : Nat.blt d C.N = true) (hk : RunL C ops rest ⟨(d, .fn f l) :: t, r⟩ k) : RunL C ops (⟨some d, .makeFunc (.func f) #[] xs.toArray, ty, pos, af, none⟩ :: rest) ⟨t, r⟩ k := runL_pure _ rfl rfl hn hr (op_makeFunc rfl hlen) hk
theorem v_call {f : FuncId} {l : List AV} {xs : List Operand} {ts : Array TypeId} (hF : Fun C.P f l [] V []) (hc : callB C.P f = true) (hr : Rd t (xs.zip l)) (hlen : xs.length = l.length) (hV : V.noRef = true) (hn : Nat.blt d C.N = true) (hk : RunL C ops rest ⟨(d, V) :: t, r⟩ k) : RunL C ops (⟨some d, .call { callee := .value (.func f), args := xs.toArray, argTypes := ts }, ty, pos, af, none⟩ :: rest) ⟨t, r⟩ k := runL_pure _ rfl rfl hn (rdC hr) (op_call hF rfl hc hlen hV) hk
theorem v_call0 {f : FuncId} {l : List AV} {xs : List Operand} {ts : Array TypeId} (hF : Fun C.P f l [] V []) (hc : callB C.P f = true) (hr : Rd t (xs.zip l)) (hlen : xs.length = l.length) (hV : V.noRef = true) (hk : RunL C ops rest ⟨t, r⟩ k) : RunL C ops (⟨none, .call { callee := .value (.func f), args := xs.toArray, argTypes := ts }, ty, pos, af, none⟩ :: rest) ⟨t, r⟩ k := runL_pure0 _ rfl rfl (rdC hr) (op_call hF rfl hc hlen hV) hk
theorem freshTs_of {t : List (Nat × AV)} {l : List Nat} (h : freshTs t l = true) : freshTs t l = true := h
/-- A call that hands back a row of its own: it is g from now on. -/
theorem v_callO {f : FuncId} {l : List AV} {xs : List Operand} {ts : Array TypeId} {R : Res} (g : Nat) (hF : Fun C.P f l [] (.res 0) [(0, .obj R)]) (hc : callB C.P f = true) (hr : Rd t (xs.zip l)) (hlen : xs.length = l.length) (hl : AV.noRefs l = true) (hf : freshR g r = true) (hft : freshT g t = true) (h0 : notIn g (idsOf C.r0) = true) (hn : Nat.blt d C.N = true) (hk : RunL C ops rest ⟨(d, .res g) :: t, (g, .obj R) :: r⟩ k) : RunL C ops (⟨some d, .call { callee := .value (.func f), args := xs.toArray, argTypes := ts }, ty, pos, af, none⟩ :: rest) ⟨t, r⟩ k := by
  have h1 := op_callR (C := C) (r := r) (o := ⟨some d, .call { callee := .value (.func f), args := xs.toArray, argTypes := ts }, ty, pos, af, none⟩) (xs := xs) (ts := ts) (fun _ => g) hF rfl hc hlen trivial rfl rfl rfl (by simp [newIds, notIn, idsOf, freshAll, hf, h0]) rfl rfl rfl
  rw [AV.renL_noRefs hl] at h1
  exact runL_eff _ [g] rfl rfl hn (rdC hr) (by simp [freshTs, hft]) h1 hk
theorem v_callR {f : FuncId} {r0 r1 : List (Nat × RK)} {l : List AV} {xs : List Operand} {ts : Array TypeId} (m : Nat → Nat) (hF : Fun C.P f l r0 V r1) (hc : callB C.P f = true) (hr : Rd t (xs.zip (AV.renL m l))) (hlen : xs.length = l.length) (hw : WkR r m r0) (hn0 : nodupB (idsM m r0) = true) (hl0 : liveAll r0 = true) (hn1 : nodupB (idsM m r1) = true) (hfr : freshAll r C.r0 (newIds m r0 r1) = true) (hft : freshTs t (newIds m r0 r1) = true) (hnew : allNotIn (idsM m r0) (newIds m r0 r1) = true) (hcl : closedR (idsOf r1 ++ idsOf r0) r1 = true) (hrv : V.inL (idsOf r1 ++ idsOf r0) = true) (hn : Nat.blt d C.N = true) (hk : RunL C ops rest ⟨(d, V.ren m) :: t, renR m r1 (deadR m r0 r)⟩ k) : RunL C ops (⟨some d, .call { callee := .value (.func f), args := xs.toArray, argTypes := ts }, ty, pos, af, none⟩ :: rest) ⟨t, r⟩ k :=
  runL_eff _ _ rfl rfl hn (rdC hr) hft (op_callR m hF rfl hc hlen hw hn0 hl0 hn1 hfr hnew hcl hrv) hk
theorem v_callR0 {f : FuncId} {r0 r1 : List (Nat × RK)} {l : List AV} {xs : List Operand} {ts : Array TypeId} (m : Nat → Nat) (hF : Fun C.P f l r0 V r1) (hc : callB C.P f = true) (hr : Rd t (xs.zip (AV.renL m l))) (hlen : xs.length = l.length) (hw : WkR r m r0) (hn0 : nodupB (idsM m r0) = true) (hl0 : liveAll r0 = true) (hn1 : nodupB (idsM m r1) = true) (hfr : freshAll r C.r0 (newIds m r0 r1) = true) (hft : freshTs t (newIds m r0 r1) = true) (hnew : allNotIn (idsM m r0) (newIds m r0 r1) = true) (hcl : closedR (idsOf r1 ++ idsOf r0) r1 = true) (hrv : V.inL (idsOf r1 ++ idsOf r0) = true) (hk : RunL C ops rest ⟨t, renR m r1 (deadR m r0 r)⟩ k) : RunL C ops (⟨none, .call { callee := .value (.func f), args := xs.toArray, argTypes := ts }, ty, pos, af, none⟩ :: rest) ⟨t, r⟩ k :=
  runL_eff0 _ _ rfl rfl (rdC hr) hft (op_callR m hF rfl hc hlen hw hn0 hl0 hn1 hfr hnew hcl hrv) hk
theorem v_callC {f : FuncId} {r0 r1 : List (Nat × RK)} {l cap : List AV} {xs : List Operand} {ts : Array TypeId} (m : Nat → Nat) (hF : Fun C.P f (l ++ cap) r0 V r1) (hc : callB C.P f = true) (hx : evalA t x = some (.fn f (AV.renL m cap))) (hr : Rd t (xs.zip (AV.renL m l))) (hlen : xs.length = l.length) (hw : WkR r m r0) (hn0 : nodupB (idsM m r0) = true) (hl0 : liveAll r0 = true) (hn1 : nodupB (idsM m r1) = true) (hfr : freshAll r C.r0 (newIds m r0 r1) = true) (hft : freshTs t (newIds m r0 r1) = true) (hnew : allNotIn (idsM m r0) (newIds m r0 r1) = true) (hcl : closedR (idsOf r1 ++ idsOf r0) r1 = true) (hrv : V.inL (idsOf r1 ++ idsOf r0) = true) (hn : Nat.blt d C.N = true) (hk : RunL C ops rest ⟨(d, V.ren m) :: t, renR m r1 (deadR m r0 r)⟩ k) : RunL C ops (⟨some d, .call { callee := .value x, args := xs.toArray, argTypes := ts }, ty, pos, af, none⟩ :: rest) ⟨t, r⟩ k :=
  runL_eff _ _ rfl rfl hn (rdX hx hr) hft (op_callC m hF rfl hc hlen hw hn0 hl0 hn1 hfr hnew hcl hrv) hk
end
end Go.Proofs.Ytjkidecaciomgaa
/- The program's types, and which functions are called as they are: printed by wip/tools/tytab.py. -/
set_option linter.unusedVariables false
namespace Go.Proofs.Ytjkidecaciomgaa
theorem ty1 : tyI Try.prog 1 = some ⟨false, 1, 8, [.nilFunc]⟩ := by kernel_rfl
theorem ty2 : tyI Try.prog 2 = some ⟨false, 1, 8, [(.int .i64 0)]⟩ := by kernel_rfl
theorem ty3 : tyI Try.prog 3 = some ⟨false, 1, 8, [(.int .i64 0)]⟩ := by kernel_rfl
theorem ty4 : tyI Try.prog 4 = some ⟨false, 1, 1, [(.bool false)]⟩ := by kernel_rfl
theorem ty5 : tyI Try.prog 5 = some ⟨false, 1, 1, [(.int .u8 0)]⟩ := by kernel_rfl
theorem ty6 : tyI Try.prog 6 = some ⟨false, 1, 1, [(.int .u8 0)]⟩ := by kernel_rfl
theorem ty7 : tyI Try.prog 7 = some ⟨true, 4, 24, [(.int .i64 0), (.int .i64 0), (.bool false), (.int .u8 0)]⟩ := by kernel_rfl
theorem pl7 : placesI Try.prog 7 = some [(0, 1), (1, 1), (2, 1), (3, 1)] := by kernel_rfl
theorem fl7_0 : fldI Try.prog 7 0 = some ⟨0, 1, false⟩ := by kernel_rfl
theorem fl7_1 : fldI Try.prog 7 1 = some ⟨1, 1, false⟩ := by kernel_rfl
theorem fl7_2 : fldI Try.prog 7 2 = some ⟨2, 1, false⟩ := by kernel_rfl
theorem fl7_3 : fldI Try.prog 7 3 = some ⟨3, 1, false⟩ := by kernel_rfl
theorem ty8 : tyI Try.prog 8 = some ⟨true, 4, 24, [(.int .i64 0), (.int .i64 0), (.bool false), (.int .u8 0)]⟩ := by kernel_rfl
theorem pl8 : placesI Try.prog 8 = some [(0, 1), (1, 1), (2, 1), (3, 1)] := by kernel_rfl
theorem fl8_0 : fldI Try.prog 8 0 = some ⟨0, 1, false⟩ := by kernel_rfl
theorem fl8_1 : fldI Try.prog 8 1 = some ⟨1, 1, false⟩ := by kernel_rfl
theorem fl8_2 : fldI Try.prog 8 2 = some ⟨2, 1, false⟩ := by kernel_rfl
theorem fl8_3 : fldI Try.prog 8 3 = some ⟨3, 1, false⟩ := by kernel_rfl
theorem ty9 : tyI Try.prog 9 = some ⟨false, 1, 16, [(.string ⟨#[]⟩)]⟩ := by kernel_rfl
theorem ty10 : tyI Try.prog 10 = some ⟨false, 1, 16, [(.string ⟨#[]⟩)]⟩ := by kernel_rfl
theorem ty11 : tyI Try.prog 11 = some ⟨false, 1, 16, [(.string ⟨#[]⟩)]⟩ := by kernel_rfl
theorem ty12 : tyI Try.prog 12 = some ⟨false, 1, 8, [(.int .u64 0)]⟩ := by kernel_rfl
theorem ty13 : tyI Try.prog 13 = some ⟨true, 2, 24, [(.string ⟨#[]⟩), (.int .u64 0)]⟩ := by kernel_rfl
theorem pl13 : placesI Try.prog 13 = some [(0, 1), (1, 1)] := by kernel_rfl
theorem fl13_0 : fldI Try.prog 13 0 = some ⟨0, 1, false⟩ := by kernel_rfl
theorem fl13_1 : fldI Try.prog 13 1 = some ⟨1, 1, false⟩ := by kernel_rfl
theorem ty14 : tyI Try.prog 14 = some ⟨true, 2, 24, [(.string ⟨#[]⟩), (.int .u64 0)]⟩ := by kernel_rfl
theorem pl14 : placesI Try.prog 14 = some [(0, 1), (1, 1)] := by kernel_rfl
theorem fl14_0 : fldI Try.prog 14 0 = some ⟨0, 1, false⟩ := by kernel_rfl
theorem fl14_1 : fldI Try.prog 14 1 = some ⟨1, 1, false⟩ := by kernel_rfl
theorem ty15 : tyI Try.prog 15 = some ⟨false, 1, 8, [(.pointer none)]⟩ := by kernel_rfl
theorem pt15 : isPtr Try.prog 15 = true := by kernel_rfl
theorem ty16 : tyI Try.prog 16 = some ⟨false, 1, 8, [(.pointer none)]⟩ := by kernel_rfl
theorem pt16 : isPtr Try.prog 16 = true := by kernel_rfl
theorem ty17 : tyI Try.prog 17 = some ⟨false, 1, 8, [(.pointer none)]⟩ := by kernel_rfl
theorem pt17 : isPtr Try.prog 17 = true := by kernel_rfl
theorem ty18 : tyI Try.prog 18 = some ⟨true, 1, 8, [(.pointer none)]⟩ := by kernel_rfl
theorem pl18 : placesI Try.prog 18 = some [(0, 1)] := by kernel_rfl
theorem fl18_0 : fldI Try.prog 18 0 = some ⟨0, 1, false⟩ := by kernel_rfl
theorem ty19 : tyI Try.prog 19 = some ⟨true, 1, 8, [(.pointer none)]⟩ := by kernel_rfl
theorem pl19 : placesI Try.prog 19 = some [(0, 1)] := by kernel_rfl
theorem fl19_0 : fldI Try.prog 19 0 = some ⟨0, 1, false⟩ := by kernel_rfl
theorem ty20 : tyI Try.prog 20 = some ⟨false, 1, 16, [.nilIface]⟩ := by kernel_rfl
theorem ty21 : tyI Try.prog 21 = some ⟨false, 1, 4, [(.int .i32 0)]⟩ := by kernel_rfl
theorem ty22 : tyI Try.prog 22 = some ⟨false, 1, 24, [(.slice none 0 0)]⟩ := by kernel_rfl
theorem sl22 : sliceE Try.prog 22 = some 35 := by kernel_rfl
theorem ty23 : tyI Try.prog 23 = some ⟨false, 1, 8, [.nilFunc]⟩ := by kernel_rfl
theorem ty24 : tyI Try.prog 24 = some ⟨false, 1, 8, [.nilFunc]⟩ := by kernel_rfl
theorem ty25 : tyI Try.prog 25 = some ⟨false, 1, 8, [(.pointer none)]⟩ := by kernel_rfl
theorem pt25 : isPtr Try.prog 25 = true := by kernel_rfl
theorem ty26 : tyI Try.prog 26 = some ⟨false, 1, 8, [.nilFunc]⟩ := by kernel_rfl
theorem ty27 : tyI Try.prog 27 = some ⟨false, 1, 24, [(.slice none 0 0)]⟩ := by kernel_rfl
theorem sl27 : sliceE Try.prog 27 = some 33 := by kernel_rfl
theorem ty28 : tyI Try.prog 28 = some ⟨false, 1, 8, [(.int .i64 0)]⟩ := by kernel_rfl
theorem ty30 : tyI Try.prog 30 = some ⟨false, 1, 8, [.nilFunc]⟩ := by kernel_rfl
theorem ty31 : tyI Try.prog 31 = some ⟨false, 1, 24, [(.slice none 0 0)]⟩ := by kernel_rfl
theorem sl31 : sliceE Try.prog 31 = some 3 := by kernel_rfl
theorem ty32 : tyI Try.prog 32 = some ⟨true, 9, 104, [(.int .i64 0), (.int .i64 0), (.int .i64 0), (.int .i64 0), (.int .i64 0), (.bool false), (.string ⟨#[]⟩), (.string ⟨#[]⟩), (.slice none 0 0)]⟩ := by kernel_rfl
theorem pl32 : placesI Try.prog 32 = some [(0, 1), (1, 1), (2, 1), (3, 1), (4, 1), (5, 1), (6, 1), (7, 1), (8, 1)] := by kernel_rfl
theorem fl32_0 : fldI Try.prog 32 0 = some ⟨0, 1, false⟩ := by kernel_rfl
theorem fl32_1 : fldI Try.prog 32 1 = some ⟨1, 1, false⟩ := by kernel_rfl
theorem fl32_2 : fldI Try.prog 32 2 = some ⟨2, 1, false⟩ := by kernel_rfl
theorem fl32_3 : fldI Try.prog 32 3 = some ⟨3, 1, false⟩ := by kernel_rfl
theorem fl32_4 : fldI Try.prog 32 4 = some ⟨4, 1, false⟩ := by kernel_rfl
theorem fl32_5 : fldI Try.prog 32 5 = some ⟨5, 1, false⟩ := by kernel_rfl
theorem fl32_6 : fldI Try.prog 32 6 = some ⟨6, 1, false⟩ := by kernel_rfl
theorem fl32_7 : fldI Try.prog 32 7 = some ⟨7, 1, false⟩ := by kernel_rfl
theorem fl32_8 : fldI Try.prog 32 8 = some ⟨8, 1, false⟩ := by kernel_rfl
theorem ty33 : tyI Try.prog 33 = some ⟨true, 9, 104, [(.int .i64 0), (.int .i64 0), (.int .i64 0), (.int .i64 0), (.int .i64 0), (.bool false), (.string ⟨#[]⟩), (.string ⟨#[]⟩), (.slice none 0 0)]⟩ := by kernel_rfl
theorem pl33 : placesI Try.prog 33 = some [(0, 1), (1, 1), (2, 1), (3, 1), (4, 1), (5, 1), (6, 1), (7, 1), (8, 1)] := by kernel_rfl
theorem fl33_0 : fldI Try.prog 33 0 = some ⟨0, 1, false⟩ := by kernel_rfl
theorem fl33_1 : fldI Try.prog 33 1 = some ⟨1, 1, false⟩ := by kernel_rfl
theorem fl33_2 : fldI Try.prog 33 2 = some ⟨2, 1, false⟩ := by kernel_rfl
theorem fl33_3 : fldI Try.prog 33 3 = some ⟨3, 1, false⟩ := by kernel_rfl
theorem fl33_4 : fldI Try.prog 33 4 = some ⟨4, 1, false⟩ := by kernel_rfl
theorem fl33_5 : fldI Try.prog 33 5 = some ⟨5, 1, false⟩ := by kernel_rfl
theorem fl33_6 : fldI Try.prog 33 6 = some ⟨6, 1, false⟩ := by kernel_rfl
theorem fl33_7 : fldI Try.prog 33 7 = some ⟨7, 1, false⟩ := by kernel_rfl
theorem fl33_8 : fldI Try.prog 33 8 = some ⟨8, 1, false⟩ := by kernel_rfl
theorem ty34 : tyI Try.prog 34 = some ⟨true, 14, 168, [(.int .i64 0), (.int .i64 0), (.int .i64 0), (.string ⟨#[]⟩), (.int .i64 0), (.int .i64 0), (.int .i64 0), (.int .i64 0), (.int .i64 0), (.bool false), (.string ⟨#[]⟩), (.string ⟨#[]⟩), (.slice none 0 0), (.slice none 0 0)]⟩ := by kernel_rfl
theorem pl34 : placesI Try.prog 34 = some [(0, 1), (1, 1), (2, 1), (3, 1), (4, 9), (13, 1)] := by kernel_rfl
theorem fl34_0 : fldI Try.prog 34 0 = some ⟨0, 1, false⟩ := by kernel_rfl
theorem fl34_1 : fldI Try.prog 34 1 = some ⟨1, 1, false⟩ := by kernel_rfl
theorem fl34_2 : fldI Try.prog 34 2 = some ⟨2, 1, false⟩ := by kernel_rfl
theorem fl34_3 : fldI Try.prog 34 3 = some ⟨3, 1, false⟩ := by kernel_rfl
theorem fl34_4 : fldI Try.prog 34 4 = some ⟨4, 9, true⟩ := by kernel_rfl
theorem fl34_5 : fldI Try.prog 34 5 = some ⟨13, 1, false⟩ := by kernel_rfl
theorem ty35 : tyI Try.prog 35 = some ⟨true, 14, 168, [(.int .i64 0), (.int .i64 0), (.int .i64 0), (.string ⟨#[]⟩), (.int .i64 0), (.int .i64 0), (.int .i64 0), (.int .i64 0), (.int .i64 0), (.bool false), (.string ⟨#[]⟩), (.string ⟨#[]⟩), (.slice none 0 0), (.slice none 0 0)]⟩ := by kernel_rfl
theorem pl35 : placesI Try.prog 35 = some [(0, 1), (1, 1), (2, 1), (3, 1), (4, 9), (13, 1)] := by kernel_rfl
theorem fl35_0 : fldI Try.prog 35 0 = some ⟨0, 1, false⟩ := by kernel_rfl
theorem fl35_1 : fldI Try.prog 35 1 = some ⟨1, 1, false⟩ := by kernel_rfl
theorem fl35_2 : fldI Try.prog 35 2 = some ⟨2, 1, false⟩ := by kernel_rfl
theorem fl35_3 : fldI Try.prog 35 3 = some ⟨3, 1, false⟩ := by kernel_rfl
theorem fl35_4 : fldI Try.prog 35 4 = some ⟨4, 9, true⟩ := by kernel_rfl
theorem fl35_5 : fldI Try.prog 35 5 = some ⟨13, 1, false⟩ := by kernel_rfl
theorem ty37 : tyI Try.prog 37 = some ⟨false, 1, 8, [.nilFunc]⟩ := by kernel_rfl
theorem ty38 : tyI Try.prog 38 = some ⟨false, 1, 8, [.nilFunc]⟩ := by kernel_rfl
theorem ty40 : tyI Try.prog 40 = some ⟨false, 1, 8, [.nilFunc]⟩ := by kernel_rfl
theorem ty41 : tyI Try.prog 41 = some ⟨false, 1, 8, [.nilFunc]⟩ := by kernel_rfl
theorem ty42 : tyI Try.prog 42 = some ⟨false, 1, 8, [.nilFunc]⟩ := by kernel_rfl
theorem ty43 : tyI Try.prog 43 = some ⟨false, 1, 8, [.nilFunc]⟩ := by kernel_rfl
theorem ty44 : tyI Try.prog 44 = some ⟨false, 1, 8, [.nilFunc]⟩ := by kernel_rfl
theorem ty45 : tyI Try.prog 45 = some ⟨false, 1, 8, [.nilFunc]⟩ := by kernel_rfl
theorem ty46 : tyI Try.prog 46 = some ⟨false, 1, 8, [.nilFunc]⟩ := by kernel_rfl
theorem ty47 : tyI Try.prog 47 = some ⟨false, 1, 8, [.nilFunc]⟩ := by kernel_rfl
theorem ty48 : tyI Try.prog 48 = some ⟨false, 1, 8, [.nilFunc]⟩ := by kernel_rfl
theorem ty49 : tyI Try.prog 49 = some ⟨false, 1, 8, [.nilFunc]⟩ := by kernel_rfl
theorem ty50 : tyI Try.prog 50 = some ⟨false, 1, 8, [.nilFunc]⟩ := by kernel_rfl
theorem ty51 : tyI Try.prog 51 = some ⟨false, 1, 8, [.nilFunc]⟩ := by kernel_rfl
theorem ty52 : tyI Try.prog 52 = some ⟨true, 1, 24, [(.slice none 0 0)]⟩ := by kernel_rfl
theorem pl52 : placesI Try.prog 52 = some [(0, 1)] := by kernel_rfl
theorem fl52_0 : fldI Try.prog 52 0 = some ⟨0, 1, false⟩ := by kernel_rfl
theorem ty53 : tyI Try.prog 53 = some ⟨true, 1, 24, [(.slice none 0 0)]⟩ := by kernel_rfl
theorem pl53 : placesI Try.prog 53 = some [(0, 1)] := by kernel_rfl
theorem fl53_0 : fldI Try.prog 53 0 = some ⟨0, 1, false⟩ := by kernel_rfl
theorem ty54 : tyI Try.prog 54 = some ⟨false, 1, 8, [.nilFunc]⟩ := by kernel_rfl
theorem ty55 : tyI Try.prog 55 = some ⟨false, 1, 8, [.nilFunc]⟩ := by kernel_rfl
theorem ty56 : tyI Try.prog 56 = some ⟨false, 1, 8, [.nilFunc]⟩ := by kernel_rfl
theorem ty57 : tyI Try.prog 57 = some ⟨false, 1, 8, [.nilFunc]⟩ := by kernel_rfl
theorem ty58 : tyI Try.prog 58 = some ⟨false, 1, 8, [.nilFunc]⟩ := by kernel_rfl
theorem ty59 : tyI Try.prog 59 = some ⟨false, 1, 8, [.nilFunc]⟩ := by kernel_rfl
theorem ty60 : tyI Try.prog 60 = some ⟨false, 1, 8, [.nilFunc]⟩ := by kernel_rfl
theorem ty61 : tyI Try.prog 61 = some ⟨false, 1, 8, [.nilFunc]⟩ := by kernel_rfl
theorem ty62 : tyI Try.prog 62 = some ⟨false, 1, 8, [.nilFunc]⟩ := by kernel_rfl
theorem ty63 : tyI Try.prog 63 = some ⟨false, 1, 8, [.nilFunc]⟩ := by kernel_rfl
theorem ty64 : tyI Try.prog 64 = some ⟨false, 1, 8, [.nilFunc]⟩ := by kernel_rfl
theorem ty65 : tyI Try.prog 65 = some ⟨false, 1, 8, [.nilFunc]⟩ := by kernel_rfl
theorem ty67 : tyI Try.prog 67 = some ⟨false, 1, 8, [.nilFunc]⟩ := by kernel_rfl
theorem ty68 : tyI Try.prog 68 = some ⟨false, 1, 24, [(.slice none 0 0)]⟩ := by kernel_rfl
theorem sl68 : sliceE Try.prog 68 = some 94 := by kernel_rfl
theorem ty69 : tyI Try.prog 69 = some ⟨false, 1, 8, [.nilFunc]⟩ := by kernel_rfl
theorem ty70 : tyI Try.prog 70 = some ⟨false, 1, 8, [.nilFunc]⟩ := by kernel_rfl
theorem ty71 : tyI Try.prog 71 = some ⟨false, 1, 8, [.nilFunc]⟩ := by kernel_rfl
theorem ty72 : tyI Try.prog 72 = some ⟨false, 1, 8, [.nilFunc]⟩ := by kernel_rfl
theorem ty73 : tyI Try.prog 73 = some ⟨false, 1, 8, [.nilFunc]⟩ := by kernel_rfl
theorem ty74 : tyI Try.prog 74 = some ⟨false, 1, 8, [.nilFunc]⟩ := by kernel_rfl
theorem ty75 : tyI Try.prog 75 = some ⟨false, 1, 8, [.nilFunc]⟩ := by kernel_rfl
theorem ty76 : tyI Try.prog 76 = some ⟨false, 1, 8, [.nilFunc]⟩ := by kernel_rfl
theorem ty77 : tyI Try.prog 77 = some ⟨false, 1, 8, [.nilFunc]⟩ := by kernel_rfl
theorem ty78 : tyI Try.prog 78 = some ⟨false, 1, 24, [(.slice none 0 0)]⟩ := by kernel_rfl
theorem sl78 : sliceE Try.prog 78 = some 80 := by kernel_rfl
theorem ty79 : tyI Try.prog 79 = some ⟨true, 4, 32, [(.int .i64 0), (.int .i64 0), (.int .i64 0), (.int .i64 0)]⟩ := by kernel_rfl
theorem pl79 : placesI Try.prog 79 = some [(0, 1), (1, 1), (2, 1), (3, 1)] := by kernel_rfl
theorem fl79_0 : fldI Try.prog 79 0 = some ⟨0, 1, false⟩ := by kernel_rfl
theorem fl79_1 : fldI Try.prog 79 1 = some ⟨1, 1, false⟩ := by kernel_rfl
theorem fl79_2 : fldI Try.prog 79 2 = some ⟨2, 1, false⟩ := by kernel_rfl
theorem fl79_3 : fldI Try.prog 79 3 = some ⟨3, 1, false⟩ := by kernel_rfl
theorem ty80 : tyI Try.prog 80 = some ⟨true, 4, 32, [(.int .i64 0), (.int .i64 0), (.int .i64 0), (.int .i64 0)]⟩ := by kernel_rfl
theorem pl80 : placesI Try.prog 80 = some [(0, 1), (1, 1), (2, 1), (3, 1)] := by kernel_rfl
theorem fl80_0 : fldI Try.prog 80 0 = some ⟨0, 1, false⟩ := by kernel_rfl
theorem fl80_1 : fldI Try.prog 80 1 = some ⟨1, 1, false⟩ := by kernel_rfl
theorem fl80_2 : fldI Try.prog 80 2 = some ⟨2, 1, false⟩ := by kernel_rfl
theorem fl80_3 : fldI Try.prog 80 3 = some ⟨3, 1, false⟩ := by kernel_rfl
theorem ty82 : tyI Try.prog 82 = some ⟨false, 1, 8, [.nilFunc]⟩ := by kernel_rfl
theorem ty83 : tyI Try.prog 83 = some ⟨false, 1, 8, [.nilFunc]⟩ := by kernel_rfl
theorem ty84 : tyI Try.prog 84 = some ⟨false, 1, 8, [.nilFunc]⟩ := by kernel_rfl
theorem ty85 : tyI Try.prog 85 = some ⟨false, 1, 8, [.nilFunc]⟩ := by kernel_rfl
theorem ty86 : tyI Try.prog 86 = some ⟨false, 1, 8, [.nilFunc]⟩ := by kernel_rfl
theorem ty87 : tyI Try.prog 87 = some ⟨false, 1, 8, [.nilFunc]⟩ := by kernel_rfl
theorem ty88 : tyI Try.prog 88 = some ⟨false, 1, 8, [.nilFunc]⟩ := by kernel_rfl
theorem ty89 : tyI Try.prog 89 = some ⟨false, 1, 8, [.nilFunc]⟩ := by kernel_rfl
theorem ty90 : tyI Try.prog 90 = some ⟨false, 1, 8, [.nilFunc]⟩ := by kernel_rfl
theorem ty91 : tyI Try.prog 91 = some ⟨false, 1, 8, [.nilFunc]⟩ := by kernel_rfl
theorem ty92 : tyI Try.prog 92 = some ⟨false, 1, 8, [.nilFunc]⟩ := by kernel_rfl
theorem ty93 : tyI Try.prog 93 = some ⟨true, 5, 32, [(.int .i64 0), (.int .i64 0), (.int .i64 0), (.bool false), (.bool false)]⟩ := by kernel_rfl
theorem pl93 : placesI Try.prog 93 = some [(0, 1), (1, 1), (2, 1), (3, 1), (4, 1)] := by kernel_rfl
theorem fl93_0 : fldI Try.prog 93 0 = some ⟨0, 1, false⟩ := by kernel_rfl
theorem fl93_1 : fldI Try.prog 93 1 = some ⟨1, 1, false⟩ := by kernel_rfl
theorem fl93_2 : fldI Try.prog 93 2 = some ⟨2, 1, false⟩ := by kernel_rfl
theorem fl93_3 : fldI Try.prog 93 3 = some ⟨3, 1, false⟩ := by kernel_rfl
theorem fl93_4 : fldI Try.prog 93 4 = some ⟨4, 1, false⟩ := by kernel_rfl
theorem ty94 : tyI Try.prog 94 = some ⟨true, 5, 32, [(.int .i64 0), (.int .i64 0), (.int .i64 0), (.bool false), (.bool false)]⟩ := by kernel_rfl
theorem pl94 : placesI Try.prog 94 = some [(0, 1), (1, 1), (2, 1), (3, 1), (4, 1)] := by kernel_rfl
theorem fl94_0 : fldI Try.prog 94 0 = some ⟨0, 1, false⟩ := by kernel_rfl
theorem fl94_1 : fldI Try.prog 94 1 = some ⟨1, 1, false⟩ := by kernel_rfl
theorem fl94_2 : fldI Try.prog 94 2 = some ⟨2, 1, false⟩ := by kernel_rfl
theorem fl94_3 : fldI Try.prog 94 3 = some ⟨3, 1, false⟩ := by kernel_rfl
theorem fl94_4 : fldI Try.prog 94 4 = some ⟨4, 1, false⟩ := by kernel_rfl
theorem ty95 : tyI Try.prog 95 = some ⟨false, 1, 8, [.nilFunc]⟩ := by kernel_rfl
theorem ty96 : tyI Try.prog 96 = some ⟨false, 1, 8, [.nilFunc]⟩ := by kernel_rfl
theorem ty97 : tyI Try.prog 97 = some ⟨false, 1, 8, [.nilFunc]⟩ := by kernel_rfl
theorem ty98 : tyI Try.prog 98 = some ⟨false, 1, 8, [.nilFunc]⟩ := by kernel_rfl
theorem ty99 : tyI Try.prog 99 = some ⟨false, 1, 8, [.nilFunc]⟩ := by kernel_rfl
theorem ty100 : tyI Try.prog 100 = some ⟨false, 1, 8, [(.pointer none)]⟩ := by kernel_rfl
theorem pt100 : isPtr Try.prog 100 = true := by kernel_rfl
theorem ty101 : tyI Try.prog 101 = some ⟨false, 1, 8, [.nilFunc]⟩ := by kernel_rfl
theorem ty102 : tyI Try.prog 102 = some ⟨false, 1, 8, [.nilFunc]⟩ := by kernel_rfl
theorem ty103 : tyI Try.prog 103 = some ⟨false, 1, 8, [.nilFunc]⟩ := by kernel_rfl
theorem ty104 : tyI Try.prog 104 = some ⟨false, 1, 8, [.nilFunc]⟩ := by kernel_rfl
theorem ty105 : tyI Try.prog 105 = some ⟨false, 1, 8, [.nilFunc]⟩ := by kernel_rfl
theorem ty106 : tyI Try.prog 106 = some ⟨false, 1, 8, [.nilFunc]⟩ := by kernel_rfl
theorem ty107 : tyI Try.prog 107 = some ⟨false, 1, 8, [.nilFunc]⟩ := by kernel_rfl
theorem ty109 : tyI Try.prog 109 = some ⟨false, 1, 8, [.nilFunc]⟩ := by kernel_rfl
theorem ty110 : tyI Try.prog 110 = some ⟨false, 1, 8, [.nilFunc]⟩ := by kernel_rfl
theorem ty111 : tyI Try.prog 111 = some ⟨false, 1, 24, [(.slice none 0 0)]⟩ := by kernel_rfl
theorem sl111 : sliceE Try.prog 111 = some 115 := by kernel_rfl
theorem ty112 : tyI Try.prog 112 = some ⟨false, 1, 8, [.nilFunc]⟩ := by kernel_rfl
theorem ty113 : tyI Try.prog 113 = some ⟨false, 1, 8, [.nilFunc]⟩ := by kernel_rfl
theorem ty114 : tyI Try.prog 114 = some ⟨true, 3, 24, [(.int .i64 0), (.int .i64 0), (.bool false)]⟩ := by kernel_rfl
theorem pl114 : placesI Try.prog 114 = some [(0, 1), (1, 1), (2, 1)] := by kernel_rfl
theorem fl114_0 : fldI Try.prog 114 0 = some ⟨0, 1, false⟩ := by kernel_rfl
theorem fl114_1 : fldI Try.prog 114 1 = some ⟨1, 1, false⟩ := by kernel_rfl
theorem fl114_2 : fldI Try.prog 114 2 = some ⟨2, 1, false⟩ := by kernel_rfl
theorem ty115 : tyI Try.prog 115 = some ⟨true, 3, 24, [(.int .i64 0), (.int .i64 0), (.bool false)]⟩ := by kernel_rfl
theorem pl115 : placesI Try.prog 115 = some [(0, 1), (1, 1), (2, 1)] := by kernel_rfl
theorem fl115_0 : fldI Try.prog 115 0 = some ⟨0, 1, false⟩ := by kernel_rfl
theorem fl115_1 : fldI Try.prog 115 1 = some ⟨1, 1, false⟩ := by kernel_rfl
theorem fl115_2 : fldI Try.prog 115 2 = some ⟨2, 1, false⟩ := by kernel_rfl
theorem ty116 : tyI Try.prog 116 = some ⟨false, 1, 8, [.nilFunc]⟩ := by kernel_rfl
theorem ty117 : tyI Try.prog 117 = some ⟨false, 1, 8, [.nilFunc]⟩ := by kernel_rfl
theorem ty118 : tyI Try.prog 118 = some ⟨false, 1, 8, [.nilFunc]⟩ := by kernel_rfl
theorem ty119 : tyI Try.prog 119 = some ⟨false, 1, 8, [.nilFunc]⟩ := by kernel_rfl
theorem ty120 : tyI Try.prog 120 = some ⟨false, 1, 8, [.nilFunc]⟩ := by kernel_rfl
theorem ty121 : tyI Try.prog 121 = some ⟨false, 1, 8, [(.map none)]⟩ := by kernel_rfl
theorem ty122 : tyI Try.prog 122 = some ⟨false, 1, 8, [.nilFunc]⟩ := by kernel_rfl
theorem ty123 : tyI Try.prog 123 = some ⟨false, 1, 8, [.nilFunc]⟩ := by kernel_rfl
theorem ty124 : tyI Try.prog 124 = some ⟨false, 1, 8, [.nilFunc]⟩ := by kernel_rfl
theorem ty125 : tyI Try.prog 125 = some ⟨false, 1, 8, [.nilFunc]⟩ := by kernel_rfl
theorem ty126 : tyI Try.prog 126 = some ⟨false, 1, 8, [.nilFunc]⟩ := by kernel_rfl
theorem ty127 : tyI Try.prog 127 = some ⟨false, 1, 8, [.nilFunc]⟩ := by kernel_rfl
theorem ty128 : tyI Try.prog 128 = some ⟨false, 1, 8, [.nilFunc]⟩ := by kernel_rfl
theorem ty129 : tyI Try.prog 129 = some ⟨false, 1, 8, [.nilFunc]⟩ := by kernel_rfl
theorem ty130 : tyI Try.prog 130 = some ⟨false, 1, 8, [.nilFunc]⟩ := by kernel_rfl
theorem ty131 : tyI Try.prog 131 = some ⟨false, 1, 8, [.nilFunc]⟩ := by kernel_rfl
theorem ty132 : tyI Try.prog 132 = some ⟨false, 1, 8, [.nilFunc]⟩ := by kernel_rfl
theorem ty133 : tyI Try.prog 133 = some ⟨false, 1, 8, [.nilFunc]⟩ := by kernel_rfl
theorem ty134 : tyI Try.prog 134 = some ⟨false, 1, 8, [.nilFunc]⟩ := by kernel_rfl
theorem ty135 : tyI Try.prog 135 = some ⟨false, 1, 8, [.nilFunc]⟩ := by kernel_rfl
theorem ty136 : tyI Try.prog 136 = some ⟨false, 1, 8, [.nilFunc]⟩ := by kernel_rfl
theorem ty137 : tyI Try.prog 137 = some ⟨false, 1, 8, [.nilFunc]⟩ := by kernel_rfl
theorem ty138 : tyI Try.prog 138 = some ⟨false, 1, 8, [.nilFunc]⟩ := by kernel_rfl
theorem ty139 : tyI Try.prog 139 = some ⟨false, 1, 8, [.nilFunc]⟩ := by kernel_rfl
theorem ty140 : tyI Try.prog 140 = some ⟨false, 1, 8, [.nilFunc]⟩ := by kernel_rfl
theorem ty141 : tyI Try.prog 141 = some ⟨false, 1, 8, [.nilFunc]⟩ := by kernel_rfl
theorem ty142 : tyI Try.prog 142 = some ⟨false, 1, 8, [.nilFunc]⟩ := by kernel_rfl
theorem ty143 : tyI Try.prog 143 = some ⟨false, 1, 8, [.nilFunc]⟩ := by kernel_rfl
theorem ty144 : tyI Try.prog 144 = some ⟨false, 1, 8, [.nilFunc]⟩ := by kernel_rfl
theorem ty145 : tyI Try.prog 145 = some ⟨false, 1, 8, [.nilFunc]⟩ := by kernel_rfl
theorem ty146 : tyI Try.prog 146 = some ⟨false, 1, 8, [.nilFunc]⟩ := by kernel_rfl
theorem ty147 : tyI Try.prog 147 = some ⟨false, 1, 8, [.nilFunc]⟩ := by kernel_rfl
theorem ty148 : tyI Try.prog 148 = some ⟨false, 1, 8, [.nilFunc]⟩ := by kernel_rfl
theorem ty149 : tyI Try.prog 149 = some ⟨false, 1, 8, [.nilFunc]⟩ := by kernel_rfl
theorem ty150 : tyI Try.prog 150 = some ⟨true, 4, 40, [(.pointer none), (.pointer none), (.pointer none), (.string ⟨#[]⟩)]⟩ := by kernel_rfl
theorem pl150 : placesI Try.prog 150 = some [(0, 1), (1, 1), (2, 1), (3, 1)] := by kernel_rfl
theorem fl150_0 : fldI Try.prog 150 0 = some ⟨0, 1, false⟩ := by kernel_rfl
theorem fl150_1 : fldI Try.prog 150 1 = some ⟨1, 1, false⟩ := by kernel_rfl
theorem fl150_2 : fldI Try.prog 150 2 = some ⟨2, 1, false⟩ := by kernel_rfl
theorem fl150_3 : fldI Try.prog 150 3 = some ⟨3, 1, false⟩ := by kernel_rfl
theorem ty151 : tyI Try.prog 151 = some ⟨true, 4, 40, [(.pointer none), (.pointer none), (.pointer none), (.string ⟨#[]⟩)]⟩ := by kernel_rfl
theorem pl151 : placesI Try.prog 151 = some [(0, 1), (1, 1), (2, 1), (3, 1)] := by kernel_rfl
theorem fl151_0 : fldI Try.prog 151 0 = some ⟨0, 1, false⟩ := by kernel_rfl
theorem fl151_1 : fldI Try.prog 151 1 = some ⟨1, 1, false⟩ := by kernel_rfl
theorem fl151_2 : fldI Try.prog 151 2 = some ⟨2, 1, false⟩ := by kernel_rfl
theorem fl151_3 : fldI Try.prog 151 3 = some ⟨3, 1, false⟩ := by kernel_rfl
theorem ty152 : tyI Try.prog 152 = some ⟨true, 0, 0, []⟩ := by kernel_rfl
theorem ty153 : tyI Try.prog 153 = some ⟨true, 0, 0, []⟩ := by kernel_rfl
theorem pl153 : placesI Try.prog 153 = some [(0, 0)] := by kernel_rfl
theorem fl153_0 : fldI Try.prog 153 0 = some ⟨0, 0, true⟩ := by kernel_rfl
theorem ty154 : tyI Try.prog 154 = some ⟨true, 0, 0, []⟩ := by kernel_rfl
theorem pl154 : placesI Try.prog 154 = some [(0, 0)] := by kernel_rfl
theorem fl154_0 : fldI Try.prog 154 0 = some ⟨0, 0, true⟩ := by kernel_rfl
theorem ty155 : tyI Try.prog 155 = some ⟨false, 1, 4, [(.int .u32 0)]⟩ := by kernel_rfl
theorem ty156 : tyI Try.prog 156 = some ⟨false, 1, 1, [(.int .u8 0)]⟩ := by kernel_rfl
theorem ty157 : tyI Try.prog 157 = some ⟨false, 1, 1, [(.int .u8 0)]⟩ := by kernel_rfl
theorem ty158 : tyI Try.prog 158 = some ⟨false, 1, 8, [.nilFunc]⟩ := by kernel_rfl
theorem ty159 : tyI Try.prog 159 = some ⟨false, 1, 8, [(.pointer none)]⟩ := by kernel_rfl
theorem pt159 : isPtr Try.prog 159 = true := by kernel_rfl
theorem ty160 : tyI Try.prog 160 = some ⟨false, 1, 4, [(.int .i32 0)]⟩ := by kernel_rfl
theorem ty161 : tyI Try.prog 161 = some ⟨false, 1, 4, [(.int .i32 0)]⟩ := by kernel_rfl
theorem ty162 : tyI Try.prog 162 = some ⟨true, 11, 48, [(.int .u64 0), (.int .u64 0), (.int .u32 0), (.int .u8 0), (.int .u8 0), (.int .u8 0), (.int .u8 0), .nilFunc, (.pointer none), (.int .i32 0), (.int .i32 0)]⟩ := by kernel_rfl
theorem pl162 : placesI Try.prog 162 = some [(0, 1), (1, 1), (2, 1), (3, 1), (4, 1), (5, 1), (6, 1), (7, 1), (8, 1), (9, 1), (10, 1)] := by kernel_rfl
theorem fl162_0 : fldI Try.prog 162 0 = some ⟨0, 1, false⟩ := by kernel_rfl
theorem fl162_1 : fldI Try.prog 162 1 = some ⟨1, 1, false⟩ := by kernel_rfl
theorem fl162_2 : fldI Try.prog 162 2 = some ⟨2, 1, false⟩ := by kernel_rfl
theorem fl162_3 : fldI Try.prog 162 3 = some ⟨3, 1, false⟩ := by kernel_rfl
theorem fl162_4 : fldI Try.prog 162 4 = some ⟨4, 1, false⟩ := by kernel_rfl
theorem fl162_5 : fldI Try.prog 162 5 = some ⟨5, 1, false⟩ := by kernel_rfl
theorem fl162_6 : fldI Try.prog 162 6 = some ⟨6, 1, false⟩ := by kernel_rfl
theorem fl162_7 : fldI Try.prog 162 7 = some ⟨7, 1, false⟩ := by kernel_rfl
theorem fl162_8 : fldI Try.prog 162 8 = some ⟨8, 1, false⟩ := by kernel_rfl
theorem fl162_9 : fldI Try.prog 162 9 = some ⟨9, 1, false⟩ := by kernel_rfl
theorem fl162_10 : fldI Try.prog 162 10 = some ⟨10, 1, false⟩ := by kernel_rfl
theorem ty163 : tyI Try.prog 163 = some ⟨true, 11, 48, [(.int .u64 0), (.int .u64 0), (.int .u32 0), (.int .u8 0), (.int .u8 0), (.int .u8 0), (.int .u8 0), .nilFunc, (.pointer none), (.int .i32 0), (.int .i32 0)]⟩ := by kernel_rfl
theorem pl163 : placesI Try.prog 163 = some [(0, 1), (1, 1), (2, 1), (3, 1), (4, 1), (5, 1), (6, 1), (7, 1), (8, 1), (9, 1), (10, 1)] := by kernel_rfl
theorem fl163_0 : fldI Try.prog 163 0 = some ⟨0, 1, false⟩ := by kernel_rfl
theorem fl163_1 : fldI Try.prog 163 1 = some ⟨1, 1, false⟩ := by kernel_rfl
theorem fl163_2 : fldI Try.prog 163 2 = some ⟨2, 1, false⟩ := by kernel_rfl
theorem fl163_3 : fldI Try.prog 163 3 = some ⟨3, 1, false⟩ := by kernel_rfl
theorem fl163_4 : fldI Try.prog 163 4 = some ⟨4, 1, false⟩ := by kernel_rfl
theorem fl163_5 : fldI Try.prog 163 5 = some ⟨5, 1, false⟩ := by kernel_rfl
theorem fl163_6 : fldI Try.prog 163 6 = some ⟨6, 1, false⟩ := by kernel_rfl
theorem fl163_7 : fldI Try.prog 163 7 = some ⟨7, 1, false⟩ := by kernel_rfl
theorem fl163_8 : fldI Try.prog 163 8 = some ⟨8, 1, false⟩ := by kernel_rfl
theorem fl163_9 : fldI Try.prog 163 9 = some ⟨9, 1, false⟩ := by kernel_rfl
theorem fl163_10 : fldI Try.prog 163 10 = some ⟨10, 1, false⟩ := by kernel_rfl
theorem ty164 : tyI Try.prog 164 = some ⟨false, 1, 8, [(.pointer none)]⟩ := by kernel_rfl
inductive Tr (α : Type) where
  | nil
  | node (k : Nat) (v : α) (l r : Tr α)
def lookT {α : Type} : Tr α → Nat → Option α
  | .nil, _ => none
  | .node k v l r, n => bif Nat.beq k n then some v else bif Nat.blt n k then lookT l n else lookT r n
def Tr.All {α : Type} (p : Nat → α → Prop) : Tr α → Prop
  | .nil => True
  | .node k v l r => p k v ∧ l.All p ∧ r.All p
theorem Tr.All.look {α : Type} {p : Nat → α → Prop} : ∀ {t : Tr α} {n : Nat} {x : α}, t.All p → lookT t n = some x → p n x
  | .nil, n, x, _, h => by cases h
  | .node k v l r, n, x, ha, h => by
    simp only [lookT] at h
    cases hb : Nat.beq k n with
    | true =>
      rw [hb] at h
      cases h
      have := Nat.eq_of_beq_eq_true hb
      subst this
      exact ha.1
    | false =>
      rw [hb, cond_false] at h
      cases hc : Nat.blt n k with
      | true => rw [hc, cond_true] at h; exact Tr.All.look ha.2.1 h
      | false => rw [hc, cond_false] at h; exact Tr.All.look ha.2.2 h
def tyTab : Tr (TyI) := (.node 85 ⟨false, 1, 8, [.nilFunc]⟩ (.node 44 ⟨false, 1, 8, [.nilFunc]⟩ (.node 21 ⟨false, 1, 4, [(.int .i32 0)]⟩ (.node 10 ⟨false, 1, 16, [(.string ⟨#[]⟩)]⟩ (.node 5 ⟨false, 1, 1, [(.int .u8 0)]⟩ (.node 3 ⟨false, 1, 8, [(.int .i64 0)]⟩ (.node 2 ⟨false, 1, 8, [(.int .i64 0)]⟩ (.node 1 ⟨false, 1, 8, [.nilFunc]⟩ .nil .nil) .nil) (.node 4 ⟨false, 1, 1, [(.bool false)]⟩ .nil .nil)) (.node 8 ⟨true, 4, 24, [(.int .i64 0), (.int .i64 0), (.bool false), (.int .u8 0)]⟩ (.node 7 ⟨true, 4, 24, [(.int .i64 0), (.int .i64 0), (.bool false), (.int .u8 0)]⟩ (.node 6 ⟨false, 1, 1, [(.int .u8 0)]⟩ .nil .nil) .nil) (.node 9 ⟨false, 1, 16, [(.string ⟨#[]⟩)]⟩ .nil .nil))) (.node 15 ⟨false, 1, 8, [(.pointer none)]⟩ (.node 13 ⟨true, 2, 24, [(.string ⟨#[]⟩), (.int .u64 0)]⟩ (.node 12 ⟨false, 1, 8, [(.int .u64 0)]⟩ (.node 11 ⟨false, 1, 16, [(.string ⟨#[]⟩)]⟩ .nil .nil) .nil) (.node 14 ⟨true, 2, 24, [(.string ⟨#[]⟩), (.int .u64 0)]⟩ .nil .nil)) (.node 18 ⟨true, 1, 8, [(.pointer none)]⟩ (.node 17 ⟨false, 1, 8, [(.pointer none)]⟩ (.node 16 ⟨false, 1, 8, [(.pointer none)]⟩ .nil .nil) .nil) (.node 19 ⟨true, 1, 8, [(.pointer none)]⟩ .nil .nil)))) (.node 32 ⟨true, 9, 104, [(.int .i64 0), (.int .i64 0), (.int .i64 0), (.int .i64 0), (.int .i64 0), (.bool false), (.string ⟨#[]⟩), (.string ⟨#[]⟩), (.slice none 0 0)]⟩ (.node 26 ⟨false, 1, 8, [.nilFunc]⟩ (.node 24 ⟨false, 1, 8, [.nilFunc]⟩ (.node 23 ⟨false, 1, 8, [.nilFunc]⟩ (.node 22 ⟨false, 1, 24, [(.slice none 0 0)]⟩ .nil .nil) .nil) (.node 25 ⟨false, 1, 8, [(.pointer none)]⟩ .nil .nil)) (.node 30 ⟨false, 1, 8, [.nilFunc]⟩ (.node 28 ⟨false, 1, 8, [(.int .i64 0)]⟩ (.node 27 ⟨false, 1, 24, [(.slice none 0 0)]⟩ .nil .nil) .nil) (.node 31 ⟨false, 1, 24, [(.slice none 0 0)]⟩ .nil .nil))) (.node 38 ⟨false, 1, 8, [.nilFunc]⟩ (.node 35 ⟨true, 14, 168, [(.int .i64 0), (.int .i64 0), (.int .i64 0), (.string ⟨#[]⟩), (.int .i64 0), (.int .i64 0), (.int .i64 0), (.int .i64 0), (.int .i64 0), (.bool false), (.string ⟨#[]⟩), (.string ⟨#[]⟩), (.slice none 0 0), (.slice none 0 0)]⟩ (.node 34 ⟨true, 14, 168, [(.int .i64 0), (.int .i64 0), (.int .i64 0), (.string ⟨#[]⟩), (.int .i64 0), (.int .i64 0), (.int .i64 0), (.int .i64 0), (.int .i64 0), (.bool false), (.string ⟨#[]⟩), (.string ⟨#[]⟩), (.slice none 0 0), (.slice none 0 0)]⟩ (.node 33 ⟨true, 9, 104, [(.int .i64 0), (.int .i64 0), (.int .i64 0), (.int .i64 0), (.int .i64 0), (.bool false), (.string ⟨#[]⟩), (.string ⟨#[]⟩), (.slice none 0 0)]⟩ .nil .nil) .nil) (.node 37 ⟨false, 1, 8, [.nilFunc]⟩ .nil .nil)) (.node 42 ⟨false, 1, 8, [.nilFunc]⟩ (.node 41 ⟨false, 1, 8, [.nilFunc]⟩ (.node 40 ⟨false, 1, 8, [.nilFunc]⟩ .nil .nil) .nil) (.node 43 ⟨false, 1, 8, [.nilFunc]⟩ .nil .nil))))) (.node 64 ⟨false, 1, 8, [.nilFunc]⟩ (.node 54 ⟨false, 1, 8, [.nilFunc]⟩ (.node 49 ⟨false, 1, 8, [.nilFunc]⟩ (.node 47 ⟨false, 1, 8, [.nilFunc]⟩ (.node 46 ⟨false, 1, 8, [.nilFunc]⟩ (.node 45 ⟨false, 1, 8, [.nilFunc]⟩ .nil .nil) .nil) (.node 48 ⟨false, 1, 8, [.nilFunc]⟩ .nil .nil)) (.node 52 ⟨true, 1, 24, [(.slice none 0 0)]⟩ (.node 51 ⟨false, 1, 8, [.nilFunc]⟩ (.node 50 ⟨false, 1, 8, [.nilFunc]⟩ .nil .nil) .nil) (.node 53 ⟨true, 1, 24, [(.slice none 0 0)]⟩ .nil .nil))) (.node 59 ⟨false, 1, 8, [.nilFunc]⟩ (.node 57 ⟨false, 1, 8, [.nilFunc]⟩ (.node 56 ⟨false, 1, 8, [.nilFunc]⟩ (.node 55 ⟨false, 1, 8, [.nilFunc]⟩ .nil .nil) .nil) (.node 58 ⟨false, 1, 8, [.nilFunc]⟩ .nil .nil)) (.node 62 ⟨false, 1, 8, [.nilFunc]⟩ (.node 61 ⟨false, 1, 8, [.nilFunc]⟩ (.node 60 ⟨false, 1, 8, [.nilFunc]⟩ .nil .nil) .nil) (.node 63 ⟨false, 1, 8, [.nilFunc]⟩ .nil .nil)))) (.node 75 ⟨false, 1, 8, [.nilFunc]⟩ (.node 70 ⟨false, 1, 8, [.nilFunc]⟩ (.node 68 ⟨false, 1, 24, [(.slice none 0 0)]⟩ (.node 67 ⟨false, 1, 8, [.nilFunc]⟩ (.node 65 ⟨false, 1, 8, [.nilFunc]⟩ .nil .nil) .nil) (.node 69 ⟨false, 1, 8, [.nilFunc]⟩ .nil .nil)) (.node 73 ⟨false, 1, 8, [.nilFunc]⟩ (.node 72 ⟨false, 1, 8, [.nilFunc]⟩ (.node 71 ⟨false, 1, 8, [.nilFunc]⟩ .nil .nil) .nil) (.node 74 ⟨false, 1, 8, [.nilFunc]⟩ .nil .nil))) (.node 80 ⟨true, 4, 32, [(.int .i64 0), (.int .i64 0), (.int .i64 0), (.int .i64 0)]⟩ (.node 78 ⟨false, 1, 24, [(.slice none 0 0)]⟩ (.node 77 ⟨false, 1, 8, [.nilFunc]⟩ (.node 76 ⟨false, 1, 8, [.nilFunc]⟩ .nil .nil) .nil) (.node 79 ⟨true, 4, 32, [(.int .i64 0), (.int .i64 0), (.int .i64 0), (.int .i64 0)]⟩ .nil .nil)) (.node 83 ⟨false, 1, 8, [.nilFunc]⟩ (.node 82 ⟨false, 1, 8, [.nilFunc]⟩ .nil .nil) (.node 84 ⟨false, 1, 8, [.nilFunc]⟩ .nil .nil)))))) (.node 126 ⟨false, 1, 8, [.nilFunc]⟩ (.node 105 ⟨false, 1, 8, [.nilFunc]⟩ (.node 95 ⟨false, 1, 8, [.nilFunc]⟩ (.node 90 ⟨false, 1, 8, [.nilFunc]⟩ (.node 88 ⟨false, 1, 8, [.nilFunc]⟩ (.node 87 ⟨false, 1, 8, [.nilFunc]⟩ (.node 86 ⟨false, 1, 8, [.nilFunc]⟩ .nil .nil) .nil) (.node 89 ⟨false, 1, 8, [.nilFunc]⟩ .nil .nil)) (.node 93 ⟨true, 5, 32, [(.int .i64 0), (.int .i64 0), (.int .i64 0), (.bool false), (.bool false)]⟩ (.node 92 ⟨false, 1, 8, [.nilFunc]⟩ (.node 91 ⟨false, 1, 8, [.nilFunc]⟩ .nil .nil) .nil) (.node 94 ⟨true, 5, 32, [(.int .i64 0), (.int .i64 0), (.int .i64 0), (.bool false), (.bool false)]⟩ .nil .nil))) (.node 100 ⟨false, 1, 8, [(.pointer none)]⟩ (.node 98 ⟨false, 1, 8, [.nilFunc]⟩ (.node 97 ⟨false, 1, 8, [.nilFunc]⟩ (.node 96 ⟨false, 1, 8, [.nilFunc]⟩ .nil .nil) .nil) (.node 99 ⟨false, 1, 8, [.nilFunc]⟩ .nil .nil)) (.node 103 ⟨false, 1, 8, [.nilFunc]⟩ (.node 102 ⟨false, 1, 8, [.nilFunc]⟩ (.node 101 ⟨false, 1, 8, [.nilFunc]⟩ .nil .nil) .nil) (.node 104 ⟨false, 1, 8, [.nilFunc]⟩ .nil .nil)))) (.node 116 ⟨false, 1, 8, [.nilFunc]⟩ (.node 111 ⟨false, 1, 24, [(.slice none 0 0)]⟩ (.node 109 ⟨false, 1, 8, [.nilFunc]⟩ (.node 107 ⟨false, 1, 8, [.nilFunc]⟩ (.node 106 ⟨false, 1, 8, [.nilFunc]⟩ .nil .nil) .nil) (.node 110 ⟨false, 1, 8, [.nilFunc]⟩ .nil .nil)) (.node 114 ⟨true, 3, 24, [(.int .i64 0), (.int .i64 0), (.bool false)]⟩ (.node 113 ⟨false, 1, 8, [.nilFunc]⟩ (.node 112 ⟨false, 1, 8, [.nilFunc]⟩ .nil .nil) .nil) (.node 115 ⟨true, 3, 24, [(.int .i64 0), (.int .i64 0), (.bool false)]⟩ .nil .nil))) (.node 121 ⟨false, 1, 8, [(.map none)]⟩ (.node 119 ⟨false, 1, 8, [.nilFunc]⟩ (.node 118 ⟨false, 1, 8, [.nilFunc]⟩ (.node 117 ⟨false, 1, 8, [.nilFunc]⟩ .nil .nil) .nil) (.node 120 ⟨false, 1, 8, [.nilFunc]⟩ .nil .nil)) (.node 124 ⟨false, 1, 8, [.nilFunc]⟩ (.node 123 ⟨false, 1, 8, [.nilFunc]⟩ (.node 122 ⟨false, 1, 8, [.nilFunc]⟩ .nil .nil) .nil) (.node 125 ⟨false, 1, 8, [.nilFunc]⟩ .nil .nil))))) (.node 146 ⟨false, 1, 8, [.nilFunc]⟩ (.node 136 ⟨false, 1, 8, [.nilFunc]⟩ (.node 131 ⟨false, 1, 8, [.nilFunc]⟩ (.node 129 ⟨false, 1, 8, [.nilFunc]⟩ (.node 128 ⟨false, 1, 8, [.nilFunc]⟩ (.node 127 ⟨false, 1, 8, [.nilFunc]⟩ .nil .nil) .nil) (.node 130 ⟨false, 1, 8, [.nilFunc]⟩ .nil .nil)) (.node 134 ⟨false, 1, 8, [.nilFunc]⟩ (.node 133 ⟨false, 1, 8, [.nilFunc]⟩ (.node 132 ⟨false, 1, 8, [.nilFunc]⟩ .nil .nil) .nil) (.node 135 ⟨false, 1, 8, [.nilFunc]⟩ .nil .nil))) (.node 141 ⟨false, 1, 8, [.nilFunc]⟩ (.node 139 ⟨false, 1, 8, [.nilFunc]⟩ (.node 138 ⟨false, 1, 8, [.nilFunc]⟩ (.node 137 ⟨false, 1, 8, [.nilFunc]⟩ .nil .nil) .nil) (.node 140 ⟨false, 1, 8, [.nilFunc]⟩ .nil .nil)) (.node 144 ⟨false, 1, 8, [.nilFunc]⟩ (.node 143 ⟨false, 1, 8, [.nilFunc]⟩ (.node 142 ⟨false, 1, 8, [.nilFunc]⟩ .nil .nil) .nil) (.node 145 ⟨false, 1, 8, [.nilFunc]⟩ .nil .nil)))) (.node 156 ⟨false, 1, 1, [(.int .u8 0)]⟩ (.node 151 ⟨true, 4, 40, [(.pointer none), (.pointer none), (.pointer none), (.string ⟨#[]⟩)]⟩ (.node 149 ⟨false, 1, 8, [.nilFunc]⟩ (.node 148 ⟨false, 1, 8, [.nilFunc]⟩ (.node 147 ⟨false, 1, 8, [.nilFunc]⟩ .nil .nil) .nil) (.node 150 ⟨true, 4, 40, [(.pointer none), (.pointer none), (.pointer none), (.string ⟨#[]⟩)]⟩ .nil .nil)) (.node 154 ⟨true, 0, 0, []⟩ (.node 153 ⟨true, 0, 0, []⟩ (.node 152 ⟨true, 0, 0, []⟩ .nil .nil) .nil) (.node 155 ⟨false, 1, 4, [(.int .u32 0)]⟩ .nil .nil))) (.node 161 ⟨false, 1, 4, [(.int .i32 0)]⟩ (.node 159 ⟨false, 1, 8, [(.pointer none)]⟩ (.node 158 ⟨false, 1, 8, [.nilFunc]⟩ (.node 157 ⟨false, 1, 1, [(.int .u8 0)]⟩ .nil .nil) .nil) (.node 160 ⟨false, 1, 4, [(.int .i32 0)]⟩ .nil .nil)) (.node 163 ⟨true, 11, 48, [(.int .u64 0), (.int .u64 0), (.int .u32 0), (.int .u8 0), (.int .u8 0), (.int .u8 0), (.int .u8 0), .nilFunc, (.pointer none), (.int .i32 0), (.int .i32 0)]⟩ (.node 162 ⟨true, 11, 48, [(.int .u64 0), (.int .u64 0), (.int .u32 0), (.int .u8 0), (.int .u8 0), (.int .u8 0), (.int .u8 0), .nilFunc, (.pointer none), (.int .i32 0), (.int .i32 0)]⟩ .nil .nil) (.node 164 ⟨false, 1, 8, [(.pointer none)]⟩ .nil .nil)))))))
theorem tyT : tyTab.All (fun T i => tyI Try.prog T = some i) := ⟨ty85, ⟨ty44, ⟨ty21, ⟨ty10, ⟨ty5, ⟨ty3, ⟨ty2, ⟨ty1, trivial, trivial⟩, trivial⟩, ⟨ty4, trivial, trivial⟩⟩, ⟨ty8, ⟨ty7, ⟨ty6, trivial, trivial⟩, trivial⟩, ⟨ty9, trivial, trivial⟩⟩⟩, ⟨ty15, ⟨ty13, ⟨ty12, ⟨ty11, trivial, trivial⟩, trivial⟩, ⟨ty14, trivial, trivial⟩⟩, ⟨ty18, ⟨ty17, ⟨ty16, trivial, trivial⟩, trivial⟩, ⟨ty19, trivial, trivial⟩⟩⟩⟩, ⟨ty32, ⟨ty26, ⟨ty24, ⟨ty23, ⟨ty22, trivial, trivial⟩, trivial⟩, ⟨ty25, trivial, trivial⟩⟩, ⟨ty30, ⟨ty28, ⟨ty27, trivial, trivial⟩, trivial⟩, ⟨ty31, trivial, trivial⟩⟩⟩, ⟨ty38, ⟨ty35, ⟨ty34, ⟨ty33, trivial, trivial⟩, trivial⟩, ⟨ty37, trivial, trivial⟩⟩, ⟨ty42, ⟨ty41, ⟨ty40, trivial, trivial⟩, trivial⟩, ⟨ty43, trivial, trivial⟩⟩⟩⟩⟩, ⟨ty64, ⟨ty54, ⟨ty49, ⟨ty47, ⟨ty46, ⟨ty45, trivial, trivial⟩, trivial⟩, ⟨ty48, trivial, trivial⟩⟩, ⟨ty52, ⟨ty51, ⟨ty50, trivial, trivial⟩, trivial⟩, ⟨ty53, trivial, trivial⟩⟩⟩, ⟨ty59, ⟨ty57, ⟨ty56, ⟨ty55, trivial, trivial⟩, trivial⟩, ⟨ty58, trivial, trivial⟩⟩, ⟨ty62, ⟨ty61, ⟨ty60, trivial, trivial⟩, trivial⟩, ⟨ty63, trivial, trivial⟩⟩⟩⟩, ⟨ty75, ⟨ty70, ⟨ty68, ⟨ty67, ⟨ty65, trivial, trivial⟩, trivial⟩, ⟨ty69, trivial, trivial⟩⟩, ⟨ty73, ⟨ty72, ⟨ty71, trivial, trivial⟩, trivial⟩, ⟨ty74, trivial, trivial⟩⟩⟩, ⟨ty80, ⟨ty78, ⟨ty77, ⟨ty76, trivial, trivial⟩, trivial⟩, ⟨ty79, trivial, trivial⟩⟩, ⟨ty83, ⟨ty82, trivial, trivial⟩, ⟨ty84, trivial, trivial⟩⟩⟩⟩⟩⟩, ⟨ty126, ⟨ty105, ⟨ty95, ⟨ty90, ⟨ty88, ⟨ty87, ⟨ty86, trivial, trivial⟩, trivial⟩, ⟨ty89, trivial, trivial⟩⟩, ⟨ty93, ⟨ty92, ⟨ty91, trivial, trivial⟩, trivial⟩, ⟨ty94, trivial, trivial⟩⟩⟩, ⟨ty100, ⟨ty98, ⟨ty97, ⟨ty96, trivial, trivial⟩, trivial⟩, ⟨ty99, trivial, trivial⟩⟩, ⟨ty103, ⟨ty102, ⟨ty101, trivial, trivial⟩, trivial⟩, ⟨ty104, trivial, trivial⟩⟩⟩⟩, ⟨ty116, ⟨ty111, ⟨ty109, ⟨ty107, ⟨ty106, trivial, trivial⟩, trivial⟩, ⟨ty110, trivial, trivial⟩⟩, ⟨ty114, ⟨ty113, ⟨ty112, trivial, trivial⟩, trivial⟩, ⟨ty115, trivial, trivial⟩⟩⟩, ⟨ty121, ⟨ty119, ⟨ty118, ⟨ty117, trivial, trivial⟩, trivial⟩, ⟨ty120, trivial, trivial⟩⟩, ⟨ty124, ⟨ty123, ⟨ty122, trivial, trivial⟩, trivial⟩, ⟨ty125, trivial, trivial⟩⟩⟩⟩⟩, ⟨ty146, ⟨ty136, ⟨ty131, ⟨ty129, ⟨ty128, ⟨ty127, trivial, trivial⟩, trivial⟩, ⟨ty130, trivial, trivial⟩⟩, ⟨ty134, ⟨ty133, ⟨ty132, trivial, trivial⟩, trivial⟩, ⟨ty135, trivial, trivial⟩⟩⟩, ⟨ty141, ⟨ty139, ⟨ty138, ⟨ty137, trivial, trivial⟩, trivial⟩, ⟨ty140, trivial, trivial⟩⟩, ⟨ty144, ⟨ty143, ⟨ty142, trivial, trivial⟩, trivial⟩, ⟨ty145, trivial, trivial⟩⟩⟩⟩, ⟨ty156, ⟨ty151, ⟨ty149, ⟨ty148, ⟨ty147, trivial, trivial⟩, trivial⟩, ⟨ty150, trivial, trivial⟩⟩, ⟨ty154, ⟨ty153, ⟨ty152, trivial, trivial⟩, trivial⟩, ⟨ty155, trivial, trivial⟩⟩⟩, ⟨ty161, ⟨ty159, ⟨ty158, ⟨ty157, trivial, trivial⟩, trivial⟩, ⟨ty160, trivial, trivial⟩⟩, ⟨ty163, ⟨ty162, trivial, trivial⟩, ⟨ty164, trivial, trivial⟩⟩⟩⟩⟩⟩⟩
theorem tyA {T : TypeId} {i : TyI} (h : lookT tyTab T = some i) : tyI Try.prog T = some i := tyT.look h
def slTab : Tr (TypeId) := (.node 68 94 (.node 27 33 (.node 22 35 .nil .nil) (.node 31 3 .nil .nil)) (.node 111 115 (.node 78 80 .nil .nil) .nil))
theorem slT : slTab.All (fun T i => sliceE Try.prog T = some i) := ⟨sl68, ⟨sl27, ⟨sl22, trivial, trivial⟩, ⟨sl31, trivial, trivial⟩⟩, ⟨sl111, ⟨sl78, trivial, trivial⟩, trivial⟩⟩
theorem slA {T : TypeId} {i : TypeId} (h : lookT slTab T = some i) : sliceE Try.prog T = some i := slT.look h
def ptTab : Tr (Unit) := (.node 25 () (.node 16 () (.node 15 () .nil .nil) (.node 17 () .nil .nil)) (.node 159 () (.node 100 () .nil .nil) .nil))
theorem ptT : ptTab.All (fun T i => isPtr Try.prog T = true) := ⟨pt25, ⟨pt16, ⟨pt15, trivial, trivial⟩, ⟨pt17, trivial, trivial⟩⟩, ⟨pt159, ⟨pt100, trivial, trivial⟩, trivial⟩⟩
theorem ptA {T : TypeId} {i : Unit} (h : lookT ptTab T = some i) : isPtr Try.prog T = true := ptT.look h
def plTab : Tr (List (Nat × Nat)) := (.node 79 [(0, 1), (1, 1), (2, 1), (3, 1)] (.node 32 [(0, 1), (1, 1), (2, 1), (3, 1), (4, 1), (5, 1), (6, 1), (7, 1), (8, 1)] (.node 14 [(0, 1), (1, 1)] (.node 8 [(0, 1), (1, 1), (2, 1), (3, 1)] (.node 7 [(0, 1), (1, 1), (2, 1), (3, 1)] .nil .nil) (.node 13 [(0, 1), (1, 1)] .nil .nil)) (.node 19 [(0, 1)] (.node 18 [(0, 1)] .nil .nil) .nil)) (.node 35 [(0, 1), (1, 1), (2, 1), (3, 1), (4, 9), (13, 1)] (.node 34 [(0, 1), (1, 1), (2, 1), (3, 1), (4, 9), (13, 1)] (.node 33 [(0, 1), (1, 1), (2, 1), (3, 1), (4, 1), (5, 1), (6, 1), (7, 1), (8, 1)] .nil .nil) .nil) (.node 53 [(0, 1)] (.node 52 [(0, 1)] .nil .nil) .nil))) (.node 150 [(0, 1), (1, 1), (2, 1), (3, 1)] (.node 94 [(0, 1), (1, 1), (2, 1), (3, 1), (4, 1)] (.node 93 [(0, 1), (1, 1), (2, 1), (3, 1), (4, 1)] (.node 80 [(0, 1), (1, 1), (2, 1), (3, 1)] .nil .nil) .nil) (.node 115 [(0, 1), (1, 1), (2, 1)] (.node 114 [(0, 1), (1, 1), (2, 1)] .nil .nil) .nil)) (.node 154 [(0, 0)] (.node 153 [(0, 0)] (.node 151 [(0, 1), (1, 1), (2, 1), (3, 1)] .nil .nil) .nil) (.node 163 [(0, 1), (1, 1), (2, 1), (3, 1), (4, 1), (5, 1), (6, 1), (7, 1), (8, 1), (9, 1), (10, 1)] (.node 162 [(0, 1), (1, 1), (2, 1), (3, 1), (4, 1), (5, 1), (6, 1), (7, 1), (8, 1), (9, 1), (10, 1)] .nil .nil) .nil))))
theorem plT : plTab.All (fun T i => placesI Try.prog T = some i) := ⟨pl79, ⟨pl32, ⟨pl14, ⟨pl8, ⟨pl7, trivial, trivial⟩, ⟨pl13, trivial, trivial⟩⟩, ⟨pl19, ⟨pl18, trivial, trivial⟩, trivial⟩⟩, ⟨pl35, ⟨pl34, ⟨pl33, trivial, trivial⟩, trivial⟩, ⟨pl53, ⟨pl52, trivial, trivial⟩, trivial⟩⟩⟩, ⟨pl150, ⟨pl94, ⟨pl93, ⟨pl80, trivial, trivial⟩, trivial⟩, ⟨pl115, ⟨pl114, trivial, trivial⟩, trivial⟩⟩, ⟨pl154, ⟨pl153, ⟨pl151, trivial, trivial⟩, trivial⟩, ⟨pl163, ⟨pl162, trivial, trivial⟩, trivial⟩⟩⟩⟩
theorem plA {T : TypeId} {i : List (Nat × Nat)} (h : lookT plTab T = some i) : placesI Try.prog T = some i := plT.look h
def boTab : Tr (Unit) := (.node 4 () .nil .nil)
theorem boT : boTab.All (fun T i => Try.prog.underlying T = some .bool) := ⟨Try.underlying4, trivial, trivial⟩
theorem boA {T : TypeId} {i : Unit} (h : lookT boTab T = some i) : Try.prog.underlying T = some .bool := boT.look h
def flTab : Tr (FldI) := (.node 5121 ⟨1, 1, false⟩ (.node 2114 ⟨2, 1, false⟩ (.node 1152 ⟨0, 1, false⟩ (.node 514 ⟨2, 1, false⟩ (.node 451 ⟨3, 1, false⟩ (.node 449 ⟨1, 1, false⟩ (.node 448 ⟨0, 1, false⟩ .nil .nil) (.node 450 ⟨2, 1, false⟩ .nil .nil)) (.node 513 ⟨1, 1, false⟩ (.node 512 ⟨0, 1, false⟩ .nil .nil) .nil)) (.node 833 ⟨1, 1, false⟩ (.node 832 ⟨0, 1, false⟩ (.node 515 ⟨3, 1, false⟩ .nil .nil) .nil) (.node 897 ⟨1, 1, false⟩ (.node 896 ⟨0, 1, false⟩ .nil .nil) .nil))) (.node 2053 ⟨5, 1, false⟩ (.node 2050 ⟨2, 1, false⟩ (.node 2048 ⟨0, 1, false⟩ (.node 1216 ⟨0, 1, false⟩ .nil .nil) (.node 2049 ⟨1, 1, false⟩ .nil .nil)) (.node 2052 ⟨4, 1, false⟩ (.node 2051 ⟨3, 1, false⟩ .nil .nil) .nil)) (.node 2056 ⟨8, 1, false⟩ (.node 2055 ⟨7, 1, false⟩ (.node 2054 ⟨6, 1, false⟩ .nil .nil) .nil) (.node 2113 ⟨1, 1, false⟩ (.node 2112 ⟨0, 1, false⟩ .nil .nil) .nil)))) (.node 2240 ⟨0, 1, false⟩ (.node 2176 ⟨0, 1, false⟩ (.node 2118 ⟨6, 1, false⟩ (.node 2116 ⟨4, 1, false⟩ (.node 2115 ⟨3, 1, false⟩ .nil .nil) (.node 2117 ⟨5, 1, false⟩ .nil .nil)) (.node 2120 ⟨8, 1, false⟩ (.node 2119 ⟨7, 1, false⟩ .nil .nil) .nil)) (.node 2179 ⟨3, 1, false⟩ (.node 2178 ⟨2, 1, false⟩ (.node 2177 ⟨1, 1, false⟩ .nil .nil) .nil) (.node 2181 ⟨13, 1, false⟩ (.node 2180 ⟨4, 9, true⟩ .nil .nil) .nil))) (.node 3392 ⟨0, 1, false⟩ (.node 2244 ⟨4, 9, true⟩ (.node 2242 ⟨2, 1, false⟩ (.node 2241 ⟨1, 1, false⟩ .nil .nil) (.node 2243 ⟨3, 1, false⟩ .nil .nil)) (.node 3328 ⟨0, 1, false⟩ (.node 2245 ⟨13, 1, false⟩ .nil .nil) .nil)) (.node 5058 ⟨2, 1, false⟩ (.node 5057 ⟨1, 1, false⟩ (.node 5056 ⟨0, 1, false⟩ .nil .nil) .nil) (.node 5120 ⟨0, 1, false⟩ (.node 5059 ⟨3, 1, false⟩ .nil .nil) .nil))))) (.node 9667 ⟨3, 1, false⟩ (.node 7296 ⟨0, 1, false⟩ (.node 5956 ⟨4, 1, false⟩ (.node 5953 ⟨1, 1, false⟩ (.node 5123 ⟨3, 1, false⟩ (.node 5122 ⟨2, 1, false⟩ .nil .nil) (.node 5952 ⟨0, 1, false⟩ .nil .nil)) (.node 5955 ⟨3, 1, false⟩ (.node 5954 ⟨2, 1, false⟩ .nil .nil) .nil)) (.node 6018 ⟨2, 1, false⟩ (.node 6017 ⟨1, 1, false⟩ (.node 6016 ⟨0, 1, false⟩ .nil .nil) .nil) (.node 6020 ⟨4, 1, false⟩ (.node 6019 ⟨3, 1, false⟩ .nil .nil) .nil))) (.node 9601 ⟨1, 1, false⟩ (.node 7361 ⟨1, 1, false⟩ (.node 7298 ⟨2, 1, false⟩ (.node 7297 ⟨1, 1, false⟩ .nil .nil) (.node 7360 ⟨0, 1, false⟩ .nil .nil)) (.node 9600 ⟨0, 1, false⟩ (.node 7362 ⟨2, 1, false⟩ .nil .nil) .nil)) (.node 9664 ⟨0, 1, false⟩ (.node 9603 ⟨3, 1, false⟩ (.node 9602 ⟨2, 1, false⟩ .nil .nil) .nil) (.node 9666 ⟨2, 1, false⟩ (.node 9665 ⟨1, 1, false⟩ .nil .nil) .nil)))) (.node 10378 ⟨10, 1, false⟩ (.node 10372 ⟨4, 1, false⟩ (.node 10369 ⟨1, 1, false⟩ (.node 9856 ⟨0, 0, true⟩ (.node 9792 ⟨0, 0, true⟩ .nil .nil) (.node 10368 ⟨0, 1, false⟩ .nil .nil)) (.node 10371 ⟨3, 1, false⟩ (.node 10370 ⟨2, 1, false⟩ .nil .nil) .nil)) (.node 10375 ⟨7, 1, false⟩ (.node 10374 ⟨6, 1, false⟩ (.node 10373 ⟨5, 1, false⟩ .nil .nil) .nil) (.node 10377 ⟨9, 1, false⟩ (.node 10376 ⟨8, 1, false⟩ .nil .nil) .nil))) (.node 10437 ⟨5, 1, false⟩ (.node 10434 ⟨2, 1, false⟩ (.node 10433 ⟨1, 1, false⟩ (.node 10432 ⟨0, 1, false⟩ .nil .nil) .nil) (.node 10436 ⟨4, 1, false⟩ (.node 10435 ⟨3, 1, false⟩ .nil .nil) .nil)) (.node 10440 ⟨8, 1, false⟩ (.node 10439 ⟨7, 1, false⟩ (.node 10438 ⟨6, 1, false⟩ .nil .nil) .nil) (.node 10442 ⟨10, 1, false⟩ (.node 10441 ⟨9, 1, false⟩ .nil .nil) .nil))))))
theorem flT : flTab.All (fun T i => fldI Try.prog (T / 64) (T % 64) = some i) := ⟨fl80_1, ⟨fl33_2, ⟨fl18_0, ⟨fl8_2, ⟨fl7_3, ⟨fl7_1, ⟨fl7_0, trivial, trivial⟩, ⟨fl7_2, trivial, trivial⟩⟩, ⟨fl8_1, ⟨fl8_0, trivial, trivial⟩, trivial⟩⟩, ⟨fl13_1, ⟨fl13_0, ⟨fl8_3, trivial, trivial⟩, trivial⟩, ⟨fl14_1, ⟨fl14_0, trivial, trivial⟩, trivial⟩⟩⟩, ⟨fl32_5, ⟨fl32_2, ⟨fl32_0, ⟨fl19_0, trivial, trivial⟩, ⟨fl32_1, trivial, trivial⟩⟩, ⟨fl32_4, ⟨fl32_3, trivial, trivial⟩, trivial⟩⟩, ⟨fl32_8, ⟨fl32_7, ⟨fl32_6, trivial, trivial⟩, trivial⟩, ⟨fl33_1, ⟨fl33_0, trivial, trivial⟩, trivial⟩⟩⟩⟩, ⟨fl35_0, ⟨fl34_0, ⟨fl33_6, ⟨fl33_4, ⟨fl33_3, trivial, trivial⟩, ⟨fl33_5, trivial, trivial⟩⟩, ⟨fl33_8, ⟨fl33_7, trivial, trivial⟩, trivial⟩⟩, ⟨fl34_3, ⟨fl34_2, ⟨fl34_1, trivial, trivial⟩, trivial⟩, ⟨fl34_5, ⟨fl34_4, trivial, trivial⟩, trivial⟩⟩⟩, ⟨fl53_0, ⟨fl35_4, ⟨fl35_2, ⟨fl35_1, trivial, trivial⟩, ⟨fl35_3, trivial, trivial⟩⟩, ⟨fl52_0, ⟨fl35_5, trivial, trivial⟩, trivial⟩⟩, ⟨fl79_2, ⟨fl79_1, ⟨fl79_0, trivial, trivial⟩, trivial⟩, ⟨fl80_0, ⟨fl79_3, trivial, trivial⟩, trivial⟩⟩⟩⟩⟩, ⟨fl151_3, ⟨fl114_0, ⟨fl93_4, ⟨fl93_1, ⟨fl80_3, ⟨fl80_2, trivial, trivial⟩, ⟨fl93_0, trivial, trivial⟩⟩, ⟨fl93_3, ⟨fl93_2, trivial, trivial⟩, trivial⟩⟩, ⟨fl94_2, ⟨fl94_1, ⟨fl94_0, trivial, trivial⟩, trivial⟩, ⟨fl94_4, ⟨fl94_3, trivial, trivial⟩, trivial⟩⟩⟩, ⟨fl150_1, ⟨fl115_1, ⟨fl114_2, ⟨fl114_1, trivial, trivial⟩, ⟨fl115_0, trivial, trivial⟩⟩, ⟨fl150_0, ⟨fl115_2, trivial, trivial⟩, trivial⟩⟩, ⟨fl151_0, ⟨fl150_3, ⟨fl150_2, trivial, trivial⟩, trivial⟩, ⟨fl151_2, ⟨fl151_1, trivial, trivial⟩, trivial⟩⟩⟩⟩, ⟨fl162_10, ⟨fl162_4, ⟨fl162_1, ⟨fl154_0, ⟨fl153_0, trivial, trivial⟩, ⟨fl162_0, trivial, trivial⟩⟩, ⟨fl162_3, ⟨fl162_2, trivial, trivial⟩, trivial⟩⟩, ⟨fl162_7, ⟨fl162_6, ⟨fl162_5, trivial, trivial⟩, trivial⟩, ⟨fl162_9, ⟨fl162_8, trivial, trivial⟩, trivial⟩⟩⟩, ⟨fl163_5, ⟨fl163_2, ⟨fl163_1, ⟨fl163_0, trivial, trivial⟩, trivial⟩, ⟨fl163_4, ⟨fl163_3, trivial, trivial⟩, trivial⟩⟩, ⟨fl163_8, ⟨fl163_7, ⟨fl163_6, trivial, trivial⟩, trivial⟩, ⟨fl163_10, ⟨fl163_9, trivial, trivial⟩, trivial⟩⟩⟩⟩⟩⟩
theorem flA {T : Nat} {j : Nat} {i : FldI} (h : lookT flTab (T * 64 + j) = some i) (hj : Nat.blt j 64 = true := by rfl) : fldI Try.prog T j = some i := by
  have := flT.look h
  have hj := Nat.le_of_ble_eq_true hj
  rwa [show (T * 64 + j) / 64 = T by omega, show (T * 64 + j) % 64 = j by omega] at this
theorem cb2 : callB Try.prog 2 = true := by kernel_rfl
theorem cb3 : callB Try.prog 3 = true := by kernel_rfl
theorem cb4 : callB Try.prog 4 = true := by kernel_rfl
theorem cb5 : callB Try.prog 5 = true := by kernel_rfl
theorem cb6 : callB Try.prog 6 = true := by kernel_rfl
theorem cb7 : callB Try.prog 7 = true := by kernel_rfl
theorem cb8 : callB Try.prog 8 = true := by kernel_rfl
theorem cb9 : callB Try.prog 9 = true := by kernel_rfl
theorem cb10 : callB Try.prog 10 = true := by kernel_rfl
theorem cb11 : callB Try.prog 11 = true := by kernel_rfl
theorem cb12 : callB Try.prog 12 = true := by kernel_rfl
theorem cb13 : callB Try.prog 13 = true := by kernel_rfl
theorem cb14 : callB Try.prog 14 = true := by kernel_rfl
theorem cb15 : callB Try.prog 15 = true := by kernel_rfl
theorem cb16 : callB Try.prog 16 = true := by kernel_rfl
theorem cb17 : callB Try.prog 17 = true := by kernel_rfl
theorem cb18 : callB Try.prog 18 = true := by kernel_rfl
theorem cb19 : callB Try.prog 19 = true := by kernel_rfl
theorem cb20 : callB Try.prog 20 = true := by kernel_rfl
theorem cb21 : callB Try.prog 21 = true := by kernel_rfl
theorem cb22 : callB Try.prog 22 = true := by kernel_rfl
theorem cb23 : callB Try.prog 23 = true := by kernel_rfl
theorem cb24 : callB Try.prog 24 = true := by kernel_rfl
theorem cb25 : callB Try.prog 25 = true := by kernel_rfl
theorem cb26 : callB Try.prog 26 = true := by kernel_rfl
theorem cb27 : callB Try.prog 27 = true := by kernel_rfl
theorem cb28 : callB Try.prog 28 = true := by kernel_rfl
theorem cb29 : callB Try.prog 29 = true := by kernel_rfl
theorem cb30 : callB Try.prog 30 = true := by kernel_rfl
theorem cb31 : callB Try.prog 31 = true := by kernel_rfl
theorem cb32 : callB Try.prog 32 = true := by kernel_rfl
theorem cb33 : callB Try.prog 33 = true := by kernel_rfl
theorem cb34 : callB Try.prog 34 = true := by kernel_rfl
theorem cb35 : callB Try.prog 35 = true := by kernel_rfl
theorem cb36 : callB Try.prog 36 = true := by kernel_rfl
theorem cb37 : callB Try.prog 37 = true := by kernel_rfl
theorem cb38 : callB Try.prog 38 = true := by kernel_rfl
theorem cb39 : callB Try.prog 39 = true := by kernel_rfl
theorem cb40 : callB Try.prog 40 = true := by kernel_rfl
theorem cb41 : callB Try.prog 41 = true := by kernel_rfl
theorem cb42 : callB Try.prog 42 = true := by kernel_rfl
theorem cb43 : callB Try.prog 43 = true := by kernel_rfl
theorem cb44 : callB Try.prog 44 = true := by kernel_rfl
theorem cb45 : callB Try.prog 45 = true := by kernel_rfl
theorem cb46 : callB Try.prog 46 = true := by kernel_rfl
theorem cb47 : callB Try.prog 47 = true := by kernel_rfl
theorem cb48 : callB Try.prog 48 = true := by kernel_rfl
theorem cb49 : callB Try.prog 49 = true := by kernel_rfl
theorem cb50 : callB Try.prog 50 = true := by kernel_rfl
theorem cb51 : callB Try.prog 51 = true := by kernel_rfl
theorem cb52 : callB Try.prog 52 = true := by kernel_rfl
theorem cb53 : callB Try.prog 53 = true := by kernel_rfl
theorem cb54 : callB Try.prog 54 = true := by kernel_rfl
theorem cb55 : callB Try.prog 55 = true := by kernel_rfl
theorem cb56 : callB Try.prog 56 = true := by kernel_rfl
theorem cb57 : callB Try.prog 57 = true := by kernel_rfl
theorem cb58 : callB Try.prog 58 = true := by kernel_rfl
theorem cb59 : callB Try.prog 59 = true := by kernel_rfl
theorem cb60 : callB Try.prog 60 = true := by kernel_rfl
theorem cb61 : callB Try.prog 61 = true := by kernel_rfl
theorem cb62 : callB Try.prog 62 = true := by kernel_rfl
theorem cb63 : callB Try.prog 63 = true := by kernel_rfl
theorem cb64 : callB Try.prog 64 = true := by kernel_rfl
theorem cb65 : callB Try.prog 65 = true := by kernel_rfl
theorem cb66 : callB Try.prog 66 = true := by kernel_rfl
theorem cb67 : callB Try.prog 67 = true := by kernel_rfl
theorem cb68 : callB Try.prog 68 = true := by kernel_rfl
theorem cb69 : callB Try.prog 69 = true := by kernel_rfl
theorem cb70 : callB Try.prog 70 = true := by kernel_rfl
theorem cb71 : callB Try.prog 71 = true := by kernel_rfl
theorem cb72 : callB Try.prog 72 = true := by kernel_rfl
theorem cb73 : callB Try.prog 73 = true := by kernel_rfl
theorem cb74 : callB Try.prog 74 = true := by kernel_rfl
theorem cb75 : callB Try.prog 75 = true := by kernel_rfl
theorem cb76 : callB Try.prog 76 = true := by kernel_rfl
theorem cb77 : callB Try.prog 77 = true := by kernel_rfl
theorem cb78 : callB Try.prog 78 = true := by kernel_rfl
theorem cb79 : callB Try.prog 79 = true := by kernel_rfl
theorem cb80 : callB Try.prog 80 = true := by kernel_rfl
theorem cb81 : callB Try.prog 81 = true := by kernel_rfl
theorem cb82 : callB Try.prog 82 = true := by kernel_rfl
theorem cb83 : callB Try.prog 83 = true := by kernel_rfl
theorem cb84 : callB Try.prog 84 = true := by kernel_rfl
theorem cb85 : callB Try.prog 85 = true := by kernel_rfl
theorem cb86 : callB Try.prog 86 = true := by kernel_rfl
theorem cb87 : callB Try.prog 87 = true := by kernel_rfl
theorem cb88 : callB Try.prog 88 = true := by kernel_rfl
theorem cb89 : callB Try.prog 89 = true := by kernel_rfl
theorem cb90 : callB Try.prog 90 = true := by kernel_rfl
theorem cb91 : callB Try.prog 91 = true := by kernel_rfl
theorem cb92 : callB Try.prog 92 = true := by kernel_rfl
theorem cb93 : callB Try.prog 93 = true := by kernel_rfl
theorem cb94 : callB Try.prog 94 = true := by kernel_rfl
theorem cb95 : callB Try.prog 95 = true := by kernel_rfl
theorem cb96 : callB Try.prog 96 = true := by kernel_rfl
theorem cb97 : callB Try.prog 97 = true := by kernel_rfl
theorem cb98 : callB Try.prog 98 = true := by kernel_rfl
theorem cb99 : callB Try.prog 99 = true := by kernel_rfl
theorem cb100 : callB Try.prog 100 = true := by kernel_rfl
theorem cb101 : callB Try.prog 101 = true := by kernel_rfl
theorem cb102 : callB Try.prog 102 = true := by kernel_rfl
theorem cb103 : callB Try.prog 103 = true := by kernel_rfl
theorem cb104 : callB Try.prog 104 = true := by kernel_rfl
theorem cb105 : callB Try.prog 105 = true := by kernel_rfl
theorem cb106 : callB Try.prog 106 = true := by kernel_rfl
theorem cb107 : callB Try.prog 107 = true := by kernel_rfl
theorem cb108 : callB Try.prog 108 = true := by kernel_rfl
theorem cb109 : callB Try.prog 109 = true := by kernel_rfl
theorem cb110 : callB Try.prog 110 = true := by kernel_rfl
theorem cb111 : callB Try.prog 111 = true := by kernel_rfl
theorem cb112 : callB Try.prog 112 = true := by kernel_rfl
theorem cb113 : callB Try.prog 113 = true := by kernel_rfl
theorem cb114 : callB Try.prog 114 = true := by kernel_rfl
theorem cb115 : callB Try.prog 115 = true := by kernel_rfl
theorem cb116 : callB Try.prog 116 = true := by kernel_rfl
theorem cb117 : callB Try.prog 117 = true := by kernel_rfl
theorem cb118 : callB Try.prog 118 = true := by kernel_rfl
theorem cb119 : callB Try.prog 119 = true := by kernel_rfl
theorem cb120 : callB Try.prog 120 = true := by kernel_rfl
theorem cb121 : callB Try.prog 121 = true := by kernel_rfl
theorem cb122 : callB Try.prog 122 = true := by kernel_rfl
theorem cb123 : callB Try.prog 123 = true := by kernel_rfl
theorem cb124 : callB Try.prog 124 = true := by kernel_rfl
theorem cb125 : callB Try.prog 125 = true := by kernel_rfl
theorem cb126 : callB Try.prog 126 = true := by kernel_rfl
theorem cb127 : callB Try.prog 127 = true := by kernel_rfl
theorem cb128 : callB Try.prog 128 = true := by kernel_rfl
theorem cb129 : callB Try.prog 129 = true := by kernel_rfl
theorem cb130 : callB Try.prog 130 = true := by kernel_rfl
theorem cb131 : callB Try.prog 131 = true := by kernel_rfl
theorem cb132 : callB Try.prog 132 = true := by kernel_rfl
theorem cb133 : callB Try.prog 133 = true := by kernel_rfl
theorem cb134 : callB Try.prog 134 = true := by kernel_rfl
theorem cb135 : callB Try.prog 135 = true := by kernel_rfl
theorem cb136 : callB Try.prog 136 = true := by kernel_rfl
theorem cb137 : callB Try.prog 137 = true := by kernel_rfl
theorem cb138 : callB Try.prog 138 = true := by kernel_rfl
theorem cb139 : callB Try.prog 139 = true := by kernel_rfl
theorem cb140 : callB Try.prog 140 = true := by kernel_rfl
theorem cb141 : callB Try.prog 141 = true := by kernel_rfl
theorem cb142 : callB Try.prog 142 = true := by kernel_rfl
theorem cb143 : callB Try.prog 143 = true := by kernel_rfl
theorem cb144 : callB Try.prog 144 = true := by kernel_rfl
theorem cb145 : callB Try.prog 145 = true := by kernel_rfl
theorem cb146 : callB Try.prog 146 = true := by kernel_rfl
theorem cb147 : callB Try.prog 147 = true := by kernel_rfl
theorem cb148 : callB Try.prog 148 = true := by kernel_rfl
theorem cb149 : callB Try.prog 149 = true := by kernel_rfl
theorem cb150 : callB Try.prog 150 = true := by kernel_rfl
theorem cb151 : callB Try.prog 151 = true := by kernel_rfl
theorem cb152 : callB Try.prog 152 = true := by kernel_rfl
theorem cb153 : callB Try.prog 153 = true := by kernel_rfl
theorem cb154 : callB Try.prog 154 = true := by kernel_rfl
theorem cb155 : callB Try.prog 155 = true := by kernel_rfl
theorem cb156 : callB Try.prog 156 = true := by kernel_rfl
theorem cb157 : callB Try.prog 157 = true := by kernel_rfl
theorem cb158 : callB Try.prog 158 = true := by kernel_rfl
theorem cb159 : callB Try.prog 159 = true := by kernel_rfl
theorem cb160 : callB Try.prog 160 = true := by kernel_rfl
theorem cb161 : callB Try.prog 161 = true := by kernel_rfl
theorem cb162 : callB Try.prog 162 = true := by kernel_rfl
theorem cb163 : callB Try.prog 163 = true := by kernel_rfl
theorem cb164 : callB Try.prog 164 = true := by kernel_rfl
theorem cb165 : callB Try.prog 165 = true := by kernel_rfl
theorem cb166 : callB Try.prog 166 = true := by kernel_rfl
theorem cb167 : callB Try.prog 167 = true := by kernel_rfl
theorem cb168 : callB Try.prog 168 = true := by kernel_rfl
theorem cb169 : callB Try.prog 169 = true := by kernel_rfl
theorem cb170 : callB Try.prog 170 = true := by kernel_rfl
theorem cb171 : callB Try.prog 171 = true := by kernel_rfl
theorem cb172 : callB Try.prog 172 = true := by kernel_rfl
theorem cb173 : callB Try.prog 173 = true := by kernel_rfl
theorem cb174 : callB Try.prog 174 = true := by kernel_rfl
theorem cb175 : callB Try.prog 175 = true := by kernel_rfl
theorem cb176 : callB Try.prog 176 = true := by kernel_rfl
theorem cb177 : callB Try.prog 177 = true := by kernel_rfl
theorem cb178 : callB Try.prog 178 = true := by kernel_rfl
theorem cb179 : callB Try.prog 179 = true := by kernel_rfl
theorem cb180 : callB Try.prog 180 = true := by kernel_rfl
theorem cb181 : callB Try.prog 181 = true := by kernel_rfl
theorem cb182 : callB Try.prog 182 = true := by kernel_rfl
theorem cb183 : callB Try.prog 183 = true := by kernel_rfl
theorem cb184 : callB Try.prog 184 = true := by kernel_rfl
theorem cb185 : callB Try.prog 185 = true := by kernel_rfl
theorem cb186 : callB Try.prog 186 = true := by kernel_rfl
theorem cb187 : callB Try.prog 187 = true := by kernel_rfl
theorem cb188 : callB Try.prog 188 = true := by kernel_rfl
theorem cb189 : callB Try.prog 189 = true := by kernel_rfl
theorem cb190 : callB Try.prog 190 = true := by kernel_rfl
def cbTab : Tr Unit := (.node 96 () (.node 49 () (.node 25 () (.node 13 () (.node 7 () (.node 4 () (.node 3 () (.node 2 () .nil .nil) .nil) (.node 6 () (.node 5 () .nil .nil) .nil)) (.node 10 () (.node 9 () (.node 8 () .nil .nil) .nil) (.node 12 () (.node 11 () .nil .nil) .nil))) (.node 19 () (.node 16 () (.node 15 () (.node 14 () .nil .nil) .nil) (.node 18 () (.node 17 () .nil .nil) .nil)) (.node 22 () (.node 21 () (.node 20 () .nil .nil) .nil) (.node 24 () (.node 23 () .nil .nil) .nil)))) (.node 37 () (.node 31 () (.node 28 () (.node 27 () (.node 26 () .nil .nil) .nil) (.node 30 () (.node 29 () .nil .nil) .nil)) (.node 34 () (.node 33 () (.node 32 () .nil .nil) .nil) (.node 36 () (.node 35 () .nil .nil) .nil))) (.node 43 () (.node 40 () (.node 39 () (.node 38 () .nil .nil) .nil) (.node 42 () (.node 41 () .nil .nil) .nil)) (.node 46 () (.node 45 () (.node 44 () .nil .nil) .nil) (.node 48 () (.node 47 () .nil .nil) .nil))))) (.node 73 () (.node 61 () (.node 55 () (.node 52 () (.node 51 () (.node 50 () .nil .nil) .nil) (.node 54 () (.node 53 () .nil .nil) .nil)) (.node 58 () (.node 57 () (.node 56 () .nil .nil) .nil) (.node 60 () (.node 59 () .nil .nil) .nil))) (.node 67 () (.node 64 () (.node 63 () (.node 62 () .nil .nil) .nil) (.node 66 () (.node 65 () .nil .nil) .nil)) (.node 70 () (.node 69 () (.node 68 () .nil .nil) .nil) (.node 72 () (.node 71 () .nil .nil) .nil)))) (.node 85 () (.node 79 () (.node 76 () (.node 75 () (.node 74 () .nil .nil) .nil) (.node 78 () (.node 77 () .nil .nil) .nil)) (.node 82 () (.node 81 () (.node 80 () .nil .nil) .nil) (.node 84 () (.node 83 () .nil .nil) .nil))) (.node 91 () (.node 88 () (.node 87 () (.node 86 () .nil .nil) .nil) (.node 90 () (.node 89 () .nil .nil) .nil)) (.node 94 () (.node 93 () (.node 92 () .nil .nil) .nil) (.node 95 () .nil .nil)))))) (.node 144 () (.node 120 () (.node 108 () (.node 102 () (.node 99 () (.node 98 () (.node 97 () .nil .nil) .nil) (.node 101 () (.node 100 () .nil .nil) .nil)) (.node 105 () (.node 104 () (.node 103 () .nil .nil) .nil) (.node 107 () (.node 106 () .nil .nil) .nil))) (.node 114 () (.node 111 () (.node 110 () (.node 109 () .nil .nil) .nil) (.node 113 () (.node 112 () .nil .nil) .nil)) (.node 117 () (.node 116 () (.node 115 () .nil .nil) .nil) (.node 119 () (.node 118 () .nil .nil) .nil)))) (.node 132 () (.node 126 () (.node 123 () (.node 122 () (.node 121 () .nil .nil) .nil) (.node 125 () (.node 124 () .nil .nil) .nil)) (.node 129 () (.node 128 () (.node 127 () .nil .nil) .nil) (.node 131 () (.node 130 () .nil .nil) .nil))) (.node 138 () (.node 135 () (.node 134 () (.node 133 () .nil .nil) .nil) (.node 137 () (.node 136 () .nil .nil) .nil)) (.node 141 () (.node 140 () (.node 139 () .nil .nil) .nil) (.node 143 () (.node 142 () .nil .nil) .nil))))) (.node 168 () (.node 156 () (.node 150 () (.node 147 () (.node 146 () (.node 145 () .nil .nil) .nil) (.node 149 () (.node 148 () .nil .nil) .nil)) (.node 153 () (.node 152 () (.node 151 () .nil .nil) .nil) (.node 155 () (.node 154 () .nil .nil) .nil))) (.node 162 () (.node 159 () (.node 158 () (.node 157 () .nil .nil) .nil) (.node 161 () (.node 160 () .nil .nil) .nil)) (.node 165 () (.node 164 () (.node 163 () .nil .nil) .nil) (.node 167 () (.node 166 () .nil .nil) .nil)))) (.node 180 () (.node 174 () (.node 171 () (.node 170 () (.node 169 () .nil .nil) .nil) (.node 173 () (.node 172 () .nil .nil) .nil)) (.node 177 () (.node 176 () (.node 175 () .nil .nil) .nil) (.node 179 () (.node 178 () .nil .nil) .nil))) (.node 186 () (.node 183 () (.node 182 () (.node 181 () .nil .nil) .nil) (.node 185 () (.node 184 () .nil .nil) .nil)) (.node 189 () (.node 188 () (.node 187 () .nil .nil) .nil) (.node 190 () .nil .nil)))))))
theorem cbT : cbTab.All (fun T i => callB Try.prog T = true) := ⟨cb96, ⟨cb49, ⟨cb25, ⟨cb13, ⟨cb7, ⟨cb4, ⟨cb3, ⟨cb2, trivial, trivial⟩, trivial⟩, ⟨cb6, ⟨cb5, trivial, trivial⟩, trivial⟩⟩, ⟨cb10, ⟨cb9, ⟨cb8, trivial, trivial⟩, trivial⟩, ⟨cb12, ⟨cb11, trivial, trivial⟩, trivial⟩⟩⟩, ⟨cb19, ⟨cb16, ⟨cb15, ⟨cb14, trivial, trivial⟩, trivial⟩, ⟨cb18, ⟨cb17, trivial, trivial⟩, trivial⟩⟩, ⟨cb22, ⟨cb21, ⟨cb20, trivial, trivial⟩, trivial⟩, ⟨cb24, ⟨cb23, trivial, trivial⟩, trivial⟩⟩⟩⟩, ⟨cb37, ⟨cb31, ⟨cb28, ⟨cb27, ⟨cb26, trivial, trivial⟩, trivial⟩, ⟨cb30, ⟨cb29, trivial, trivial⟩, trivial⟩⟩, ⟨cb34, ⟨cb33, ⟨cb32, trivial, trivial⟩, trivial⟩, ⟨cb36, ⟨cb35, trivial, trivial⟩, trivial⟩⟩⟩, ⟨cb43, ⟨cb40, ⟨cb39, ⟨cb38, trivial, trivial⟩, trivial⟩, ⟨cb42, ⟨cb41, trivial, trivial⟩, trivial⟩⟩, ⟨cb46, ⟨cb45, ⟨cb44, trivial, trivial⟩, trivial⟩, ⟨cb48, ⟨cb47, trivial, trivial⟩, trivial⟩⟩⟩⟩⟩, ⟨cb73, ⟨cb61, ⟨cb55, ⟨cb52, ⟨cb51, ⟨cb50, trivial, trivial⟩, trivial⟩, ⟨cb54, ⟨cb53, trivial, trivial⟩, trivial⟩⟩, ⟨cb58, ⟨cb57, ⟨cb56, trivial, trivial⟩, trivial⟩, ⟨cb60, ⟨cb59, trivial, trivial⟩, trivial⟩⟩⟩, ⟨cb67, ⟨cb64, ⟨cb63, ⟨cb62, trivial, trivial⟩, trivial⟩, ⟨cb66, ⟨cb65, trivial, trivial⟩, trivial⟩⟩, ⟨cb70, ⟨cb69, ⟨cb68, trivial, trivial⟩, trivial⟩, ⟨cb72, ⟨cb71, trivial, trivial⟩, trivial⟩⟩⟩⟩, ⟨cb85, ⟨cb79, ⟨cb76, ⟨cb75, ⟨cb74, trivial, trivial⟩, trivial⟩, ⟨cb78, ⟨cb77, trivial, trivial⟩, trivial⟩⟩, ⟨cb82, ⟨cb81, ⟨cb80, trivial, trivial⟩, trivial⟩, ⟨cb84, ⟨cb83, trivial, trivial⟩, trivial⟩⟩⟩, ⟨cb91, ⟨cb88, ⟨cb87, ⟨cb86, trivial, trivial⟩, trivial⟩, ⟨cb90, ⟨cb89, trivial, trivial⟩, trivial⟩⟩, ⟨cb94, ⟨cb93, ⟨cb92, trivial, trivial⟩, trivial⟩, ⟨cb95, trivial, trivial⟩⟩⟩⟩⟩⟩, ⟨cb144, ⟨cb120, ⟨cb108, ⟨cb102, ⟨cb99, ⟨cb98, ⟨cb97, trivial, trivial⟩, trivial⟩, ⟨cb101, ⟨cb100, trivial, trivial⟩, trivial⟩⟩, ⟨cb105, ⟨cb104, ⟨cb103, trivial, trivial⟩, trivial⟩, ⟨cb107, ⟨cb106, trivial, trivial⟩, trivial⟩⟩⟩, ⟨cb114, ⟨cb111, ⟨cb110, ⟨cb109, trivial, trivial⟩, trivial⟩, ⟨cb113, ⟨cb112, trivial, trivial⟩, trivial⟩⟩, ⟨cb117, ⟨cb116, ⟨cb115, trivial, trivial⟩, trivial⟩, ⟨cb119, ⟨cb118, trivial, trivial⟩, trivial⟩⟩⟩⟩, ⟨cb132, ⟨cb126, ⟨cb123, ⟨cb122, ⟨cb121, trivial, trivial⟩, trivial⟩, ⟨cb125, ⟨cb124, trivial, trivial⟩, trivial⟩⟩, ⟨cb129, ⟨cb128, ⟨cb127, trivial, trivial⟩, trivial⟩, ⟨cb131, ⟨cb130, trivial, trivial⟩, trivial⟩⟩⟩, ⟨cb138, ⟨cb135, ⟨cb134, ⟨cb133, trivial, trivial⟩, trivial⟩, ⟨cb137, ⟨cb136, trivial, trivial⟩, trivial⟩⟩, ⟨cb141, ⟨cb140, ⟨cb139, trivial, trivial⟩, trivial⟩, ⟨cb143, ⟨cb142, trivial, trivial⟩, trivial⟩⟩⟩⟩⟩, ⟨cb168, ⟨cb156, ⟨cb150, ⟨cb147, ⟨cb146, ⟨cb145, trivial, trivial⟩, trivial⟩, ⟨cb149, ⟨cb148, trivial, trivial⟩, trivial⟩⟩, ⟨cb153, ⟨cb152, ⟨cb151, trivial, trivial⟩, trivial⟩, ⟨cb155, ⟨cb154, trivial, trivial⟩, trivial⟩⟩⟩, ⟨cb162, ⟨cb159, ⟨cb158, ⟨cb157, trivial, trivial⟩, trivial⟩, ⟨cb161, ⟨cb160, trivial, trivial⟩, trivial⟩⟩, ⟨cb165, ⟨cb164, ⟨cb163, trivial, trivial⟩, trivial⟩, ⟨cb167, ⟨cb166, trivial, trivial⟩, trivial⟩⟩⟩⟩, ⟨cb180, ⟨cb174, ⟨cb171, ⟨cb170, ⟨cb169, trivial, trivial⟩, trivial⟩, ⟨cb173, ⟨cb172, trivial, trivial⟩, trivial⟩⟩, ⟨cb177, ⟨cb176, ⟨cb175, trivial, trivial⟩, trivial⟩, ⟨cb179, ⟨cb178, trivial, trivial⟩, trivial⟩⟩⟩, ⟨cb186, ⟨cb183, ⟨cb182, ⟨cb181, trivial, trivial⟩, trivial⟩, ⟨cb185, ⟨cb184, trivial, trivial⟩, trivial⟩⟩, ⟨cb189, ⟨cb188, ⟨cb187, trivial, trivial⟩, trivial⟩, ⟨cb190, trivial, trivial⟩⟩⟩⟩⟩⟩⟩
theorem cbA {T : FuncId} {i : Unit} (h : lookT cbTab T = some i) : callB Try.prog T = true := cbT.look h
end Go.Proofs.Ytjkidecaciomgaa
/- VL, part 10: tables; loops; literal tests; the end. -/
namespace Go.Proofs.Ytjkidecaciomgaa
set_option linter.unusedVariables false
set_option linter.unusedSimpArgs false
open Go.RowKit

section
variable {C : Cx} {k : List Item} {σ : VS} {t : List (Nat × AV)} {r : List (Nat × RK)}
theorem run_condT {x : Operand} {c d : Code} (hx : evalA t x = some (.v (.bool true))) (h : Run C (.code c :: k) ⟨t, r⟩) : Run C (.code (.cond x c d) :: k) ⟨t, r⟩ := run_cond hx (fun _ => h) (fun e => by cases e)
theorem run_condF {x : Operand} {c d : Code} (hx : evalA t x = some (.v (.bool false))) (h : Run C (.code d :: k) ⟨t, r⟩) : Run C (.code (.cond x c d) :: k) ⟨t, r⟩ := run_cond hx (fun e => by cases e) (fun _ => h)
/-- A test that is known to be so. -/
theorem run_condY {x : Operand} {c d : Code} {b : Bool} (hx : evalA t x = some (.v (.bool b))) (hb : b = true) (h : Run C (.code c :: k) ⟨t, r⟩) : Run C (.code (.cond x c d) :: k) ⟨t, r⟩ := run_cond hx (fun _ => h) (fun e => by rw [hb] at e; cases e)
theorem run_condN {x : Operand} {c d : Code} {b : Bool} (hx : evalA t x = some (.v (.bool b))) (hb : b = false) (h : Run C (.code d :: k) ⟨t, r⟩) : Run C (.code (.cond x c d) :: k) ⟨t, r⟩ := run_cond hx (fun e => by rw [hb] at e; cases e) (fun _ => h)
/-- A bool that is known. -/
theorem v_is (n : Nat) {ops : Array Oper} {l : List Oper} {b : Bool} (c : Bool) (hx : look t n = some (.v (.bool b))) (hb : b = c) (h : RunL C ops l ⟨(n, .v (.bool c)) :: t, r⟩ k) : RunL C ops l ⟨t, r⟩ k := runL_know n hx (fun ι F S w u _ hu => by rw [← hb]; exact hu) h

/-- A loop, out of any state. -/
theorem v_loop {α : Type} {c : Code} (St : α → VS) (I : α → Prop) (μ : α → Nat) (x0 : α) (m : Nat → Nat) (hk : KeepM m C.r0) (ht : WkT σ.t m (St x0).t) (hr : WkR σ.r m (St x0).r) (hn : nodupB (idsM m (St x0).r) = true) (h0 : I x0) (round : ∀ x, I x → (∀ y, I y → μ y < μ x → Run C (.inLoop c :: k) (St y)) → Run C (.code c :: .inLoop c :: k) (St x)) : Run C (.code (.loop c) :: k) σ :=
  run_loop (run_weak m hk hr ht hn (run_while St I μ round x0 h0))
theorem v_again {α : Type} {c : Code} {St : α → VS} {I : α → Prop} {μ : α → Nat} {x : α} (ih : ∀ y, I y → μ y < μ x → Run C (.inLoop c :: k) (St y)) (y : α) (m : Nat → Nat) (hk : KeepM m C.r0) (ht : WkT σ.t m (St y).t) (hr : WkR σ.r m (St y).r) (hn : nodupB (idsM m (St y).r) = true) (hy : I y) (hlt : μ y < μ x) : Run C (.inLoop c :: k) σ :=
  run_weak m hk hr ht hn (ih y hy hlt)
end

section
variable {C : Cx} {k : List Item} {t : List (Nat × AV)} {r : List (Nat × RK)} {ops : Array Oper} {rest : List Oper}
variable {d : Nat} {ty ty' : TypeId} {pos : String} {af : Array Edge} {x y z : Operand} {V : AV} {g : Nat}
theorem run_eql_nilS {P : Program} {T e : TypeId} (hE : sliceE P T = some e) (w : World) (A : Option Addr) (n c : Nat) : (binOp .eql T (.slice A n c) (.slice none 0 0)).run P w = .ok (.bool A.isNone) w := Lib.run_eql_slice_nil w T e A n c 0 0 (sliceE_spec hE)
/-- 'xs == nil': if so, it is empty. -/
theorem v_sliceNil {α : Type} {E : Enc α} {xs : List α} {e t2 : TypeId} (hE : sliceE C.P ty' = some e) (hx : evalA t x = some (.sem (listS E xs))) (hn : Nat.blt d C.N = true) (hz : 0 < E.sz) (hk : ∀ b : Bool, (b = true → xs = []) → RunL C ops rest ⟨(d, .v (.bool b)) :: t, r⟩ k) : RunL C ops (⟨some d, .binOp .eql ty' x (.const (.slice none 0 0)) t2, ty, pos, af, none⟩ :: rest) ⟨t, r⟩ k := .mk fun a w hs => by
  obtain ⟨ι, F, S, hA⟩ := id hs
  have hv := hA.ts.eval hx
  simp only [AVR] at hv
  obtain ⟨A, c, hv, hc, hR⟩ := hv
  have hb : A.isNone = true → xs = [] := fun h => by
    rcases hR with hR | ⟨b, off, hb, _⟩
    · have := E.all_len xs
      rw [hR] at this
      rcases Nat.eq_zero_or_pos xs.length with h0 | h0
      · exact List.eq_nil_of_length_eq_zero h0
      · have h6 := Nat.mul_pos h0 hz
        rw [← this] at h6
        cases h6
    · rw [hb] at h; cases h
  refine wpList_step fun K hK => ?_
  rw [if_pos (by simp [Region.wanted])]
  refine Does.wp (Does.value (v := .bool A.isNone) (w' := w) ?_ ?_)
  · have : a.eval (.const (.slice none 0 0)) = .slice none 0 0 := rfl
    simp [execOp, hv, this, eqGuard_at_slice, run_eql_nilS hE]
  · refine hK _ _ ((hk A.isNone hb).go _ _ ⟨ι, F, S, hA.sw, hA.ts.put (Fut.refl _ _) (fun _ _ _ _ _ => rfl) (by rw [hA.sz]; exact Nat.le_of_ble_eq_true hn) (by simp [AVR]), by simp [Act.put, hA.sz], by simp [Act.put, hA.df]⟩)
/-- A slice's literal, of the call's own. -/
theorem op_litO {C : Cx} {r : List (Nat × RK)} {o : Oper} {α : Type} (g : Nat) (E : Enc α) (ys : List α) {e : TypeId} {i : TyI} {xs : List Operand} (l : List AV) {n : Nat} (ho : o.op = .buildSlice ty n (seqP 0 xs).toArray) (hn : xs.length = n) (hE : sliceE C.P ty = some e) (hi : tyI C.P e = some i) (hsz : i.size = E.sz) (hz : i.zero.length = i.size) (hlen : xs.length = l.length) (hy : ys.length = n) (hmax : n * i.size ≤ 16777216) (hnn : n ≤ 1000000) (hk : okL E.sz l = true) (hl : lineA l = E.all ys) (hf : freshR g r = true) (h0 : look C.r0 g = none) : OpEff C r o (xs.zip l) (.res g) ((g, .obj (ownS e E ys)) :: r) [g] := fun ι F S w ρ hs hr => by
  subst hn
  have hv := zip_AVRs hlen hr
  obtain ⟨h1, h2⟩ := line_R hk hv
  have hrun := run_buildSlice (ρ := ρ) (w := w) hE hi hz hmax (by rw [hsz]; exact h2)
  have hb : Below w.heap.size w (w.alloc (.cells ((xs.map ρ).flatMap fun u => u.cells.toList).toArray e)) := (Below.refl _ _).alloc (Nat.le_refl _) _
  have hw := hs.same hb
  have hFut : Fut S w S (w.alloc (.cells ((xs.map ρ).flatMap fun u => u.cells.toList).toArray e)) := ⟨fun _ h => h, fun k _ hk => hb.block k hk⟩
  have hlenA : ((xs.map ρ).flatMap fun u => u.cells.toList).length = ys.length * E.sz := by
    rw [h1.length, hl, E.all_len]
  refine Does.value (v := .slice (some ⟨w.heap.size, 0, none⟩) xs.length xs.length) (w' := w.alloc (.cells ((xs.map ρ).flatMap fun u => u.cells.toList).toArray e)) ?_ ⟨_, _, S, hw.add (g := g) (x := .obj (ownS e E ys)) (v := .slice (some ⟨w.heap.size, 0, none⟩) xs.length xs.length) (G := fun k => k = w.heap.size) hf h0 (fun T l e => by cases e) (fun R e => ?_) (fun k hk => ?_) (fun k hk hS => ?_) (fun g' y hg' hy hne k hk hk' => ?_), hFut, fun j hj => newI_other (mem_one hj), ?_⟩
  · simp [execOp, ho, hrun]
  · cases e
    refine ⟨⟨(xs.map ρ).flatMap fun u => u.cells.toList, ⟨hlenA, .inr ⟨w.heap.size, xs.length, ((xs.map ρ).flatMap fun u => u.cells.toList).toArray, by rw [hy], Nat.zero_le _, heap_alloc_new w _, by rw [hy]; exact Nat.le_refl _, by unfold maxLen; omega, by rw [List.size_toArray, hlenA, hy], ?_⟩⟩, ?_⟩, fun k => ?_⟩
    · rw [List.toList_toArray, ← hlenA, List.take_length]
    · rw [hl] at h1
      exact (h1.leaf_any (E.all_leaf ys)).fut hFut fun _ _ => rfl
    · simp [Value.ownBlock, eq_comm]
  · subst hk; exact .inl hs.but.size
  · subst hk; have := hs.hs.bnd _ hS; omega
  · subst hk'; have := hs.hs.lt hg' hy hk; omega
  · simp only [AVR, newI_same]
    exact ⟨trivial, rfl⟩
theorem v_litO {α : Type} (E : Enc α) (ys : List α) {e : TypeId} {i : TyI} (xs : List Operand) (l : List AV) {n : Nat} {ps : Array (Nat × Operand)} (hE : sliceE C.P ty' = some e) (hi : tyI C.P e = some i) (hps : ps = (seqP 0 xs).toArray) (hxn : xs.length = n) (hr : Rd t (xs.zip l)) (hsz : i.size = E.sz) (hz : i.zero.length = i.size) (hlen : xs.length = l.length) (hy : ys.length = n) (hmax : Nat.ble (n * i.size) 16777216 = true) (hnn : Nat.ble n 1000000 = true) (hok : okL E.sz l = true) (hl : lineA l = E.all ys) (hf : freshR d r = true) (hft : freshT d t = true) (h0 : look C.r0 d = none) (hn : Nat.blt d C.N = true) (hk : RunL C ops rest ⟨(d, .res d) :: t, (d, .obj (ownS e E ys)) :: r⟩ k) : RunL C ops (⟨some d, .buildSlice ty' n ps, ty, pos, af, none⟩ :: rest) ⟨t, r⟩ k := runL_eff _ [d] rfl rfl hn hr (by simp [freshTs, hft]) (op_litO d E ys l (by rw [hps]) hxn hE hi hsz hz hlen hy (Nat.le_of_ble_eq_true hmax) (Nat.le_of_ble_eq_true hnn) hok hl hf h0) hk
theorem v_appendD {α : Type} {e : TypeId} {E : Enc α} {xs ys : List α} {i : TyI} (hE : sliceE C.P ty' = some e) (hi : tyI C.P e = some i) (hx : evalA t x = some (.res g)) (hg : look r g = some (.obj (ownS e E xs))) (hy : evalA t y = some (.sem (listS E ys))) (hsz : i.size = E.sz) (hz : i.zero.length = E.sz) (h0 : Nat.blt 0 E.sz = true) (hby : Nat.ble i.bytes 100000000 = true) (hm : xs.length + ys.length ≤ 1000000) (hf : freshR d r = true) (hft : freshT d t = true) (hr0 : look C.r0 d = none) (hn : Nat.blt d C.N = true) (hk : RunL C ops rest ⟨(d, .res d) :: t, (d, .obj (ownS e E (xs ++ ys))) :: (g, .dead) :: r⟩ k) : RunL C ops (⟨some d, .call { callee := .builtin .append, args := #[x, y], argTypes := #[ty', ty'] }, ty, pos, af, none⟩ :: rest) ⟨t, r⟩ k := v_append d hE hi hx hg hy hsz hz h0 hby hm hf hft hr0 hn hk
end

/-! ### Operands in line -/
def evalAs (t : List (Nat × AV)) : List Operand → Option (List AV)
  | [] => some []
  | x :: l => match evalA t x, evalAs t l with
    | some a, some r => some (a :: r)
    | _, _ => none
theorem evalAs_spec {t : List (Nat × AV)} : ∀ {xs : List Operand} {l : List AV}, evalAs t xs = some l → Rd t (xs.zip l) ∧ xs.length = l.length
  | [], l, h => by
    simp only [evalAs] at h
    cases h
    exact ⟨trivial, rfl⟩
  | x :: xs, l, h => by
    simp only [evalAs] at h
    split at h
    · rename_i a r h1 h2
      cases h
      obtain ⟨h3, h4⟩ := evalAs_spec h2
      exact ⟨⟨h1, h3⟩, by simp [h4]⟩
    · cases h
def opsOf : List (Nat × Operand) → List Operand
  | [] => []
  | p :: l => p.2 :: opsOf l
theorem evalAs_zip {t : List (Nat × AV)} : ∀ {ps : List (Nat × Operand)} {l : List AV}, evalAs t (opsOf ps) = some l → Rd t (zipRd ps l) ∧ ps.length = l.length
  | [], l, h => by
    simp only [opsOf, evalAs] at h
    cases h
    exact ⟨trivial, rfl⟩
  | p :: ps, l, h => by
    simp only [opsOf, evalAs] at h
    split at h
    · rename_i a r h1 h2
      cases h
      obtain ⟨h3, h4⟩ := evalAs_zip h2
      exact ⟨⟨h1, h3⟩, by simp [h4]⟩
    · cases h
section
variable {C : Cx} {k : List Item} {t : List (Nat × AV)} {r : List (Nat × RK)} {ops : Array Oper} {rest : List Oper}
variable {d : Nat} {ty ty' : TypeId} {pos : String} {af : Array Edge} {x y z : Operand} {V : AV} {g : Nat}
theorem v_b {ps : List (Nat × Operand)} {pl : List (Nat × Nat)} {i : TyI} {l l' : List AV} (hpl : placesI C.P ty' = some pl) (hi : tyI C.P ty' = some i) (hr : evalAs t (opsOf ps) = some l) (hf : fillA (fun n => pl[n]?) (i.zero.map .v) (zipFl ps l) = some l') (hn : Nat.blt d C.N = true) (hk : RunL C ops rest ⟨(d, .agg l') :: t, r⟩ k) : RunL C ops (⟨some d, .build ty' ps.toArray, ty, pos, af, none⟩ :: rest) ⟨t, r⟩ k := v_build l hpl hi (evalAs_zip hr).1 (evalAs_zip hr).2 hf hn hk
theorem v_l {α : Type} (E : Enc α) (ys : List α) {e : TypeId} {i : TyI} {l : List AV} {n : Nat} {ps : List (Nat × Operand)} (hE : sliceE C.P ty' = some e) (hi : tyI C.P e = some i) (hr : evalAs t (opsOf ps) = some l) (hps : ps = seqP 0 (opsOf ps)) (hxn : (opsOf ps).length = n) (hsz : i.size = E.sz) (hz : i.zero.length = i.size) (hy : ys.length = n) (hmax : Nat.ble (n * i.size) 16777216 = true) (hok : okL E.sz l = true) (hl : lineA l = E.all ys) (hn : Nat.blt d C.N = true) (hk : RunL C ops rest ⟨(d, .sem (listS E ys)) :: t, r⟩ k) : RunL C ops (⟨some d, .buildSlice ty' n ps.toArray, ty, pos, af, none⟩ :: rest) ⟨t, r⟩ k := v_lit E ys (opsOf ps) l hE hi (congrArg List.toArray hps) hxn (evalAs_spec hr).1 hsz hz (evalAs_spec hr).2 hy hmax hok hl hn hk
theorem v_lO {α : Type} (E : Enc α) (ys : List α) {e : TypeId} {i : TyI} {l : List AV} {n : Nat} {ps : List (Nat × Operand)} (hE : sliceE C.P ty' = some e) (hi : tyI C.P e = some i) (hr : evalAs t (opsOf ps) = some l) (hps : ps = seqP 0 (opsOf ps)) (hxn : (opsOf ps).length = n) (hsz : i.size = E.sz) (hz : i.zero.length = i.size) (hy : ys.length = n) (hmax : Nat.ble (n * i.size) 16777216 = true) (hnn : Nat.ble n 1000000 = true) (hok : okL E.sz l = true) (hl : lineA l = E.all ys) (hf : freshR d r = true) (hft : freshT d t = true) (h0 : look C.r0 d = none) (hn : Nat.blt d C.N = true) (hk : RunL C ops rest ⟨(d, .res d) :: t, (d, .obj (ownS e E ys)) :: r⟩ k) : RunL C ops (⟨some d, .buildSlice ty' n ps.toArray, ty, pos, af, none⟩ :: rest) ⟨t, r⟩ k := v_litO E ys (opsOf ps) l hE hi (congrArg List.toArray hps) hxn (evalAs_spec hr).1 hsz hz (evalAs_spec hr).2 hy hmax hnn hok hl hf hft h0 hn hk
theorem v_f {f : FuncId} {xs : List Operand} {l : List AV} (hr : evalAs t xs = some l) (hn : Nat.blt d C.N = true) (hk : RunL C ops rest ⟨(d, .fn f l) :: t, r⟩ k) : RunL C ops (⟨some d, .makeFunc (.func f) #[] xs.toArray, ty, pos, af, none⟩ :: rest) ⟨t, r⟩ k := v_func l (evalAs_spec hr).1 (evalAs_spec hr).2 hn hk
theorem v_c {f : FuncId} {l : List AV} {xs : List Operand} {ts : Array TypeId} (hF : Fun C.P f l [] V []) (hr : evalAs t xs = some l) (hc : callB C.P f = true) (hV : V.noRef = true) (hn : Nat.blt d C.N = true) (hk : RunL C ops rest ⟨(d, V) :: t, r⟩ k) : RunL C ops (⟨some d, .call { callee := .value (.func f), args := xs.toArray, argTypes := ts }, ty, pos, af, none⟩ :: rest) ⟨t, r⟩ k := v_call hF hc (evalAs_spec hr).1 (evalAs_spec hr).2 hV hn hk
theorem v_cO {f : FuncId} {l : List AV} {xs : List Operand} {ts : Array TypeId} {R : Res} (hF : Fun C.P f l [] (.res 0) [(0, .obj R)]) (hr : evalAs t xs = some l) (hc : callB C.P f = true) (hl : AV.noRefs l = true) (hf : freshR d r = true) (hft : freshT d t = true) (h0 : notIn d (idsOf C.r0) = true) (hn : Nat.blt d C.N = true) (hk : RunL C ops rest ⟨(d, .res d) :: t, (d, .obj R) :: r⟩ k) : RunL C ops (⟨some d, .call { callee := .value (.func f), args := xs.toArray, argTypes := ts }, ty, pos, af, none⟩ :: rest) ⟨t, r⟩ k := v_callO d hF hc (evalAs_spec hr).1 (evalAs_spec hr).2 hl hf hft h0 hn hk
theorem renL_length (m : Nat → Nat) : ∀ l : List AV, (AV.renL m l).length = l.length
  | [] => rfl
  | x :: l => by simp [AV.renL, renL_length m l]
theorem v_cR {f : FuncId} {r0 r1 : List (Nat × RK)} {l : List AV} {xs : List Operand} {ts : Array TypeId} (m : Nat → Nat) (hF : Fun C.P f l r0 V r1) (hr : evalAs t xs = some (AV.renL m l)) (hc : callB C.P f = true) (hw : WkR r m r0) (hn0 : nodupB (idsM m r0) = true) (hl0 : liveAll r0 = true) (hn1 : nodupB (idsM m r1) = true) (hfr : freshAll r C.r0 (newIds m r0 r1) = true) (hft : freshTs t (newIds m r0 r1) = true) (hnew : allNotIn (idsM m r0) (newIds m r0 r1) = true) (hcl : closedR (idsOf r1 ++ idsOf r0) r1 = true) (hrv : V.inL (idsOf r1 ++ idsOf r0) = true) (hn : Nat.blt d C.N = true) (hk : RunL C ops rest ⟨(d, V.ren m) :: t, renR m r1 (deadR m r0 r)⟩ k) : RunL C ops (⟨some d, .call { callee := .value (.func f), args := xs.toArray, argTypes := ts }, ty, pos, af, none⟩ :: rest) ⟨t, r⟩ k :=
  v_callR m hF hc (evalAs_spec hr).1 ((evalAs_spec hr).2.trans (renL_length m l)) hw hn0 hl0 hn1 hfr hft hnew hcl hrv hn hk
theorem v_cC {f : FuncId} {r0 r1 : List (Nat × RK)} {l cap : List AV} {xs : List Operand} {ts : Array TypeId} (m : Nat → Nat) (hF : Fun C.P f (l ++ cap) r0 V r1) (hx : evalA t x = some (.fn f (AV.renL m cap))) (hr : evalAs t xs = some (AV.renL m l)) (hc : callB C.P f = true) (hw : WkR r m r0) (hn0 : nodupB (idsM m r0) = true) (hl0 : liveAll r0 = true) (hn1 : nodupB (idsM m r1) = true) (hfr : freshAll r C.r0 (newIds m r0 r1) = true) (hft : freshTs t (newIds m r0 r1) = true) (hnew : allNotIn (idsM m r0) (newIds m r0 r1) = true) (hcl : closedR (idsOf r1 ++ idsOf r0) r1 = true) (hrv : V.inL (idsOf r1 ++ idsOf r0) = true) (hn : Nat.blt d C.N = true) (hk : RunL C ops rest ⟨(d, V.ren m) :: t, renR m r1 (deadR m r0 r)⟩ k) : RunL C ops (⟨some d, .call { callee := .value x, args := xs.toArray, argTypes := ts }, ty, pos, af, none⟩ :: rest) ⟨t, r⟩ k :=
  v_callC m hF hc hx (evalAs_spec hr).1 ((evalAs_spec hr).2.trans (renL_length m l)) hw hn0 hl0 hn1 hfr hft hnew hcl hrv hn hk
end

/-! ### Less said -/
def Le (x y : AV) : Prop := ∀ ι S w u, AVR ι S w x u → AVR ι S w y u
def LeL : List AV → List AV → Prop
  | [], [] => True
  | x :: l, y :: l' => Le x y ∧ LeL l l'
  | _, _ => False
theorem Le.refl {x : AV} : Le x x := fun _ _ _ _ h => h
theorem LeL.refl : ∀ {l : List AV}, LeL l l
  | [] => trivial
  | _ :: _ => ⟨Le.refl, LeL.refl⟩
theorem Le.nil {α : Type} {E : Enc α} : Le (.v (.slice none 0 0)) (.sem (listS E ([] : List α))) := fun ι S w u h => by
  simp only [AVR] at h ⊢
  subst h
  exact ⟨none, 0, rfl, by simp, .inl rfl⟩
theorem LeL.R {ι : Nat → Value} {S : Bl} {w : World} : ∀ {l l' : List AV} {us : List Value}, LeL l l' → AVRs ι S w l us → AVRs ι S w l' us
  | [], [], us, _, h => h
  | x :: l, y :: l', us, hl, h => by
    simp only [AVRs] at h
    obtain ⟨u, r, e, h1, h2⟩ := h
    exact ⟨u, r, e, hl.1 _ _ _ _ h1, LeL.R hl.2 h2⟩
theorem Le.agg {l l' : List AV} (h : LeL l l') : Le (.agg l) (.agg l') := fun ι S w u hu => by
  simp only [AVR] at hu ⊢
  obtain ⟨us, e, h2⟩ := hu
  exact ⟨us, e, h.R h2⟩
theorem Le.tup {l l' : List AV} (h : LeL l l') : Le (.tup l) (.tup l') := fun ι S w u hu => by
  simp only [AVR] at hu ⊢
  obtain ⟨us, e, h2⟩ := hu
  exact ⟨us, e, h.R h2⟩
/-- A contract that says less. -/
theorem Fun.le {P : Program} {f : FuncId} {l : List AV} {r0 r1 : List (Nat × RK)} {x y : AV} (h : Fun P f l r0 x r1) (hle : Le x y) : Fun P f l r0 y r1 := fun ι F S w vals hh hv => (h ι F S w vals hh hv).mono fun e w' hr => by
  obtain ⟨ι', F', S', u, h1, h2, h3, h4⟩ := hr
  exact ⟨ι', F', S', u, h1, h2, hle _ _ _ _ h3, h4⟩
/-- A contract for arguments of which more is known. -/
theorem Fun.arg {P : Program} {f : FuncId} {l l' : List AV} {r0 r1 : List (Nat × RK)} {x : AV} (h : Fun P f l r0 x r1) (hle : LeL l' l) : Fun P f l' r0 x r1 := fun ι F S w vals hh hv => h ι F S w vals hh (hle.R hv)
section
variable {C : Cx} {k : List Item} {t : List (Nat × AV)} {r : List (Nat × RK)}
theorem run_le (n : Nat) {x y : AV} (hx : look t n = some x) (hy : Le x y) (h : Run C k ⟨(n, y) :: t, r⟩) : Run C k ⟨t, r⟩ := run_know n hx (fun ι F S w u _ hu => hy _ _ _ _ hu) h
theorem runL_le {ops : Array Oper} {l : List Oper} (n : Nat) {x y : AV} (hx : look t n = some x) (hy : Le x y) (h : RunL C ops l ⟨(n, y) :: t, r⟩ k) : RunL C ops l ⟨t, r⟩ k := runL_know n hx (fun ι F S w u _ hu => hy _ _ _ _ hu) h
/-- A box of which less is said. -/
theorem run_leB (g : Nat) {T : TypeId} {l l' : List AV} (hg : look r g = some (.box T l)) (hl : LeL l l') (h : Run C k ⟨t, (g, .box T l') :: r⟩) : Run C k ⟨t, r⟩ := .mk fun a w hs => by
  obtain ⟨ι, F, S, hA⟩ := hs
  have hb : But (F g) w w := But.refl _ _
  obtain ⟨hw, _⟩ := hA.sw.turn (x' := .box T l') hg rfl hb (fun T' l'' e => by
    cases e
    obtain ⟨b, h1, h2, cs, h3, h4⟩ := hA.sw.hs.bx g T l hg
    exact ⟨b, h1, h2, cs, h3, hl.R h4⟩) (fun R e => by cases e)
  exact h.go a w ⟨ι, F, S, hw, hA.ts, hA.sz, hA.df⟩
end
/-- Names by a table; others stay. -/
def mp (l : List (Nat × Nat)) (n : Nat) : Nat := match look l n with
  | some k => k
  | none => n
/-- What is handed back as a row of the caller's own may be read alone. -/
theorem Fun.freeze {P : Program} {f : FuncId} {l : List AV} {α : Type} {e : TypeId} {E : Enc α} {xs : List α} (h : Fun P f l [] (.res 0) [(0, .obj (ownS e E xs))]) : Fun P f l [] (.sem (listS E xs)) [] := fun ι F S w vals hh hv => (h ι F S w vals hh hv).mono fun e' w' hr => by
  obtain ⟨ι', F', S', u, h1, h2, h3, h4, h5, h6, h7, h8⟩ := hr
  have hob := h2.ob 0 _ rfl
  have hD : ∀ k, ¬ Dom [] F k := fun k ⟨_, _, h, _⟩ => by cases h
  refine ⟨ι', F', fun k => S' k ∨ F' 0 k, u, h1, ⟨fun _ _ _ h => (by cases h), fun _ _ h => (by cases h), fun _ _ _ _ h => (by cases h), fun _ _ h => (by cases h), fun k hk => hk.elim (h2.bnd k) ((ownS e E xs).bnd hob k)⟩, ?_, ⟨fun k hk => .inl (h4.mono k hk), h4.same⟩, h5, h6, fun k hk => hk.elim (h7 k) fun hk => ?_, fun _ _ h => (by cases h)⟩
  · simp only [AVR] at h3 ⊢
    rw [h3.1]
    exact ownS_list hob (fun k hk => .inl hk) (fun k hk => .inr hk)
  · exact (h8 0 _ rfl rfl k hk).imp_left (fun h => h) |>.elim (fun h => .inr (.inl h)) (fun h => absurd h (hD k))
end Go.Proofs.Ytjkidecaciomgaa
