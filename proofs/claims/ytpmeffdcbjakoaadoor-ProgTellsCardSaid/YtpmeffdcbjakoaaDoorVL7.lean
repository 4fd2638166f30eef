/- VL, part 7: values built, calls. -/
import Derived.Test.YtpmeffdcbjakoaaDoorVL6
namespace Go.Proofs.YtpmeffdcbjakoaaDoor
set_option linter.unusedVariables false
set_option linter.unusedSimpArgs false
open Go.RowKit

/-! ### Structs and literals -/
def fillA (place : Nat → Option (Nat × Nat)) (l : List AV) : List (Nat × AV) → Option (List AV)
  | [] => some l
  | p :: r => match place p.1 with
    | none => none
    | some q => bif (Nat.beq (cellsA p.2).length q.2 && Nat.ble (q.1 + (cellsA p.2).length) l.length && okC p.2) then fillA place (spliceL l q.1 (cellsA p.2)) r else none
theorem foldl_splice : ∀ (cs : List Value) (n : Nat) (a : Array Value) (off : Nat), (cs.zipIdx n).foldl (fun (a : Array Value) (p : Value × Nat) => a.setIfInBounds (off + p.2) p.1) a = (spliceL a.toList (off + n) cs).toArray
  | [], n, a, off => by simp [spliceL]
  | c :: cs, n, a, off => by
    rw [List.zipIdx_cons, List.foldl_cons, foldl_splice cs (n + 1)]
    simp only [spliceL]
    congr 2
    simp
def FlR (ι : Nat → Value) (S : Bl) (w : World) : List (Nat × AV) → List (Nat × Value) → Prop
  | [], vs => vs = []
  | p :: ps, vs => ∃ v r, vs = v :: r ∧ p.1 = v.1 ∧ AVR ι S w p.2 v.2 ∧ FlR ι S w ps r
theorem fillA_R {ι : Nat → Value} {S : Bl} {w : World} {place : Nat → Option (Nat × Nat)} : ∀ {ps : List (Nat × AV)} {l l' : List AV} {us : List Value} {vs : List (Nat × Value)}, fillA place l ps = some l' → AVRs ι S w l us → FlR ι S w ps vs → ∃ us', Instr.fill place us.toArray vs = some us'.toArray ∧ AVRs ι S w l' us'
  | [], l, l', us, vs, h, hl, hp => by
    simp only [FlR] at hp
    subst hp
    simp only [fillA] at h
    cases h
    exact ⟨us, rfl, hl⟩
  | p :: ps, l, l', us, vs, h, hl, hp => by
    simp only [FlR] at hp
    obtain ⟨v, vs, rfl, h1a, h1b, h2⟩ := hp
    · have h1 : p.1 = v.1 ∧ AVR ι S w p.2 v.2 := ⟨h1a, h1b⟩
      simp only [fillA] at h
      cases hq : place p.1 with
      | none => simp [hq] at h
      | some q =>
        simp only [hq] at h
        cases hc : (Nat.beq (cellsA p.2).length q.2 && Nat.ble (q.1 + (cellsA p.2).length) l.length && okC p.2) with
        | false => rw [hc] at h; cases h
        | true =>
          rw [hc, cond_true] at h
          simp only [Bool.and_eq_true] at hc
          obtain ⟨⟨c1, c2⟩, c3⟩ := hc
          have c1 := Nat.eq_of_beq_eq_true c1
          have c2 := Nat.le_of_ble_eq_true c2
          have hv := cellsA_R h1.2 c3
          have hvl := hv.length
          obtain ⟨us', e1, e2⟩ := fillA_R h (hl.splice (o := q.1) hv) h2
          refine ⟨us', ?_, e2⟩
          obtain ⟨i, u⟩ := v
          have hi : p.1 = i := h1.1
          rw [hi] at hq
          obtain ⟨off, sz⟩ := q
          have hll := hl.length
          have hus : u.cells.size = (cellsA p.2).length := by rw [← hvl, Array.length_toList]
          simp only at c1 c2
          have hcond : ¬ (decide (u.cells.size ≠ sz) || decide (off + u.cells.size > us.toArray.size)) = true := by
            rw [hus, List.size_toArray, hll]
            simp only [Bool.or_eq_true, decide_eq_true_eq]
            omega
          have hff : (u.cells.zipIdx.foldl (fun cs (p : Value × Nat) => cs.setIfInBounds (off + p.2) p.1) us.toArray) = (spliceL us off u.cells.toList).toArray := by
            have hz := foldl_splice u.cells.toList 0 us.toArray off
            rw [Nat.add_zero] at hz
            rw [List.toList_toArray] at hz
            rw [← hz, ← Array.foldl_toList]
            congr 1
            simp
          have step : Instr.fill place us.toArray ((i, u) :: vs) = Instr.fill place (u.cells.zipIdx.foldl (fun cs (p : Value × Nat) => cs.setIfInBounds (off + p.2) p.1) us.toArray) vs := by
            simp only [Instr.fill, hq, if_neg hcond]
          rw [step, hff]
          exact e1
def placesI (P : Program) (T : TypeId) : Option (List (Nat × Nat)) :=
  match P.underlying T with
  | some (.struct fs) => fs.toList.mapM (fun f => (P.info? f.type).map fun i => (f.offset, i.size))
  | _ => none
theorem placesI_spec {P : Program} {T : TypeId} {pl : List (Nat × Nat)} (h : placesI P T = some pl) : ∃ fs, P.underlying T = some (.struct fs) ∧ fs.toList.mapM (fun f => (P.info? f.type).map fun i => (f.offset, i.size)) = some pl := by
  unfold placesI at h
  split at h
  · rename_i fs h1; exact ⟨fs, h1, h⟩
  · cases h
def zipRd : List (Nat × Operand) → List AV → List (Operand × AV)
  | p :: ps, a :: l => (p.2, a) :: zipRd ps l
  | _, _ => []
def zipFl : List (Nat × Operand) → List AV → List (Nat × AV)
  | p :: ps, a :: l => (p.1, a) :: zipFl ps l
  | _, _ => []
theorem zip_R {ι : Nat → Value} {S : Bl} {w : World} {ρ : Operand → Value} : ∀ {ps : List (Nat × Operand)} {l : List AV}, ps.length = l.length → (∀ q ∈ zipRd ps l, AVR ι S w q.2 (ρ q.1)) → FlR ι S w (zipFl ps l) (ps.map fun p => (p.1, ρ p.2))
  | [], [], _, _ => rfl
  | p :: ps, a :: l, hl, h => by
    refine ⟨_, _, rfl, rfl, h (p.2, a) (by simp [zipRd]), (zip_R (by simpa using hl) fun q hq => h q (by simp [zipRd, hq]))⟩
  | [], _ :: _, hl, _ => by simp at hl
  | _ :: _, [], hl, _ => by simp at hl
section
variable {C : Cx} {r : List (Nat × RK)} {o : Oper} {x y z : Operand} {V : AV} {ty : TypeId} {g : Nat}
theorem AVRs_v {ι : Nat → Value} {S : Bl} {w : World} : ∀ zs : List Value, AVRs ι S w (zs.map .v) zs
  | [] => rfl
  | u :: zs => ⟨u, zs, rfl, by simp [AVR], AVRs_v zs⟩
theorem op_build {ps : List (Nat × Operand)} {pl : List (Nat × Nat)} {i : TyI} (l : List AV) {l' : List AV} (ho : o.op = .build ty ps.toArray) (hpl : placesI C.P ty = some pl) (hi : tyI C.P ty = some i) (hlen : ps.length = l.length) (hf : fillA (fun n => pl[n]?) (i.zero.map .v) (zipFl ps l) = some l') : OpPure C r o (zipRd ps l) (.agg l') := OpPure.here fun ι F S w ρ hs hr => by
  obtain ⟨fs, h1, h2⟩ := placesI_spec hpl
  obtain ⟨ti, d, zv, t1, t2, t3, t4, t5, t6, t7⟩ := tyI_info hi
  obtain ⟨us, e1, e2⟩ := fillA_R hf (AVRs_v (ι := ι) (S := S) (w := w) i.zero) (zip_R hlen hr)
  refine ⟨.agg us.toArray, ?_, us, rfl, e2⟩
  have hz : zv.cells = i.zero.toArray := by rw [← t7, Array.toArray_toList]
  have hb : C.P.built ty (ps.map fun p => (p.1, ρ p.2)) = some us.toArray := by
    unfold Program.built
    simp only [t1, h1, t3, h2, hz]
    rw [← e1]
    congr 1
    funext n
    simp
  have hrun := run_build (P := C.P) w ty ((ps.map fun p => (p.1, ρ p.2)).toArray) us.toArray (by rw [List.toList_toArray]; exact hb)
  simp [execOp, ho, hrun]
theorem op_makeFunc {f : FuncId} {xs : List Operand} {l : List AV} (ho : o.op = .makeFunc (.func f) #[] xs.toArray) (hlen : xs.length = l.length) : OpPure C r o (xs.zip l) (.fn f l) := OpPure.here fun ι F S w ρ hs hr => by
  refine ⟨.func (.func f) #[] (xs.map ρ).toArray, by simp [execOp, ho, Instr.makeFunc], xs.map ρ, rfl, ?_⟩
  clear ho
  induction xs generalizing l with
  | nil => cases l with
    | nil => rfl
    | cons => simp at hlen
  | cons x xs ih =>
    cases l with
    | nil => simp at hlen
    | cons a l => exact ⟨ρ x, xs.map ρ, rfl, hr (x, a) (by simp), ih (by simpa using hlen) fun p hp => hr p (by simp [hp])⟩
def seqP : Nat → List Operand → List (Nat × Operand)
  | _, [] => []
  | n, x :: l => (n, x) :: seqP (n + 1) l
theorem fill_seq {sz : Nat} : ∀ {vs : List Value} {n : Nat} {cur : List Value}, (∀ u ∈ vs, u.cells.size = sz) → cur.length = (n + vs.length) * sz → Instr.fill (fun i => some (i * sz, sz)) cur.toArray (vs.zipIdx n |>.map fun p => (p.2, p.1)) = some (cur.take (n * sz) ++ vs.flatMap fun u => u.cells.toList).toArray
  | [], n, cur, _, hl => by
    simp only [List.length_nil, Nat.add_zero] at hl
    simp [Instr.fill, ← hl]
  | u :: vs, n, cur, hv, hl => by
    have hu := hv u (by simp)
    simp only [List.zipIdx_cons, List.map_cons, Instr.fill]
    have hle : n * sz + sz ≤ cur.length := by
      rw [hl, List.length_cons, ← Nat.succ_mul]; exact Nat.mul_le_mul_right _ (by omega)
    rw [if_neg (by simp only [List.size_toArray, hu, Bool.or_eq_true, decide_eq_true_eq]; omega)]
    have hff : (u.cells.zipIdx.foldl (fun cs (p : Value × Nat) => cs.setIfInBounds (n * sz + p.2) p.1) cur.toArray) = (spliceL cur (n * sz) u.cells.toList).toArray := by
      have hz := foldl_splice u.cells.toList 0 cur.toArray (n * sz)
      rw [Nat.add_zero, List.toList_toArray] at hz
      rw [← hz, ← Array.foldl_toList]
      congr 1
      simp
    have hul : u.cells.toList.length = sz := by rw [Array.length_toList]; exact hu
    rw [hff, fill_seq (fun v hv' => hv v (by simp [hv'])) (by rw [spliceL_length, hl, List.length_cons]; congr 1; omega)]
    rw [spliceL_eq _ _ _ (by rw [hul]; exact hle), Nat.add_mul, Nat.one_mul]
    congr 2
    rw [show n * sz + sz = (cur.take (n * sz) ++ u.cells.toList).length by rw [List.length_append, List.length_take, Nat.min_eq_left (by omega), hul], List.take_left]
    simp
/-- The parts' cells, in line. -/
def lineA : List AV → List AV
  | [] => []
  | x :: l => cellsA x ++ lineA l
def okL (sz : Nat) : List AV → Bool
  | [] => true
  | x :: l => okC x && Nat.beq (cellsA x).length sz && okL sz l
theorem line_R {ι : Nat → Value} {S : Bl} {w : World} {sz : Nat} : ∀ {l : List AV} {vs : List Value}, okL sz l = true → AVRs ι S w l vs → AVRs ι S w (lineA l) (vs.flatMap fun u => u.cells.toList) ∧ ∀ u ∈ vs, u.cells.size = sz
  | [], vs, _, h => by
    simp only [AVRs] at h
    subst h
    exact ⟨rfl, fun u hu => by cases hu⟩
  | x :: l, vs, hk, h => by
    simp only [AVRs] at h
    obtain ⟨u, r, rfl, h1, h2⟩ := h
    simp only [okL, Bool.and_eq_true] at hk
    obtain ⟨⟨k1, k2⟩, k3⟩ := hk
    obtain ⟨i1, i2⟩ := line_R k3 h2
    have hc := cellsA_R h1 k1
    refine ⟨by rw [List.flatMap_cons]; exact hc.append i1, fun v hv => ?_⟩
    rcases List.mem_cons.1 hv with rfl | hv
    · have := hc.length
      rw [Array.length_toList] at this
      rw [this]; exact Nat.eq_of_beq_eq_true k2
    · exact i2 v hv
theorem seqP_map {ρ : Operand → Value} : ∀ (xs : List Operand) (n : Nat), (seqP n xs).map (fun p => (p.1, ρ p.2)) = ((xs.map ρ).zipIdx n).map fun p => (p.2, p.1)
  | [], n => rfl
  | x :: xs, n => by simp [seqP, seqP_map xs (n + 1)]
theorem zip_AVRs {ι : Nat → Value} {S : Bl} {w : World} {ρ : Operand → Value} : ∀ {xs : List Operand} {l : List AV}, xs.length = l.length → (∀ p ∈ xs.zip l, AVR ι S w p.2 (ρ p.1)) → AVRs ι S w l (xs.map ρ)
  | [], [], _, _ => rfl
  | x :: xs, a :: l, hl, h => ⟨ρ x, xs.map ρ, rfl, h (x, a) (by simp), zip_AVRs (by simpa using hl) fun p hp => h p (by simp [hp])⟩
  | [], _ :: _, hl, _ => by simp at hl
  | _ :: _, [], hl, _ => by simp at hl
theorem run_buildSlice {P : Program} {e : TypeId} {i : TyI} {xs : List Operand} {ρ : Operand → Value} {w : World} (hE : sliceE P ty = some e) (hi : tyI P e = some i) (hz : i.zero.length = i.size) (hn : xs.length * i.size ≤ 16777216) (hv : ∀ u ∈ xs.map ρ, u.cells.size = i.size) : (Instr.buildSlice ty xs.length ((seqP 0 xs).map fun p => (p.1, ρ p.2)).toArray).run P w = .ok (.slice (some ⟨w.heap.size, 0, none⟩) xs.length xs.length) (w.alloc (.cells ((xs.map ρ).flatMap fun u => u.cells.toList).toArray e)) := by
  have hu := sliceE_spec hE
  obtain ⟨z, h1, h2⟩ := run_zeroValue hi w
  have key : ∀ zs : Array Value, Instr.fill (fun j => some (j * i.size, i.size)) ((Array.range (xs.length * i.size)).map (zs[· % zs.size]!)) ((seqP 0 xs).map fun p => (p.1, ρ p.2)) = some ((xs.map ρ).flatMap fun u => u.cells.toList).toArray := fun zs => by
    rw [seqP_map]
    have := fill_seq (sz := i.size) (vs := xs.map ρ) (n := 0) (cur := ((Array.range (xs.length * i.size)).map (zs[· % zs.size]!)).toList) hv (by simp)
    rw [Array.toArray_toList] at this
    rw [this]
    simp
  unfold Instr.buildSlice
  simp only [Sem.run_bind, run_underlying hu, Result.andThen_ok, run_sizeOf hi]
  rw [if_neg (by omega)]
  simp only [Sem.run_bind, Sem.run_ite, Sem.run_pure, h1, Result.andThen_ok]
  split
  · simp only [Result.andThen_ok, List.toList_toArray, key]
    simp [newRow]
  · simp only [Result.andThen_ok, List.toList_toArray, key]
    simp [newRow]
/-- A slice's literal, that is read alone from here on. -/
theorem op_buildSlice {α : Type} (E : Enc α) (ys : List α) {e : TypeId} {i : TyI} {xs : List Operand} (l : List AV) {n : Nat} (ho : o.op = .buildSlice ty n (seqP 0 xs).toArray) (hn : xs.length = n) (hE : sliceE C.P ty = some e) (hi : tyI C.P e = some i) (hsz : i.size = E.sz) (hz : i.zero.length = i.size) (hlen : xs.length = l.length) (hy : ys.length = n) (hmax : n * i.size ≤ 16777216) (hk : okL E.sz l = true) (hl : lineA l = E.all ys) : OpPure C r o (xs.zip l) (.sem (listS E ys)) := fun ι F S w ρ hs hr => by
  subst hn
  have hv := zip_AVRs hlen hr
  obtain ⟨h1, h2⟩ := line_R hk hv
  have hrun := run_buildSlice (ρ := ρ) (w := w) hE hi hz hmax (by rw [hsz]; exact h2)
  have hb : Below w.heap.size w (w.alloc (.cells ((xs.map ρ).flatMap fun u => u.cells.toList).toArray e)) := (Below.refl _ _).alloc (Nat.le_refl _) _
  have hFut : Fut S w (fun k => S k ∨ k = w.heap.size) (w.alloc (.cells ((xs.map ρ).flatMap fun u => u.cells.toList).toArray e)) := ⟨fun _ h => .inl h, fun k _ hk => hb.block k hk⟩
  refine Does.value (v := .slice (some ⟨w.heap.size, 0, none⟩) xs.length xs.length) (w' := w.alloc (.cells ((xs.map ρ).flatMap fun u => u.cells.toList).toArray e)) ?_ ⟨fun k => S k ∨ k = w.heap.size, hs.step hb (fun _ h => .inl h) (fun k hk => hk.imp_right fun h => by omega) (fun k hk => ?_), hFut, ?_⟩
  · have : (List.map (fun (x : Nat × Operand) => match x with | (i, x) => (i, ρ x)) (seqP 0 xs)) = (seqP 0 xs).map fun p => (p.1, ρ p.2) := rfl
    simp [execOp, ho, hrun]
  · rcases hk with hk | hk
    · have := hs.hs.bnd k hk; simp; omega
    · simp; omega
  · simp only [AVR]
    refine ⟨_, xs.length, by rw [hy], by rw [hy]; exact Nat.le_refl _, .inr ⟨w.heap.size, 0, rfl, .inr rfl, (xs.map ρ).flatMap fun u => u.cells.toList, ?_, fun j u hu => ?_⟩⟩
    · rw [hl] at h1
      exact (h1.leaf_any (E.all_leaf ys)).fut hFut fun _ _ => rfl
    · rw [Addr.add_lit, Nat.zero_add, World.cell?_alloc_new]
      simpa using hu
end
end Go.Proofs.YtpmeffdcbjakoaaDoor
