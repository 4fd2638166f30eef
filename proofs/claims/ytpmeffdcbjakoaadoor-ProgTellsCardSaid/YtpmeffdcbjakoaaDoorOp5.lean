/- Arguments, opened: a program (api.Prog), where the tables lie as laid. -/
import Derived.Test.YtpmeffdcbjakoaaDoorOp4
import Derived.Test.YtpmeffdcbjakoaaDoorOpen
import Derived.Test.YtpmeffdcbjakoaaDoorRows
import Derived.Deep.Slices
import Derived.Deep.Fields
import Derived.ChangeSame
import Derived.SizedLaws
namespace Go.Proofs.YtpmeffdcbjakoaaDoor
set_option linter.unusedVariables false
set_option linter.unusedSimpArgs false
set_option maxRecDepth 100000
open Go.RowKit Go.ChangeShapes Go.WideShapes Go.ChangeAt Go.Deep
instance : Inhabited OpD := ⟨op0⟩
section
variable {H : Type} {enc : TypeId × Value → H} {W : World} {spare : Nat → Bool} {held : Bool} {b0 base : Nat} {r : Reach}

theorem fld_one {P : Program} {n' : Nat} {t : TypeId} {cs : List Value} {o : Nat} {y : DataW H × List MemPlace} (h : DataW.trod enc P W base spare held n' t ((cs.drop o).take 1) = some y) (ho : o < cs.length) : ∃ c, cs[o]? = some c ∧ DataW.trod enc P W base spare held n' t [c] = some y := by
  refine ⟨cs[o], List.getElem?_eq_getElem ho, ?_⟩
  have : (cs.drop o).take 1 = [cs[o]] := by rw [List.drop_eq_getElem_cons ho]; rfl
  rwa [this] at h
theorem fld_int {P : Program} {n' : Nat} {t : TypeId} {c : Value} {y : DataW H × List MemPlace} (hu : P.underlying t = some (.int .i64)) (h : DataW.trod enc P W base spare held n' t [c] = some y) : ∃ n : Int, c = .int .i64 n := by
  obtain ⟨m, hm, _⟩ := DataW.trod_int hu h
  simp only [List.cons.injEq, and_true] at hm
  exact ⟨m, hm⟩
theorem fld_str {P : Program} {n' : Nat} {t : TypeId} {c : Value} {y : DataW H × List MemPlace} (hu : P.underlying t = some .string) (h : DataW.trod enc P W base spare held n' t [c] = some y) : ∃ s : ByteArray, c = .string s ∧ s.size ≤ 9223372036854775807 := by
  obtain ⟨m, hm, _, hl⟩ := DataW.trod_string hu h
  simp only [List.cons.injEq, and_true] at hm
  exact ⟨m, hm, hl⟩
abbrev old (W : World) : Bl := fun k => k < W.heap.size
theorem fld_get {n : Nat} {fs : Array Field} {cs : List Value} {ys : List (DataW H × List MemPlace)} {P : Program} (hf : ∀ (i : Nat) (f : Field), fs[i]? = some f → DataW.trod enc P W base spare held n f.type ((cs.drop f.offset).take (P.cellsOf f.type)) = ys[i]?) (hlen : ys.length = fs.size) {i o : Nat} {f : Field} (hi : fs[i]? = some f) (ho : f.offset = o) (hc : P.cellsOf f.type = 1) (hl : o < cs.length) : ∃ c y, cs[o]? = some c ∧ ys[i]? = some y ∧ DataW.trod enc P W base spare held n f.type [c] = some y := by
  have h1 := hf i f hi
  have hlt : i < ys.length := by rw [hlen]; exact (Array.getElem?_eq_some_iff.1 hi).1
  rw [hc, ho, List.getElem?_eq_getElem hlt] at h1
  obtain ⟨c, h2, h3⟩ := fld_one h1 hl
  exact ⟨c, _, h2, List.getElem?_eq_getElem hlt, h3⟩
theorem op_cells (hL : Laid (old W) W) {n' : Nat} {cs : List Value} {y : DataW H × List MemPlace} (h : DataW.trod enc Tryd.prog W base spare held n' 33 cs = some y) (hl : cs.length = 6) : ∃ x : OpD, AVRs ι0 (old W) W (opE.f x) cs ∧ OpOk x := by
  obtain ⟨ys, m, _, _, _, hlen, hf⟩ := DataW.trod_struct Tryd.underlying33 h
  obtain ⟨c0, y0, e0, _, t0⟩ := fld_get hf hlen (i := 0) (o := 0) rfl rfl (by kernel_rfl) (by omega)
  obtain ⟨v0, rfl⟩ := fld_int Tryd.underlying3 t0
  obtain ⟨c1, y1, e1, _, t1⟩ := fld_get hf hlen (i := 1) (o := 1) rfl rfl (by kernel_rfl) (by omega)
  obtain ⟨v1, rfl⟩ := fld_int Tryd.underlying3 t1
  obtain ⟨c2, y2, e2, _, t2⟩ := fld_get hf hlen (i := 2) (o := 2) rfl rfl (by kernel_rfl) (by omega)
  obtain ⟨v2, rfl⟩ := fld_int Tryd.underlying3 t2
  obtain ⟨c3, y3, e3, _, t3⟩ := fld_get hf hlen (i := 3) (o := 3) rfl rfl (by kernel_rfl) (by omega)
  obtain ⟨v3, rfl⟩ := fld_int Tryd.underlying3 t3
  obtain ⟨c4, y4, e4, _, t4⟩ := fld_get hf hlen (i := 4) (o := 4) rfl rfl (by kernel_rfl) (by omega)
  obtain ⟨v4, rfl⟩ := fld_int Tryd.underlying3 t4
  obtain ⟨c5, y5, e5, _, t5⟩ := fld_get hf hlen (i := 5) (o := 5) rfl rfl (by kernel_rfl) (by omega)
  obtain ⟨v5, rfl, w5⟩ := fld_str Tryd.underlying9 t5
  match cs, hl with
  | [_, _, _, _, _, _], _ =>
    simp only [List.getElem?_cons_zero, List.getElem?_cons_succ, Option.some.injEq] at e0 e1 e2 e3 e4 e5
    subst e0 e1 e2 e3 e4 e5
    exact ⟨⟨v0, v1, v2, v3, v4, v5⟩, ⟨_, _, rfl, ⟨rfl, fun _ _ => hL⟩, _, _, rfl, rfl, _, _, rfl, rfl, _, _, rfl, rfl, _, _, rfl, rfl, _, _, rfl, rfl, rfl⟩, w5⟩
theorem all_flatG {α : Type} {E : Enc α} {S : Bl} {X : Nat → α × List Value} : ∀ n, (∀ i, i < n → AVRs ι0 S W (E.f (X i).1) (X i).2) → AVRs ι0 S W (E.all ((List.range n).map fun i => (X i).1)) ((List.range n).flatMap fun i => (X i).2)
  | 0, _ => rfl
  | n + 1, h => by
    rw [List.range_succ, List.map_append, E.all_append, List.flatMap_append]
    refine (all_flatG n fun i hi => h i (by omega)).append ?_
    have := h n (by omega)
    simpa [Enc.all] using this
theorem flat_getG {α : Type} {X : Nat → α × List Value} {z : Nat} {p : Nat → Value → Prop} : ∀ n, (∀ i, i < n → (X i).2.length = z ∧ ∀ j u, (X i).2[j]? = some u → p (i * z + j) u) → ((List.range n).flatMap fun i => (X i).2).length = n * z ∧ ∀ j u, ((List.range n).flatMap fun i => (X i).2)[j]? = some u → p j u
  | 0, _ => ⟨by simp, fun j u h => by simp at h⟩
  | n + 1, h => by
    obtain ⟨h1, h2⟩ := flat_getG n fun i hi => h i (by omega)
    obtain ⟨h3, h4⟩ := h n (by omega)
    rw [List.range_succ, List.flatMap_append]
    have hs : (List.flatMap (fun i => (X i).2) [n]) = (X n).2 := by simp
    rw [hs]
    refine ⟨by rw [List.length_append, h1, h3, Nat.add_mul]; omega, fun j u hj => ?_⟩
    rw [List.getElem?_append] at hj
    split at hj
    · exact h2 j u hj
    · rw [h1] at hj
      have := h4 _ u hj
      rename_i hge
      rw [h1] at hge
      rwa [show n * z + (j - n * z) = j by omega] at this
def elemsOf : DataW H → List (DataW H)
  | .slice e _ => e
  | _ => []
/-- A slice in memory, opened: its elements, and their data. -/
theorem open_rows {α : Type} [Inhabited α] {P : Program} {E : Enc α} {t e : TypeId} {n' : Nat} {c : Value} {y : DataW H × List MemPlace} {ok : α → DataW H → Prop} (hu : P.underlying t = some (.slice e)) (hC : P.cellsOf e = E.sz) (hz : E.sz ≠ 0)
    (hel : ∀ n cs y, DataW.trod enc P W base spare held n e cs = some y → cs.length = E.sz → ∃ x, AVRs ι0 (old W) W (E.f x) cs ∧ ok x y.1) (h : DataW.trod enc P W base spare held n' t [c] = some y) :
    ∃ (A : Option Addr) (cap : Nat) (xs : List α), c = .slice A xs.length cap ∧ (listS E xs).R W (old W) c ∧ xs.length ≤ 9223372036854775807 ∧ (elemsOf y.1).length = xs.length ∧ ∀ (i : Nat) (x : α), xs[i]? = some x → ∃ d : DataW H, (elemsOf y.1)[i]? = some d ∧ ok x d := by
  rcases open_slice hu h with ⟨hcs, hy⟩ | ⟨x, l, cc, m, n, D, Pl, hcs, _, hl, hm, hmm, hy, hi⟩
  · simp at hcs
    subst hcs
    subst hy
    exact ⟨none, 0, [], rfl, ⟨none, 0, rfl, by simp, .inl rfl⟩, by simp, rfl, fun i x hx => by simp at hx⟩
  · simp at hcs
    subst hcs
    have hlm : l ≤ m := by rw [hmm]; split <;> omega
    rw [hC] at hi
    obtain ⟨X, hX⟩ := choose_lt (α := α × List Value) (n := l) (p := fun i s => (AVRs ι0 (old W) W (E.f s.1) s.2 ∧ ok s.1 (D i)) ∧ s.2.length = E.sz ∧ ∀ j u, s.2[j]? = some u → W.cell? (x.add (i * E.sz + j)) = some u) (fun i hil => by
      obtain ⟨cs', h1, h2⟩ := hi i (by omega)
      obtain ⟨_, hcl, hat⟩ := World.cells?_some h1
      obtain ⟨s, hs, hst⟩ := hel _ _ _ h2 hcl
      refine ⟨(s, cs'), ⟨hs, hst⟩, hcl, fun j u hj => ?_⟩
      have hjl : j < E.sz := by
        have := (List.getElem?_eq_some_iff.1 hj).1
        simp only at this
        omega
      rw [← add_of_add, hat j hjl]
      exact hj)
    have hxl : ((List.range l).map fun i => (X i).1).length = l := by simp
    have hml : maxLen = 9223372036854775807 := rfl
    refine ⟨some x, cc, (List.range l).map fun i => (X i).1, by rw [hxl], ⟨some x, cc, by rw [hxl], by rw [hxl]; exact hl, ?_⟩, by rw [hxl]; omega, ?_, fun i z hz' => ?_⟩
    · by_cases h0 : l = 0
      · subst h0
        exact .inl rfl
      · obtain ⟨_, h14, hc⟩ := hX 0 (by omega)
        have hc0 : W.cell? x = some ((X 0).2[0]'(by omega)) := by
          have := hc 0 _ (List.getElem?_eq_getElem (by omega))
          rw [Nat.zero_mul] at this
          exact this
        have hx : x = ⟨x.block, x.off, none⟩ := add_flat W x (by rw [hc0]; rfl)
        obtain ⟨_, hcells⟩ := flat_getG (X := X) (z := E.sz) (p := fun j u => W.cell? (x.add j) = some u) l fun i hi' => (hX i hi').2
        refine .inr ⟨x.block, x.off, by rw [← hx], World.block_lt_of_cell? W _ hc0, _, all_flatG l fun i hi' => (hX i hi').1.1, fun j u hj => ?_⟩
        rw [← hx]
        exact hcells j u hj
    · rw [hy, elemsOf, hxl]; simp
    · have hil : i < l := by
        have := (List.getElem?_eq_some_iff.1 hz').1
        simpa using this
      have e1 : z = (X i).1 := by
        rw [List.getElem?_map, List.getElem?_range hil] at hz'
        simpa using hz'.symm
      refine ⟨D i, ?_, ?_⟩
      · rw [hy, elemsOf, List.getElem?_map, List.getElem?_range hil]; rfl
      · rw [e1]; exact (hX i hil).1.2
theorem w_len {P : Program} {t e : TypeId} {d : DataW H} (hu : P.underlying t = some (.slice e)) (hb : 1 ≤ P.bytesOf e) (h : ∀ n ∈ d.weights P t, n ≤ reachBytes) : (elemsOf d).length ≤ reachBytes := by
  cases d with
  | slice es sp =>
    have := h ((es.length + sp.length) * P.bytesOf e) (by simp [DataW.weights, hu])
    have h2 : es.length + sp.length ≤ (es.length + sp.length) * P.bytesOf e := Nat.le_mul_of_pos_right _ hb
    show es.length ≤ _
    omega
  | _ => exact Nat.zero_le _
theorem w_all {P : Program} {e : TypeId} {d : DataW H} : ∀ {es : List (DataW H)}, d ∈ es → ∀ n ∈ d.weights P e, n ∈ DataW.weightsAll P e es
  | x :: es, hd, n, hn => by
    rw [DataW.weightsAll, List.mem_append]
    rcases List.mem_cons.1 hd with rfl | hd
    · exact .inl hn
    · exact .inr (w_all hd n hn)
  | [], hd, _, _ => by simp at hd
theorem w_el {P : Program} {t e : TypeId} {d d' : DataW H} (hu : P.underlying t = some (.slice e)) (h : ∀ n ∈ d.weights P t, n ≤ reachBytes) (hd : d' ∈ elemsOf d) : ∀ n ∈ d'.weights P e, n ≤ reachBytes := fun n hn => by
  cases d with
  | slice es sp =>
    refine h n ?_
    simp only [DataW.weights, hu]
    exact List.mem_cons_of_mem _ (List.mem_append_left _ (w_all hd n hn))
  | _ => simp [elemsOf] at hd
theorem sum_le {b : Nat} : ∀ (l : List (List OpD)), (∀ x ∈ l, x.length ≤ b) → sumL l ≤ l.length * b
  | [], _ => by simp [sumL]
  | x :: r, h => by
    have h1 := sum_le r fun y hy => h y (List.mem_cons_of_mem _ hy)
    have h2 := h x List.mem_cons_self
    simp only [sumL, List.map_cons, List.sum_cons, List.length_cons] at h1 ⊢
    rw [Nat.add_mul]
    omega
theorem open_prog {v : Value} {d : DataW H} {ps : List MemPlace} (hL : Laid (old W) W) (hv : Value.okWide Tryd.prog W r b0 25 v) (h : DataW.Trod enc Tryd.prog W base spare held 25 v d ps) (hw : ∀ n ∈ d.weights Tryd.prog 25, n ≤ reachBytes) :
    ∃ (main : List OpD) (calls : List (List OpD)), AVRs ι0 (old W) W [progA main calls] [v] ∧ OpsOk main ∧ (∀ l ∈ calls, OpsOk l) ∧ calls.length ≤ 9223372036854775807 ∧ (calls.length ≤ 100 → countM main calls ≤ 9223372036854775807) := by
  obtain ⟨⟨cs⟩, rfl, hsz⟩ := okWide_struct Tryd.underlying25 hv
  obtain ⟨fuel, hf0⟩ := h
  have e2 : Tryd.prog.cellsOf 25 = 2 := by kernel_rfl
  rw [e2] at hsz
  have hf1 : DataW.trod enc Tryd.prog W base spare held fuel 25 cs = some (d, ps) := hf0
  obtain ⟨ys, m, _, hd, _, hlen, hf⟩ := DataW.trod_struct Tryd.underlying25 hf1
  have hcl : cs.length = 2 := hsz
  obtain ⟨c0, y0, e0, g0, t0⟩ := fld_get hf hlen (i := 0) (o := 0) rfl rfl (by kernel_rfl) (by omega)
  obtain ⟨c1, y1, e1, g1, t1⟩ := fld_get hf hlen (i := 1) (o := 1) rfl rfl (by kernel_rfl) (by omega)
  have hops : ∀ {n' : Nat} {c : Value} {y : DataW H × List MemPlace}, DataW.trod enc Tryd.prog W base spare held n' 22 [c] = some y → ∃ xs : List OpD, (listS opE xs).R W (old W) c ∧ OpsOk xs ∧ (elemsOf y.1).length = xs.length := fun {n' c y} ht => by
    obtain ⟨A, cap, xs, h1, h2, h3, h4, h5⟩ := open_rows (E := opE) (ok := fun x _ => OpOk x) Tryd.underlying22 (by kernel_rfl) (by decide) (fun n cs y hy hl => op_cells hL hy hl) ht
    refine ⟨xs, h2, ⟨h3, fun x hx => ?_⟩, h4⟩
    obtain ⟨i, hi⟩ := List.getElem?_of_mem hx
    obtain ⟨_, _, h6⟩ := h5 i x hi
    exact h6
  obtain ⟨main, m1, m2, m3⟩ := hops t0
  obtain ⟨A1, cap1, calls, q1, q2, q3, q4, q5⟩ := open_rows (E := callE) (ok := fun l d => OpsOk l ∧ (elemsOf d).length = l.length) Tryd.underlying23 (by kernel_rfl) (by decide) (fun n cs y hy hl => by
    match cs, hl with
    | [c], _ =>
      obtain ⟨xs, p1, p2, p3⟩ := hops hy
      exact ⟨xs, ⟨_, _, rfl, by simpa [AVR] using p1, rfl⟩, p2, p3⟩) t1
  have hys : ys = [y0, y1] := by
    have : ys.length = 2 := hlen
    match ys, this with
    | [a, b], _ =>
      simp at g0 g1
      rw [g0, g1]
  have hd1 : d = .agg [y0.1, y1.1] := by
    have := congrArg Prod.fst hd
    rw [hys] at this
    exact this
  have hww : ∀ n ∈ y0.1.weights Tryd.prog 22 ++ (y1.1.weights Tryd.prog 23 ++ []), n ≤ reachBytes := fun n hn => hw n (by
    rw [hd1]
    simp only [DataW.weights, Tryd.underlying25]
    exact hn)
  have hw0 : ∀ n ∈ y0.1.weights Tryd.prog 22, n ≤ reachBytes := fun n hn => hww n (List.mem_append_left _ hn)
  have hw1 : ∀ n ∈ y1.1.weights Tryd.prog 23, n ≤ reachBytes := fun n hn => hww n (List.mem_append_right _ (List.mem_append_left _ hn))
  have hb : 1 ≤ Tryd.prog.bytesOf 33 := of_decide_eq_true (by kernel_rfl)
  have l0 := w_len Tryd.underlying22 hb hw0
  have lc : ∀ x ∈ calls, x.length ≤ reachBytes := fun x hx => by
    obtain ⟨i, hi⟩ := List.getElem?_of_mem hx
    obtain ⟨d', h6, _, h7⟩ := q5 i x hi
    rw [← h7]
    exact w_len Tryd.underlying22 hb (w_el Tryd.underlying23 hw1 (List.mem_of_getElem? h6))
  refine ⟨main, calls, ?_, m2, fun l hl => ?_, q3, fun h100 => ?_⟩
  · match cs, hcl with
    | [a, b], _ =>
      simp at e0 e1
      subst e0 e1
      simp only [AVRs, AVR]
      exact ⟨_, _, rfl, ⟨[a, b], rfl, _, _, rfl, m1, _, _, rfl, q2, rfl⟩, rfl⟩
  · obtain ⟨i, hi⟩ := List.getElem?_of_mem hl
    obtain ⟨_, _, h7, _⟩ := q5 i l hi
    exact h7
  · have := sum_le calls lc
    have h2 : calls.length * reachBytes ≤ 100 * reachBytes := Nat.mul_le_mul_right _ h100
    rw [m3] at l0
    have h3 : reachBytes = 140737488351232 - 4096 + 4096 := by decide
    rw [countM]
    omega
end
end Go.Proofs.YtpmeffdcbjakoaaDoor
