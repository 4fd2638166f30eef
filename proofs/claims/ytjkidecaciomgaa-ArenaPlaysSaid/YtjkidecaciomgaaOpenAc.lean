/- Arguments, opened: calls on a forest, a slice of towncrierref04.Act. -/
import Derived.Test.YtjkidecaciomgaaKinPl
import Derived.Test.YtjkidecaciomgaaOpen
import Derived.Test.YtjkidecaciomgaaRows
import Derived.Deep.Slices
import Derived.Deep.Fields
import Derived.ChangeSame
namespace Go.Proofs.Ytjkidecaciomgaa
set_option linter.unusedVariables false
set_option linter.unusedSimpArgs false
set_option maxRecDepth 100000
open Go.RowKit Go.ChangeShapes Go.WideShapes Go.ChangeAt Go.Deep
section
variable {H : Type} {enc : TypeId × Value → H} {W : World} {spare : Nat → Bool} {held : Bool} {b0 base : Nat} {r : Reach}

/-- A field of one cell. -/
theorem fld_one {P : Program} {n' : Nat} {t : TypeId} {cs : List Value} {o : Nat} {y : DataW H × List MemPlace} (h : DataW.trod enc P W base spare held n' t ((cs.drop o).take 1) = some y) (ho : o < cs.length) : ∃ c, cs[o]? = some c ∧ DataW.trod enc P W base spare held n' t [c] = some y := by
  refine ⟨cs[o], List.getElem?_eq_getElem ho, ?_⟩
  have : (cs.drop o).take 1 = [cs[o]] := by rw [List.drop_eq_getElem_cons ho]; rfl
  rwa [this] at h
theorem fld_int {P : Program} {n' : Nat} {t : TypeId} {c : Value} {y : DataW H × List MemPlace} (hu : P.underlying t = some (.int .i64)) (h : DataW.trod enc P W base spare held n' t [c] = some y) : ∃ n : Int, c = .int .i64 n := by
  obtain ⟨m, hm, _⟩ := DataW.trod_int hu h
  simp only [List.cons.injEq, and_true] at hm
  exact ⟨m, hm⟩
theorem fld_bool {P : Program} {n' : Nat} {t : TypeId} {c : Value} {y : DataW H × List MemPlace} (hu : P.underlying t = some .bool) (h : DataW.trod enc P W base spare held n' t [c] = some y) : ∃ n : Bool, c = .bool n := by
  obtain ⟨m, hm, _⟩ := DataW.trod_bool hu h
  simp only [List.cons.injEq, and_true] at hm
  exact ⟨m, hm⟩
theorem fld_str {P : Program} {n' : Nat} {t : TypeId} {c : Value} {y : DataW H × List MemPlace} (hu : P.underlying t = some .string) (h : DataW.trod enc P W base spare held n' t [c] = some y) : ∃ s : ByteArray, c = .string s ∧ s.size ≤ 9223372036854775807 := by
  obtain ⟨m, hm, _, hl⟩ := DataW.trod_string hu h
  simp only [List.cons.injEq, and_true] at hm
  exact ⟨m, hm, hl⟩
abbrev old (W : World) : Bl := fun k => k < W.heap.size
theorem fld_ints {P : Program} {n' : Nat} {t e : TypeId} {c : Value} {y : DataW H × List MemPlace} (hu : P.underlying t = some (.slice e)) (he : P.underlying e = some (.int .i64)) (hc : P.cellsOf e = 1) (h : DataW.trod enc P W base spare held n' t [c] = some y) : ∃ zs : List Int, (listS intE zs).R W (old W) c := by
  rcases open_ints hu he hc h with ⟨hcs, _⟩ | ⟨x, len, cap, zs, hcs, _, hl, hm, hz, _, hcell, _⟩
  · simp only [List.cons.injEq, and_true] at hcs
    subst hcs
    exact ⟨[], none, 0, rfl, by simp, .inl rfl⟩
  · simp only [List.cons.injEq, and_true] at hcs
    subst hcs
    have hlz : len ≤ zs.length := by rw [hz]; split <;> omega
    have htl : (zs.take len).length = len := by rw [List.length_take]; omega
    refine ⟨zs.take len, some x, cap, by rw [htl], by rw [htl]; exact hl, ?_⟩
    by_cases h0 : len = 0
    · subst h0
      exact .inl rfl
    · have hc0 := hcell 0 (by omega)
      have hx : x = ⟨x.block, x.off, none⟩ := add_flat W x (by rw [show x.add 0 = x from rfl] at hc0; rw [hc0]; rfl)
      have hall : ∀ zs : List Int, AVRs ι0 (old W) W (intE.all zs) (zs.map fun n => .int .i64 n) := by
        intro zs
        induction zs with
        | nil => rfl
        | cons z zs ih => exact ⟨_, _, rfl, by simp [AVR], ih⟩
      refine .inr ⟨x.block, x.off, by rw [← hx], ?_, _, hall _, fun j u hj => ?_⟩
      · have := World.block_lt_of_cell? W _ hc0
        rw [hx, block_of_add] at this
        exact this
      · rw [List.getElem?_map, List.getElem?_take] at hj
        split at hj
        · rename_i hlt
          have := hcell j (by omega)
          rw [← hx, this]
          rw [List.getD_eq_getElem?_getD]
          rw [List.getElem?_eq_getElem (by omega)] at hj ⊢
          simpa using hj
        · cases hj
theorem fld_get {n : Nat} {fs : Array Field} {cs : List Value} {ys : List (DataW H × List MemPlace)} {P : Program} (hf : ∀ (i : Nat) (f : Field), fs[i]? = some f → DataW.trod enc P W base spare held n f.type ((cs.drop f.offset).take (P.cellsOf f.type)) = ys[i]?) (hlen : ys.length = fs.size) {i o : Nat} {f : Field} (hi : fs[i]? = some f) (ho : f.offset = o) (hc : P.cellsOf f.type = 1) (hl : o < cs.length) : ∃ c y, cs[o]? = some c ∧ DataW.trod enc P W base spare held n f.type [c] = some y := by
  have h1 := hf i f hi
  have hlt : i < ys.length := by rw [hlen]; exact (Array.getElem?_eq_some_iff.1 hi).1
  rw [hc, ho, List.getElem?_eq_getElem hlt] at h1
  obtain ⟨c, h2, h3⟩ := fld_one h1 hl
  exact ⟨c, _, h2, h3⟩
theorem node_cells {n' : Nat} {cs : List Value} {y : DataW H × List MemPlace} (h : DataW.trod enc Try.prog W base spare held n' 33 cs = some y) (hl : cs.length = 9) : ∃ x : Nd, AVRs ι0 (old W) W (nodeL x) cs ∧ x.name.size ≤ 9223372036854775807 ∧ x.want.size ≤ 9223372036854775807 := by
  obtain ⟨ys, m, _, _, _, hlen, hf⟩ := DataW.trod_struct Try.underlying33 h
  obtain ⟨c0, y0, e0, t0⟩ := fld_get hf hlen (i := 0) (o := 0) rfl rfl (by kernel_rfl) (by omega)
  obtain ⟨v0, rfl⟩ := fld_int Try.underlying3 t0
  obtain ⟨c1, y1, e1, t1⟩ := fld_get hf hlen (i := 1) (o := 1) rfl rfl (by kernel_rfl) (by omega)
  obtain ⟨v1, rfl⟩ := fld_int Try.underlying3 t1
  obtain ⟨c2, y2, e2, t2⟩ := fld_get hf hlen (i := 2) (o := 2) rfl rfl (by kernel_rfl) (by omega)
  obtain ⟨v2, rfl⟩ := fld_int Try.underlying3 t2
  obtain ⟨c3, y3, e3, t3⟩ := fld_get hf hlen (i := 3) (o := 3) rfl rfl (by kernel_rfl) (by omega)
  obtain ⟨v3, rfl⟩ := fld_int Try.underlying3 t3
  obtain ⟨c4, y4, e4, t4⟩ := fld_get hf hlen (i := 4) (o := 4) rfl rfl (by kernel_rfl) (by omega)
  obtain ⟨v4, rfl⟩ := fld_int Try.underlying3 t4
  obtain ⟨c5, y5, e5, t5⟩ := fld_get hf hlen (i := 5) (o := 5) rfl rfl (by kernel_rfl) (by omega)
  obtain ⟨v5, rfl⟩ := fld_bool Try.underlying4 t5
  obtain ⟨c6, y6, e6, t6⟩ := fld_get hf hlen (i := 6) (o := 6) rfl rfl (by kernel_rfl) (by omega)
  obtain ⟨v6, rfl, w6⟩ := fld_str Try.underlying9 t6
  obtain ⟨c7, y7, e7, t7⟩ := fld_get hf hlen (i := 7) (o := 7) rfl rfl (by kernel_rfl) (by omega)
  obtain ⟨v7, rfl, w7⟩ := fld_str Try.underlying9 t7
  obtain ⟨c8, y8, e8, t8⟩ := fld_get hf hlen (i := 8) (o := 8) rfl rfl (by kernel_rfl) (by omega)
  obtain ⟨v8, w8⟩ := fld_ints Try.underlying31 Try.underlying3 (by kernel_rfl) t8
  match cs, hl with
  | [_, _, _, _, _, _, _, _, _], _ =>
    simp only [List.getElem?_cons_zero, List.getElem?_cons_succ, Option.some.injEq] at e0 e1 e2 e3 e4 e5 e6 e7 e8
    subst e0 e1 e2 e3 e4 e5 e6 e7 e8
    refine ⟨⟨v0, v1, v2, v3, v4, v5, v6, v7, v8⟩, ?_, w6, w7⟩
    exact ⟨_, _, rfl, rfl, _, _, rfl, rfl, _, _, rfl, rfl, _, _, rfl, rfl, _, _, rfl, rfl, _, _, rfl, rfl, _, _, rfl, rfl, _, _, rfl, rfl, _, _, rfl, (by simpa [AVR] using w8), rfl⟩
theorem act_cells {n' : Nat} {cs : List Value} {y : DataW H × List MemPlace} (h : DataW.trod enc Try.prog W base spare held n' 35 cs = some y) (hl : cs.length = 14) : ∃ x : Ac, AVRs ι0 (old W) W (acE.f x) cs ∧ AcStr x := by
  obtain ⟨ys, m, _, _, _, hlen, hf⟩ := DataW.trod_struct Try.underlying35 h
  obtain ⟨c0, y0, e0, t0⟩ := fld_get hf hlen (i := 0) (o := 0) rfl rfl (by kernel_rfl) (by omega)
  obtain ⟨v0, rfl⟩ := fld_int Try.underlying3 t0
  obtain ⟨c1, y1, e1, t1⟩ := fld_get hf hlen (i := 1) (o := 1) rfl rfl (by kernel_rfl) (by omega)
  obtain ⟨v1, rfl⟩ := fld_int Try.underlying3 t1
  obtain ⟨c2, y2, e2, t2⟩ := fld_get hf hlen (i := 2) (o := 2) rfl rfl (by kernel_rfl) (by omega)
  obtain ⟨v2, rfl⟩ := fld_int Try.underlying3 t2
  obtain ⟨c3, y3, e3, t3⟩ := fld_get hf hlen (i := 3) (o := 3) rfl rfl (by kernel_rfl) (by omega)
  obtain ⟨v3, rfl, w3⟩ := fld_str Try.underlying9 t3
  have hlen' : ys.length = 6 := hlen
  have e9 : Try.prog.cellsOf 33 = 9 := by kernel_rfl
  have h4 : DataW.trod enc Try.prog W base spare held m 33 ((cs.drop 4).take (Try.prog.cellsOf 33)) = ys[4]? := hf 4 _ rfl
  rw [e9, List.getElem?_eq_getElem (by omega)] at h4
  obtain ⟨xn, hn, wn, ww⟩ := node_cells h4 (by rw [List.length_take, List.length_drop]; omega)
  obtain ⟨c5, y5, e5, t5⟩ := fld_get hf hlen (i := 5) (o := 13) rfl rfl (by kernel_rfl) (by omega)
  obtain ⟨v5, w5⟩ := fld_ints Try.underlying31 Try.underlying3 (by kernel_rfl) t5
  match cs, hl with
  | [_, _, _, _, _, _, _, _, _, _, _, _, _, _], _ =>
    simp only [List.getElem?_cons_zero, List.getElem?_cons_succ, Option.some.injEq] at e0 e1 e2 e3 e5
    subst e0 e1 e2 e3 e5
    refine ⟨⟨v0, v1, v2, v3, xn, v5⟩, ?_, ⟨w3, wn, ww⟩⟩
    refine ⟨_, _, rfl, rfl, _, _, rfl, rfl, _, _, rfl, rfl, _, _, rfl, rfl, ?_⟩
    exact AVRs.append (l' := [.sem (listS intE v5)]) hn ⟨_, _, rfl, by simpa [AVR] using w5, rfl⟩
theorem all_flat {E : Enc Ac} {S : Bl} {X : Nat → Ac × List Value} : ∀ n, (∀ i, i < n → AVRs ι0 S W (E.f (X i).1) (X i).2) → AVRs ι0 S W (E.all ((List.range n).map fun i => (X i).1)) ((List.range n).flatMap fun i => (X i).2)
  | 0, _ => rfl
  | n + 1, h => by
    rw [List.range_succ, List.map_append, E.all_append, List.flatMap_append]
    refine (all_flat n fun i hi => h i (by omega)).append ?_
    have := h n (by omega)
    simpa [Enc.all] using this
theorem flat_get {X : Nat → Ac × List Value} {z : Nat} {p : Nat → Value → Prop} : ∀ n, (∀ i, i < n → (X i).2.length = z ∧ ∀ j u, (X i).2[j]? = some u → p (i * z + j) u) → ((List.range n).flatMap fun i => (X i).2).length = n * z ∧ ∀ j u, ((List.range n).flatMap fun i => (X i).2)[j]? = some u → p j u
  | 0, _ => ⟨by simp, fun j u h => by simp at h⟩
  | n + 1, h => by
    obtain ⟨h1, h2⟩ := flat_get n fun i hi => h i (by omega)
    obtain ⟨h3, h4⟩ := h n (by omega)
    rw [List.range_succ, List.flatMap_append]
    have hs : (List.flatMap (fun i => (X i).2) [n]) = (X n).2 := by simp
    rw [hs]
    refine ⟨by rw [List.length_append, h1, h3, Nat.add_mul]; omega, fun j u hj => ?_⟩
    rw [List.getElem?_append] at hj
    split at hj
    · exact h2 j u hj
    · rw [h1] at hj
      have := h4 _ u hj
      rename_i hge
      rw [h1] at hge
      rwa [show n * z + (j - n * z) = j by omega] at this
instance : Inhabited Ac := ⟨⟨0, 0, 0, ⟨#[]⟩, nd0, []⟩⟩
theorem open_acts {v : Value} {d : DataW H} {ps : List MemPlace} (hv : Value.okWide Try.prog W r b0 22 v) (h : DataW.Trod enc Try.prog W base spare held 22 v d ps) :
    ∃ (A : Option Addr) (c : Nat) (xs : List Ac), v = .slice A xs.length c ∧ AVRs ι0 (old W) W [.sem (listS acE xs)] [.slice A xs.length c] ∧ (∀ x ∈ xs, AcStr x) ∧ xs.length ≤ 9223372036854775807 := by
  obtain ⟨a, len, cap, rfl⟩ := okWide_slice Try.underlying22 hv
  obtain ⟨fuel, hf⟩ := h
  rcases open_slice Try.underlying22 hf with ⟨hcs, _⟩ | ⟨x, l, c, m, n, D, Pl, hcs, _, hl, hm, hmm, _, hi⟩
  · simp [Value.cells] at hcs
    obtain ⟨rfl, rfl, rfl⟩ := hcs
    exact ⟨none, 0, [], rfl, ⟨_, _, rfl, ⟨none, 0, rfl, by simp, .inl rfl⟩, rfl⟩, fun x hx => by simp at hx, by simp⟩
  · simp [Value.cells] at hcs
    obtain ⟨rfl, rfl, rfl⟩ := hcs
    have hlm : len ≤ m := by rw [hmm]; split <;> omega
    have hC : Try.prog.cellsOf 35 = 14 := by kernel_rfl
    rw [hC] at hi
    obtain ⟨X, hX⟩ := choose_lt (α := Ac × List Value) (n := len) (p := fun i s => (AVRs ι0 (old W) W (acE.f s.1) s.2 ∧ AcStr s.1) ∧ s.2.length = 14 ∧ ∀ j u, s.2[j]? = some u → W.cell? (x.add (i * 14 + j)) = some u) (fun i hil => by
      obtain ⟨cs', h1, h2⟩ := hi i (by omega)
      obtain ⟨_, hcl, hat⟩ := World.cells?_some h1
      obtain ⟨s, hs, hst⟩ := act_cells h2 hcl
      refine ⟨(s, cs'), ⟨hs, hst⟩, hcl, fun j u hj => ?_⟩
      have hjl : j < 14 := by
        have := (List.getElem?_eq_some_iff.1 hj).1
        simp only at this
        omega
      rw [← add_of_add, hat j hjl]
      exact hj)
    have hxl : ((List.range len).map fun i => (X i).1).length = len := by simp
    refine ⟨some x, cap, (List.range len).map fun i => (X i).1, by rw [hxl], ⟨_, _, rfl, ⟨some x, cap, rfl, by rw [hxl]; exact hl, ?_⟩, rfl⟩, fun y hy => ?_, ?_⟩
    · by_cases h0 : len = 0
      · subst h0
        exact .inl rfl
      · obtain ⟨_, h14, hc⟩ := hX 0 (by omega)
        have hc0 : W.cell? x = some ((X 0).2[0]'(by omega)) := by
          have := hc 0 _ (List.getElem?_eq_getElem (by omega))
          exact this
        have hx : x = ⟨x.block, x.off, none⟩ := add_flat W x (by rw [hc0]; rfl)
        obtain ⟨_, hcells⟩ := flat_get (X := X) (z := 14) (p := fun j u => W.cell? (x.add j) = some u) len fun i hi' => (hX i hi').2
        refine .inr ⟨x.block, x.off, by rw [← hx], ?_, _, all_flat len fun i hi' => (hX i hi').1.1, fun j u hj => ?_⟩
        · exact World.block_lt_of_cell? W _ hc0
        · rw [← hx]
          exact hcells j u hj
    · obtain ⟨i, hi', rfl⟩ := List.mem_map.1 hy
      exact (hX i (List.mem_range.1 hi')).1.2
    · rw [hxl]
      have : maxLen = 9223372036854775807 := rfl
      omega
end
end Go.Proofs.Ytjkidecaciomgaa
