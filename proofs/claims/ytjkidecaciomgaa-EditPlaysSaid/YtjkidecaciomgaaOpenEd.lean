/- Arguments, opened: a slice of towncrierlaw07.Edit. -/
import Derived.Test.YtjkidecaciomgaaOpenAc
namespace Go.Proofs.Ytjkidecaciomgaa
set_option linter.unusedVariables false
set_option linter.unusedSimpArgs false
set_option maxRecDepth 100000
open Go.RowKit Go.ChangeShapes Go.WideShapes Go.ChangeAt Go.Deep

/-- A change of a forest. -/
structure Edt where
  kind : Int
  a : Int
  b : Int
  c : Int
def edE : Enc Edt where
  sz := 4
  f := fun x => [.v (.int .i64 x.kind), .v (.int .i64 x.a), .v (.int .i64 x.b), .v (.int .i64 x.c)]
  len := fun _ => rfl
  leaf := fun _ => rfl
section
variable {α H : Type} {enc : TypeId × Value → H} {W : World} {spare : Nat → Bool} {held : Bool} {b0 base : Nat} {r : Reach}
theorem all_flatG {E : Enc α} {S : Bl} {X : Nat → α × List Value} : ∀ n, (∀ i, i < n → AVRs ι0 S W (E.f (X i).1) (X i).2) → AVRs ι0 S W (E.all ((List.range n).map fun i => (X i).1)) ((List.range n).flatMap fun i => (X i).2)
  | 0, _ => rfl
  | n + 1, h => by
    rw [List.range_succ, List.map_append, E.all_append, List.flatMap_append]
    refine (all_flatG n fun i hi => h i (by omega)).append ?_
    have := h n (by omega)
    simpa [Enc.all] using this
theorem flat_getG {X : Nat → α × List Value} {z : Nat} {p : Nat → Value → Prop} : ∀ n, (∀ i, i < n → (X i).2.length = z ∧ ∀ j u, (X i).2[j]? = some u → p (i * z + j) u) → ((List.range n).flatMap fun i => (X i).2).length = n * z ∧ ∀ j u, ((List.range n).flatMap fun i => (X i).2)[j]? = some u → p j u
  | 0, _ => ⟨by simp, fun j u h => by simp at h⟩
  | n + 1, h => by
    obtain ⟨h1, h2⟩ := flat_getG n fun i hi => h i (by omega)
    obtain ⟨h3, h4⟩ := h n (by omega)
    rw [List.range_succ, List.flatMap_append]
    have hs : (List.flatMap (fun i => (X i).2) [n]) = (X n).2 := by simp
    rw [hs]
    refine ⟨by rw [List.length_append, h1, h3, Nat.add_mul]; omega, fun j u hj => ?_⟩
    rw [List.getElem?_append] at hj
    split at hj
    · exact h2 j u hj
    · rw [h1] at hj
      have := h4 _ u hj
      rename_i hge
      rw [h1] at hge
      rwa [show n * z + (j - n * z) = j by omega] at this
theorem edit_cells {n' : Nat} {cs : List Value} {y : DataW H × List MemPlace} (h : DataW.trod enc Try.prog W base spare held n' 80 cs = some y) (hl : cs.length = 4) : ∃ x : Edt, AVRs ι0 (old W) W (edE.f x) cs := by
  obtain ⟨ys, m, _, _, _, hlen, hf⟩ := DataW.trod_struct Try.underlying80 h
  obtain ⟨c0, y0, e0, t0⟩ := fld_get hf hlen (i := 0) (o := 0) rfl rfl (by kernel_rfl) (by omega)
  obtain ⟨v0, rfl⟩ := fld_int Try.underlying3 t0
  obtain ⟨c1, y1, e1, t1⟩ := fld_get hf hlen (i := 1) (o := 1) rfl rfl (by kernel_rfl) (by omega)
  obtain ⟨v1, rfl⟩ := fld_int Try.underlying3 t1
  obtain ⟨c2, y2, e2, t2⟩ := fld_get hf hlen (i := 2) (o := 2) rfl rfl (by kernel_rfl) (by omega)
  obtain ⟨v2, rfl⟩ := fld_int Try.underlying3 t2
  obtain ⟨c3, y3, e3, t3⟩ := fld_get hf hlen (i := 3) (o := 3) rfl rfl (by kernel_rfl) (by omega)
  obtain ⟨v3, rfl⟩ := fld_int Try.underlying3 t3
  match cs, hl with
  | [_, _, _, _], _ =>
    simp only [List.getElem?_cons_zero, List.getElem?_cons_succ, Option.some.injEq] at e0 e1 e2 e3
    subst e0 e1 e2 e3
    exact ⟨⟨v0, v1, v2, v3⟩, _, _, rfl, rfl, _, _, rfl, rfl, _, _, rfl, rfl, _, _, rfl, rfl, rfl⟩
instance : Inhabited Edt := ⟨⟨0, 0, 0, 0⟩⟩
theorem open_edits {v : Value} {d : DataW H} {ps : List MemPlace} (hv : Value.okWide Try.prog W r b0 78 v) (h : DataW.Trod enc Try.prog W base spare held 78 v d ps) :
    ∃ (A : Option Addr) (c : Nat) (xs : List Edt), v = .slice A xs.length c ∧ AVRs ι0 (old W) W [.sem (listS edE xs)] [.slice A xs.length c] := by
  obtain ⟨a, len, cap, rfl⟩ := okWide_slice Try.underlying78 hv
  obtain ⟨fuel, hf⟩ := h
  rcases open_slice Try.underlying78 hf with ⟨hcs, _⟩ | ⟨x, l, c, m, n, D, Pl, hcs, _, hl, hm, hmm, _, hi⟩
  · simp [Value.cells] at hcs
    obtain ⟨rfl, rfl, rfl⟩ := hcs
    exact ⟨none, 0, [], rfl, ⟨_, _, rfl, ⟨none, 0, rfl, by simp, .inl rfl⟩, rfl⟩⟩
  · simp [Value.cells] at hcs
    obtain ⟨rfl, rfl, rfl⟩ := hcs
    have hlm : len ≤ m := by rw [hmm]; split <;> omega
    have hC : Try.prog.cellsOf 80 = 4 := by kernel_rfl
    rw [hC] at hi
    obtain ⟨X, hX⟩ := choose_lt (α := Edt × List Value) (n := len) (p := fun i s => AVRs ι0 (old W) W (edE.f s.1) s.2 ∧ s.2.length = 4 ∧ ∀ j u, s.2[j]? = some u → W.cell? (x.add (i * 4 + j)) = some u) (fun i hil => by
      obtain ⟨cs', h1, h2⟩ := hi i (by omega)
      obtain ⟨_, hcl, hat⟩ := World.cells?_some h1
      obtain ⟨s, hs⟩ := edit_cells h2 hcl
      refine ⟨(s, cs'), hs, hcl, fun j u hj => ?_⟩
      have hjl : j < 4 := by
        have := (List.getElem?_eq_some_iff.1 hj).1
        simp only at this
        omega
      rw [← add_of_add, hat j hjl]
      exact hj)
    have hxl : ((List.range len).map fun i => (X i).1).length = len := by simp
    refine ⟨some x, cap, (List.range len).map fun i => (X i).1, by rw [hxl], ⟨_, _, rfl, ⟨some x, cap, rfl, by rw [hxl]; exact hl, ?_⟩, rfl⟩⟩
    by_cases h0 : len = 0
    · subst h0
      exact .inl rfl
    · obtain ⟨_, h14, hc⟩ := hX 0 (by omega)
      have hc0 : W.cell? x = some ((X 0).2[0]'(by omega)) := by
        have := hc 0 _ (List.getElem?_eq_getElem (by omega))
        exact this
      have hx : x = ⟨x.block, x.off, none⟩ := add_flat W x (by rw [hc0]; rfl)
      obtain ⟨_, hcells⟩ := flat_getG (X := X) (z := 4) (p := fun j u => W.cell? (x.add j) = some u) len fun i hi' => (hX i hi').2
      refine .inr ⟨x.block, x.off, by rw [← hx], ?_, _, all_flatG len fun i hi' => (hX i hi').1, fun j u hj => ?_⟩
      · exact World.block_lt_of_cell? W _ hc0
      · rw [← hx]
        exact hcells j u hj
end
end Go.Proofs.Ytjkidecaciomgaa
