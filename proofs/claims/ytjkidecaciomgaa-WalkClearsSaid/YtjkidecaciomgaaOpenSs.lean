/- Arguments, opened: a path, a slice of api.Step. -/
import Derived.Test.YtjkidecaciomgaaOpen
import Derived.Test.YtjkidecaciomgaaSv2
import Derived.Test.YtjkidecaciomgaaBC
import Derived.Test.YtjkidecaciomgaaRows
import Derived.Deep.Slices
import Derived.Deep.Fields
import Derived.ChangeSame
namespace Go.Proofs.Ytjkidecaciomgaa
set_option linter.unusedVariables false
set_option linter.unusedSimpArgs false
set_option maxRecDepth 100000
open Go.RowKit Go.ChangeShapes Go.WideShapes Go.ChangeAt Go.Deep
section
variable {H : Type} {enc : TypeId × Value → H} {W : World} {spare : Nat → Bool} {held : Bool} {b0 base : Nat} {r : Reach}

theorem step_cells {P : Program} {e : TypeId} {fs : Array Field} {n : Nat} {cs : List Value} {x : DataW H × List MemPlace} (he : P.underlying e = some (.struct fs)) (hone : oneCellFields P fs = true) (hC : P.cellsOf e = 5)
    (hi : ∀ j, j < 3 → ∃ f, fs[j]? = some f ∧ P.underlying f.type = some (.int .i64)) (hb : ∀ j, j < 5 → 3 ≤ j → ∃ f, fs[j]? = some f ∧ P.underlying f.type = some .bool)
    (h : DataW.trod enc P W base spare held n e cs = some x) (hl : cs.length = 5) : ∃ s : St, ∀ j, j < 5 → cs[j]? = some (s.cell j) := by
  obtain ⟨ys, n', _, _, _, _, hf⟩ := DataW.trod_struct he h
  have cell : ∀ j f, j < 5 → fs[j]? = some f → ∃ c y, cs[j]? = some c ∧ DataW.trod enc P W base spare held n' f.type [c] = some y := fun j f hj5 hj => by
    obtain ⟨ho, hk⟩ := hone_of hone j f hj
    have h1 := hf j f hj
    rw [ho, hk] at h1
    have hone' : (cs.drop j).take 1 = [cs[j]'(by omega)] := by
      rw [List.drop_eq_getElem_cons (by omega)]
      rfl
    rw [hone'] at h1
    have hlen : j < ys.length := by
      have : j < fs.size := (Array.getElem?_eq_some_iff.1 hj).1
      omega
    exact ⟨_, ys[j], List.getElem?_eq_getElem (by omega), h1.trans (List.getElem?_eq_getElem hlen)⟩
  have int : ∀ j, j < 3 → ∃ n : Int, cs[j]? = some (.int .i64 n) := fun j hj => by
    obtain ⟨f, hf0, hu⟩ := hi j hj
    obtain ⟨c, y, hc, ht⟩ := cell j f (by omega) hf0
    obtain ⟨m, hm, _⟩ := DataW.trod_int hu ht
    simp only [List.cons.injEq, and_true] at hm
    exact ⟨m, by rw [hc, hm]⟩
  have bool : ∀ j, j < 5 → 3 ≤ j → ∃ b : Bool, cs[j]? = some (.bool b) := fun j hj h3 => by
    obtain ⟨f, hf0, hu⟩ := hb j hj h3
    obtain ⟨c, y, hc, ht⟩ := cell j f hj hf0
    obtain ⟨m, hm, _⟩ := DataW.trod_bool hu ht
    simp only [List.cons.injEq, and_true] at hm
    exact ⟨m, by rw [hc, hm]⟩
  obtain ⟨a0, h0⟩ := int 0 (by decide)
  obtain ⟨a1, h1⟩ := int 1 (by decide)
  obtain ⟨a2, h2⟩ := int 2 (by decide)
  obtain ⟨a3, h3⟩ := bool 3 (by decide) (by decide)
  obtain ⟨a4, h4⟩ := bool 4 (by decide) (by decide)
  refine ⟨⟨a0, a1, a2, a3, a4⟩, fun j hj => ?_⟩
  match j, hj with
  | 0, _ => exact h0
  | 1, _ => exact h1
  | 2, _ => exact h2
  | 3, _ => exact h3
  | 4, _ => exact h4

def ofFun (f : Nat → St) (k : Nat) : List St := (List.range k).map f
theorem open_path {v : Value} {d : DataW H} {ps : List MemPlace} (hv : Value.okWide Try.prog W r b0 68 v) (h : DataW.Trod enc Try.prog W base spare held 68 v d ps) :
    ∃ (A : Option Addr) (c : Nat) (xs : List St), v = .slice A xs.length c ∧ StAt W A xs ∧ xs.length ≤ c ∧ c ≤ maxLen := by
  obtain ⟨a, len, cap, rfl⟩ := okWide_slice Try.underlying68 hv
  obtain ⟨fuel, hf⟩ := h
  rcases open_slice Try.underlying68 hf with ⟨hcs, _⟩ | ⟨x, l, c, m, n, D, Pl, hcs, _, hl, hm, hmm, _, hi⟩
  · simp [Value.cells] at hcs
    obtain ⟨rfl, rfl, rfl⟩ := hcs
    exact ⟨none, 0, [], rfl, fun h => by simp at h, by simp, by unfold maxLen; omega⟩
  · simp [Value.cells] at hcs
    obtain ⟨rfl, rfl, rfl⟩ := hcs
    have hlm : len ≤ m := by rw [hmm]; split <;> omega
    have hC : Try.prog.cellsOf 94 = 5 := by kernel_rfl
    rw [hC] at hi
    obtain ⟨X, hX⟩ := choose_lt (α := St) (n := len) (p := fun i s => ∀ j, j < 5 → W.cell? (x.add (i * 5 + j)) = some (s.cell j)) (fun i hil => by
      obtain ⟨cs', h1, h2⟩ := hi i (by omega)
      obtain ⟨_, hcl, hat⟩ := World.cells?_some h1
      obtain ⟨s, hs⟩ := step_cells (P := Try.prog) Try.underlying94 (by kernel_rfl) hC (fun j hj => by
        match j, hj with
        | 0, _ => exact ⟨_, rfl, Try.underlying3⟩
        | 1, _ => exact ⟨_, rfl, Try.underlying3⟩
        | 2, _ => exact ⟨_, rfl, Try.underlying3⟩) (fun j hj h3 => by
        match j, hj, h3 with
        | 3, _, _ => exact ⟨_, rfl, Try.underlying4⟩
        | 4, _, _ => exact ⟨_, rfl, Try.underlying4⟩) h2 hcl
      refine ⟨s, fun j hj => ?_⟩
      rw [← add_of_add, hat j (by omega)]
      exact hs j hj)
    have hxl : (ofFun X len).length = len := by simp [ofFun]
    refine ⟨some x, cap, ofFun X len, by rw [hxl], fun hn => ?_, by rw [hxl]; exact hl, hm⟩
    have h0 := hX 0 (by omega) 0 (by decide)
    have hx : x = ⟨x.block, x.off, none⟩ := add_flat W x (by rw [show x.add (0 * 5 + 0) = x from rfl] at h0; rw [h0]; rfl)
    refine ⟨x.block, x.off, by rw [← hx], fun i j hi' hj => ?_⟩
    have := hX i (by omega) j hj
    rw [hx, flat_add] at this
    rw [show x.off + i * 5 + j = x.off + (i * 5 + j) by omega, this]
    show some ((X i).cell j) = some (St.cell ((ofFun X len).getD i default) j)
    rw [List.getD_eq_getElem?_getD, ofFun, List.getElem?_map, List.getElem?_range (by omega)]
    rfl
end
def stW (x : St) : List Value := [.int .i64 x.node, .int .i64 x.target, .int .i64 x.related, .bool x.cr, .bool x.cs]
theorem stW_cell (x : St) : ∀ j, j < 5 → (stL x)[j]? = some (.v (x.cell j))
  | 0, _ => rfl
  | 1, _ => rfl
  | 2, _ => rfl
  | 3, _ => rfl
  | 4, _ => rfl
  | n + 5, h => by omega
theorem st_list {W : World} {A : Option Addr} {c : Nat} {xs : List St} (h : StAt W A xs) (hc : xs.length ≤ c) : AVRs ι0 (fun k => k < W.heap.size) W [.sem (listS stE xs)] [.slice A xs.length c] := by
  refine ⟨_, _, rfl, ⟨A, c, rfl, hc, ?_⟩, rfl⟩
  by_cases h0 : xs.length = 0
  · rw [List.eq_nil_of_length_eq_zero h0]
    exact .inl rfl
  · obtain ⟨b, off, rfl, hcc⟩ := h (by omega)
    have hall : stE.all xs = (xs.flatMap stW).map .v := by
      rw [Enc.all, List.map_flatMap]
      rfl
    refine .inr ⟨b, off, rfl, World.block_lt_of_cell? W _ (hcc 0 0 (by omega) (by decide)), xs.flatMap stW, by rw [hall]; exact AVRs_v _, fun j u hj => ?_⟩
    have hlen : (xs.flatMap stW).length = xs.length * 5 := by
      have := congrArg List.length hall
      rw [List.length_map, stE.all_len] at this
      exact this.symm.trans rfl
    have hjl := (List.getElem?_eq_some_iff.1 hj).1
    have hi : j / 5 < xs.length := by omega
    have hr : j % 5 < 5 := by omega
    have hx : xs[j / 5]? = some xs[j / 5] := by simp [hi]
    have h3 := congrArg (fun z => z[j % 5]?) (stE.all_at hx)
    have e : stE.sz = 5 := rfl
    simp only [List.getElem?_take, List.getElem?_drop, e] at h3
    rw [if_pos hr, hall, List.getElem?_map, show j / 5 * 5 + j % 5 = j by omega, hj] at h3
    have h4 := h3.trans (stW_cell xs[j / 5] _ hr)
    simp only [Option.map_some, Option.some.injEq, AV.v.injEq] at h4
    have h5 := hcc (j / 5) (j % 5) hi hr
    dsimp only at h5
    rw [List.getD_eq_getElem?_getD, hx, show off + j / 5 * 5 + j % 5 = off + j by omega] at h5
    rw [Addr.add_lit, h5, h4]
    rfl
section
variable {H : Type} {enc : TypeId × Value → H} {W : World} {spare : Nat → Bool} {held : Bool} {b0 base : Nat} {r : Reach}
theorem open_steps {v : Value} {d : DataW H} {ps : List MemPlace} (hv : Value.okWide Try.prog W r b0 68 v) (h : DataW.Trod enc Try.prog W base spare held 68 v d ps) :
    ∃ (A : Option Addr) (c : Nat) (xs : List St), v = .slice A xs.length c ∧ AVRs ι0 (fun k => k < W.heap.size) W [.sem (listS stE xs)] [.slice A xs.length c] ∧ xs.length ≤ 9223372036854775807 := by
  obtain ⟨A, c, xs, rfl, h1, h2, h3⟩ := open_path hv h
  exact ⟨A, c, xs, rfl, st_list h1 h2, by unfold maxLen at h3; omega⟩
end
end Go.Proofs.Ytjkidecaciomgaa
