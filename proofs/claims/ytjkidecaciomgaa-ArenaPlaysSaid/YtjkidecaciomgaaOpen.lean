/- Arguments, opened: integers in a slice; three bools. -/
import Derived.Test.YtjkidecaciomgaaBA
import Derived.ProofKit
import Derived.OpenShut
import Derived.WalkKit
import Derived.ChangeSlices
namespace Go.Proofs.Ytjkidecaciomgaa
set_option linter.unusedVariables false
set_option linter.unusedSimpArgs false
open Go.RowKit Go.ChangeShapes Go.WideShapes Go.ChangeAt
section
variable {H : Type} {enc : TypeId × Value → H} {P : Program} {W : World} {spare : Nat → Bool} {held : Bool} {b0 base : Nat} {r : Reach}

theorem add_flat (w : World) (a : Addr) (h : (w.cell? a).isSome = true) : a = ⟨a.block, a.off, none⟩ := by
  obtain ⟨b, o, s⟩ := a
  cases s with
  | none => rfl
  | some q => simp [World.cell?] at h; split at h <;> simp_all
theorem flat_add (b o i : Nat) : (⟨b, o, none⟩ : Addr).add i = ⟨b, o + i, none⟩ := by
  unfold Addr.add
  split
  · next h => subst h; rfl
  · rfl

/-- A slice of integers that came in. -/
theorem open_int_slice {t e : TypeId} {k : IntKind} {v : Value} {d : DataW H} {ps : List MemPlace} (hu : P.underlying t = some (.slice e)) (he : P.underlying e = some (.int k)) (hc : P.cellsOf e = 1)
    (hv : Value.okWide P W r b0 t v) (h : DataW.Trod enc P W base spare held t v d ps) :
    ∃ (A : Option Addr) (c : Nat) (zs : List Int), v = .slice A zs.length c ∧ IntsAt k W A zs ∧ zs.length ≤ maxLen ∧ ∀ n ∈ zs, (Lit.int k n).wf = true := by
  obtain ⟨a, len, cap, rfl⟩ := okWide_slice hu hv
  obtain ⟨fuel, hf⟩ := h
  rcases open_ints hu he hc hf with ⟨hcs, _⟩ | ⟨x, l, c, zs, hcs, _, hl, hm, hz, _, hcell, hwz⟩
  · simp [Value.cells] at hcs
    obtain ⟨rfl, rfl, rfl⟩ := hcs
    exact ⟨none, 0, [], rfl, IntsAt.nil _ _ _, Nat.zero_le _, fun n hn => by simp at hn⟩
  · simp [Value.cells] at hcs
    obtain ⟨rfl, rfl, rfl⟩ := hcs
    have hlz : len ≤ zs.length := by rw [hz]; split <;> omega
    have htl : (zs.take len).length = len := by rw [List.length_take]; omega
    refine ⟨some x, cap, zs.take len, by rw [htl], fun hn => ?_, by rw [htl]; omega, fun n hn => hwz n (List.mem_of_mem_take hn)⟩
    have h0 := hcell 0 (by omega)
    have hx : x = ⟨x.block, x.off, none⟩ := add_flat W x (by rw [show x.add 0 = x from rfl] at h0; rw [h0]; rfl)
    refine ⟨x.block, x.off, by rw [← hx], fun i hi => ?_⟩
    have := hcell i (by omega)
    rw [hx, flat_add] at this
    rw [this, List.getD_eq_getElem?_getD, List.getD_eq_getElem?_getD, List.getElem?_take, if_pos (by omega)]

theorem okWide_array {n : Nat} {t e : TypeId} {v : Value} (hu : P.underlying t = some (.array n e)) (h : Value.okWide P W r b0 t v) : ∃ cs, v = .agg cs ∧ cs.size = P.cellsOf t := by
  simp only [Value.okWide, hu] at h
  obtain ⟨cs, h1, h2, _⟩ := h
  exact ⟨cs, h1, h2⟩

/-- Three bools by value. -/
theorem open_bool3 {t e : TypeId} {v : Value} {d : DataW H} {ps : List MemPlace} (hu : P.underlying t = some (.array 3 e)) (he : P.underlying e = some .bool) (hc : P.cellsOf e = 1) (ht : P.cellsOf t = 3)
    (hv : Value.okWide P W r b0 t v) (h : DataW.Trod enc P W base spare held t v d ps) : ∃ a b c : Bool, v = .agg #[.bool a, .bool b, .bool c] := by
  obtain ⟨cs, rfl, hsz⟩ := okWide_array hu hv
  obtain ⟨l⟩ := cs
  match l, hsz.trans ht with
  | [c0, c1, c2], _ =>
    obtain ⟨fuel, hf⟩ := h
    obtain ⟨xs, m, _, _, _, hxl, hall⟩ := DataW.trod_array hu hf
    rw [hc] at hall
    have get : ∀ (i : Nat) (c : Value), i < 3 → (((Value.agg ⟨[c0, c1, c2]⟩).cells.toList.drop (i * 1)).take 1) = [c] → ∃ b, c = .bool b := fun i c hi hx => by
      have := hall i hi
      rw [hx] at this
      rw [List.getElem?_eq_getElem (by omega)] at this
      obtain ⟨b, hb, _⟩ := DataW.trod_bool he this
      exact ⟨b, by simpa using hb⟩
    obtain ⟨a, rfl⟩ := get 0 c0 (by omega) (by simp [Value.cells])
    obtain ⟨b, rfl⟩ := get 1 c1 (by omega) (by simp [Value.cells])
    obtain ⟨c, rfl⟩ := get 2 c2 (by omega) (by simp [Value.cells])
    exact ⟨a, b, c, rfl⟩
end
end Go.Proofs.Ytjkidecaciomgaa
