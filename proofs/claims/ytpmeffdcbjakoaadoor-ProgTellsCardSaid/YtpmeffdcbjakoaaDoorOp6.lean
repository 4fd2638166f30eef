/- The tables, out of the row's condition; ProgParts as a walk. -/
import Derived.Test.YtpmeffdcbjakoaaDoorOp5
import Derived.LaidMore
import Derived.OpenShut
namespace Go.Proofs.YtpmeffdcbjakoaaDoor
set_option linter.unusedVariables false
set_option linter.unusedSimpArgs false
set_option maxRecDepth 100000
open Go.RowKit Go.ChangeShapes Go.WideShapes Go.ChangeAt Go.Deep

abbrev laidL : List (String × DataW Unit) := [("towncrier/op.numbers", Rows.laid_towncrier_op_numbers), ("towncrier/op.worded", Rows.laid_towncrier_op_worded)]
theorem gNum : Tryd.prog.globalNamed "towncrier/op.numbers" = some 1 := by kernel_rfl
theorem gWor : Tryd.prog.globalNamed "towncrier/op.worded" = some 0 := by kernel_rfl
theorem tNum : (Tryd.prog.globals[1]?).map (·.type) = some 56 := by kernel_rfl
theorem tWor : (Tryd.prog.globals[0]?).map (·.type) = some 55 := by kernel_rfl
section
variable {H : Type} {enc : TypeId × Value → H} {W : World} {spare : Nat → Bool} {held : Bool} {base : Nat}
theorem arr_at {t e : TypeId} {n fuel : Nat} {cs : List Value} {x : DataW H × List MemPlace} (hu : Tryd.prog.underlying t = some (.array n e)) (hc : Tryd.prog.cellsOf e = 1) (ht : Tryd.prog.cellsOf t = n) (h : DataW.trod enc Tryd.prog W base spare held fuel t cs = some x) :
    ∃ (ds : List (DataW H)) (m : Nat), x.1 = .agg ds ∧ ∀ (j : Nat) (d : DataW H), ds[j]? = some d → ∃ (c : Value) (ps : List MemPlace), cs[j]? = some c ∧ DataW.trod enc Tryd.prog W base spare held m e [c] = some (d, ps) := by
  obtain ⟨xs, m, _, rfl, hcl, hn, hel⟩ := DataW.trod_array hu h
  refine ⟨xs.map (·.1), m, rfl, fun j d hj => ?_⟩
  rw [List.getElem?_map] at hj
  cases hx : xs[j]? with
  | none => rw [hx] at hj; cases hj
  | some y =>
    rw [hx] at hj
    have hjl : j < n := by have := (List.getElem?_eq_some_iff.1 hx).1; omega
    have h2 := hel j hjl
    rw [hc, Nat.mul_one, hx] at h2
    obtain ⟨c, h3, h4⟩ := fld_one h2 (by rw [hcl, ht]; exact hjl)
    refine ⟨c, y.2, h3, ?_⟩
    rw [h4]
    simp at hj
    rw [← hj]
end
theorem laid_nums : (Rows.laid_towncrier_op_numbers : DataW Unit) = .agg (numT.map fun z => .lit (.int .i64 z)) := rfl
theorem laid_wors : (Rows.laid_towncrier_op_worded : DataW Unit) = .agg (worT.map fun z => .lit (.bool z)) := rfl
theorem laid_of {W : World} (h : laidMetH Tryd.prog laidL W) : Laid (old W) W := by
  rw [MakeChecks.laidMetH_plain _ _ _ (by kernel_rfl)] at h
  obtain ⟨ps, ⟨g0, t0, cs0, f0, p0, q0, hg0, ht0, hv0, hd0, ⟨g1, t1, cs1, f1, p1, q1, hg1, ht1, hv1, hd1, _, _⟩, _⟩, _, _⟩ := h
  obtain rfl := Option.some.inj (gNum.symm.trans hg0)
  obtain rfl := Option.some.inj (gWor.symm.trans hg1)
  obtain rfl := Option.some.inj (tNum.symm.trans ht0)
  obtain rfl := Option.some.inj (tWor.symm.trans ht1)
  obtain ⟨ds0, m0, e0, k0⟩ := arr_at Tryd.underlying56 (by kernel_rfl) (by kernel_rfl) hd0
  obtain ⟨ds1, m1, e1, k1⟩ := arr_at Tryd.underlying55 (by kernel_rfl) (by kernel_rfl) hd1
  rw [laid_nums] at e0
  rw [laid_wors] at e1
  obtain rfl := DataW.agg.inj e0
  obtain rfl := DataW.agg.inj e1
  have c0 : ∀ j v, numT[j]? = some v → W.cell? ⟨1, j, none⟩ = some (.int .i64 v) := fun j v hj => by
    obtain ⟨c, ps, h1, h2⟩ := k0 j (.lit (.int .i64 v)) (by rw [List.getElem?_map, hj]; rfl)
    obtain ⟨k, e3, e4, _⟩ := DataW.trod_int Tryd.underlying3 h2
    simp only [List.cons.injEq, and_true] at e3
    subst e3
    have e5 : k = v := by
      have := congrArg Prod.fst e4
      simpa using this.symm
    subst e5
    rw [World.var?_cell hg0 hv0 j]
    simpa using h1
  have c1 : ∀ j v, worT[j]? = some v → W.cell? ⟨0, j, none⟩ = some (.bool v) := fun j v hj => by
    obtain ⟨c, ps, h1, h2⟩ := k1 j (.lit (.bool v)) (by rw [List.getElem?_map, hj]; rfl)
    obtain ⟨k, e3, e4⟩ := DataW.trod_bool Tryd.underlying4 h2
    simp only [List.cons.injEq, and_true] at e3
    subst e3
    have e5 : k = v := by
      have := congrArg Prod.fst e4
      simpa using this.symm
    subst e5
    rw [World.var?_cell hg1 hv1 j]
    simpa using h1
  exact ⟨⟨World.block_lt_of_cell? W _ (c0 0 0 rfl), c0⟩, World.block_lt_of_cell? W _ (c1 0 false rfl), c1⟩
theorem progParts_walk (v : Value) (main : List OpD) (calls : List (List OpD)) (W : World) (hv : AVRs ι0 (old W) W [progA main calls] [v]) (hm : OpsOk main) (hcs : ∀ l ∈ calls, OpsOk l) (hl : calls.length ≤ 9223372036854775807) (hc : calls.length ≤ 100 → countM main calls ≤ 9223372036854775807) : Calls Tryd.prog 3 #[v] W fun e w' => e = .returned (.bool true) ∧ Below W.heap.size W w' :=
  Fun.calls (vals := [v]) (progParts_f hc hl hm hcs) hv
end Go.Proofs.YtpmeffdcbjakoaaDoor
