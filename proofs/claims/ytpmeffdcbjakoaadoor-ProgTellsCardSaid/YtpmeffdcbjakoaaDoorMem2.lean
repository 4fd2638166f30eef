/- More words for memory. -/
import Derived.Test.YtpmeffdcbjakoaaDoorMem
namespace Go.Proofs.YtpmeffdcbjakoaaDoor
set_option linter.unusedVariables false
set_option linter.unusedSimpArgs false
open Go.RowKit
theorem But.of_drew {S : Nat → Prop} {w w' : World} (h : But S w.drew w') : But S w w' := ⟨h.os, h.tape, h.output, h.size, h.block⟩
theorem But.of_drewN {S : Nat → Prop} {w w' : World} {n : Nat} (h : But S (w.drewN n) w') : But S w w' := ⟨h.os, h.tape, h.output, h.size, h.block⟩
theorem But.cell {S : Nat → Prop} {w w' : World} (h : But S w w') {p : Addr} (hp : p.block < w.heap.size) (hn : ¬ S p.block) : w'.cell? p = w.cell? p := World.cell?_of_block (w := w) (h.block p.block hp hn)
theorem But.frozen {S : Nat → Prop} {w w' : World} (h : But S w w') {p : Addr} (hp : p.block < w.heap.size) (hn : ¬ S p.block) : w'.frozen? p = w.frozen? p := World.frozen?_of_block (w := w) (h.block p.block hp hn)
theorem below_drewN {B : Nat} {a w : World} (h : Below B a w) (n : Nat) : Below B a (w.drewN n) := h.trans ⟨rfl, rfl, rfl, Nat.le_refl _, fun _ _ => rfl⟩
theorem below_of_drewN {B : Nat} {a w : World} {n : Nat} (h : Below B (a.drewN n) w) : Below B a w := ⟨h.os, h.tape, h.output, h.size, h.block⟩
theorem below_of_drew {B : Nat} {a w : World} (h : Below B a.drew w) : Below B a w := ⟨h.os, h.tape, h.output, h.size, h.block⟩
theorem below_drawn (B : Nat) (w : World) (n : Nat) : Below B w (w.drewN n) := ⟨rfl, rfl, rfl, Nat.le_refl _, fun _ _ => rfl⟩
end Go.Proofs.YtpmeffdcbjakoaaDoor
