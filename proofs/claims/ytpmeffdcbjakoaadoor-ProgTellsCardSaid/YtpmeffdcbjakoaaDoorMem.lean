/- Words for memory, over any program: a block that is known whole, a slice that reads as a list, what a call may change (the kit's own small words, with a frame of this session's). -/
import Derived.Below
import Derived.Laws.OwnMore
import Derived.Deep.Draws
import Derived.Laws.Rows
import Derived.Deep.AppendLies
import Derived.Laws.NewBlocks
import Derived.Laws.StructEq
namespace Go.Proofs.YtpmeffdcbjakoaaDoor
set_option linter.unusedVariables false
set_option linter.unusedSimpArgs false
open Go.RowKit

theorem ret_int {k : IntKind} {a b : Int} (h : a = b) : Ending.returned (.int k a) = .returned (.int k b) := by rw [h]
theorem ret_bool {a b : Bool} (h : a = b) : Ending.returned (.bool a) = .returned (.bool b) := by rw [h]

theorem block_of_add (a : Addr) (n : Nat) : (a.add n).block = a.block := by unfold Addr.add; split <;> rfl
theorem add_of_add (a : Addr) (i j : Nat) : (a.add i).add j = a.add (i + j) := by
  unfold Addr.add
  by_cases hi : i = 0 <;> by_cases hj : j = 0 <;> simp [hi, hj, Nat.add_assoc]

def Blk (w : World) (g : Nat) (t : TypeId) (cs : Array Value) : Prop := w.heap[g]? = some (.cells cs t (0, 0))

section
variable {w w' : World} {g : Nat} {t : TypeId} {cs : Array Value}
theorem Blk.lt (h : Blk w g t cs) : g < w.heap.size := by
  rcases Nat.lt_or_ge g w.heap.size with hlt | hge
  · exact hlt
  · unfold Blk at h; rw [Array.getElem?_eq_none hge] at h; cases h
theorem Blk.cell (h : Blk w g t cs) (i : Nat) : w.cell? ⟨g, i, none⟩ = cs[i]? := cell_of_row w g i cs t (0, 0) h
theorem Blk.frozen (h : Blk w g t cs) (i : Nat) : w.frozen? ⟨g, i, none⟩ = false := by
  unfold Blk at h
  simp [World.frozen?, h]
theorem Blk.new (w : World) (t : TypeId) (cs : Array Value) : Blk (w.alloc (.cells cs t)) w.heap.size t cs := heap_alloc_new w _
theorem Blk.drew (h : Blk w g t cs) : Blk w.drew g t cs := h
theorem Blk.drewN (h : Blk w g t cs) (n : Nat) : Blk (w.drewN n) g t cs := h
theorem Blk.alloc (h : Blk w g t cs) (o : Obj) : Blk (w.alloc o) g t cs := (Below.heap_alloc w o g h.lt).trans h
theorem Blk.set_ (h : Blk w g t cs) (i : Nat) (u : Value) : Blk (w.setCell ⟨g, i, none⟩ u) g t (cs.setIfInBounds i u) := by
  unfold Blk at h ⊢
  simp [World.setCell, Array.getElem?_modify, h]
theorem Blk.far (h : Blk w g t cs) {p : Addr} (hp : g ≠ p.block) (u : Value) : Blk (w.setCell p u) g t cs := (Below.heap_setCell w p u g hp).trans h
theorem Blk.below {B : Nat} (h : Blk w g t cs) (hb : Below B w w') (hg : g < B) : Blk w' g t cs := (hb.block g hg).trans h
theorem Blk.grown {row : Option Nat} (h : Blk w g t cs) (hb : w.grownBy w' row) (hg : some g ≠ row) : Blk w' g t cs := (hb.block g h.lt hg).trans h
theorem Blk.ne_ {g' : Nat} {t' : TypeId} {cs' : Array Value} (h : Blk w g t cs) (h' : Blk w g' t' cs') (hne : t ≠ t') : g ≠ g' := by
  rintro rfl
  unfold Blk at h h'
  rw [h] at h'
  injection h' with h'
  injection h' with _ ht
  exact hne ht
end

/-- Of what was there, only the blocks in S may have turned. -/
structure But (S : Nat → Prop) (w w' : World) : Prop where
  os : w'.os = w.os
  tape : w'.tape = w.tape
  output : w'.output = w.output
  size : w.heap.size ≤ w'.heap.size
  block : ∀ k, k < w.heap.size → ¬ S k → w'.heap[k]? = w.heap[k]?

theorem But.refl (S : Nat → Prop) (w : World) : But S w w := ⟨rfl, rfl, rfl, Nat.le_refl _, fun _ _ _ => rfl⟩
theorem But.trans {S : Nat → Prop} {u v w : World} (h : But S u v) (k : But S v w) : But S u w :=
  ⟨k.os.trans h.os, k.tape.trans h.tape, k.output.trans h.output, Nat.le_trans h.size k.size, fun i hi hb => (k.block i (Nat.lt_of_lt_of_le hi h.size) hb).trans (h.block i hi hb)⟩
theorem But.mono {S S' : Nat → Prop} {w w' : World} (h : But S w w') (hs : ∀ k, k < w.heap.size → S k → S' k) : But S' w w' :=
  ⟨h.os, h.tape, h.output, h.size, fun k hk hn => h.block k hk (fun hs' => hn (hs k hk hs'))⟩
theorem But.set {S : Nat → Prop} (w : World) (a : Addr) (v : Value) (h : S a.block) : But S w (w.setCell a v) :=
  ⟨rfl, rfl, rfl, by simp [World.setCell], fun k _ hk => Below.heap_setCell _ _ _ _ (fun e => hk (e ▸ h))⟩
theorem But.step {S : Nat → Prop} {v w : World} (h : But S v w) (a : Addr) (u : Value) (hs : S a.block) : But S v (w.setCell a u) := h.trans (But.set w a u hs)
theorem But.new {S : Nat → Prop} {v w : World} (h : But S v w) (o : Obj) : But S v (w.alloc o) := h.trans ⟨rfl, rfl, rfl, by simp, fun k hk _ => Below.heap_alloc _ _ _ hk⟩
/-- A store into a block that was not there. -/
theorem But.own {S : Nat → Prop} {v w : World} (h : But S v w) (a : Addr) (u : Value) (hs : v.heap.size ≤ a.block) : But S v (w.setCell a u) :=
  ⟨h.os, h.tape, h.output, by simpa [World.setCell] using h.size, fun k hk hn => (Below.heap_setCell _ _ _ _ (by omega)).trans (h.block k hk hn)⟩
theorem But.alloc (S : Nat → Prop) (w : World) (o : Obj) : But S w (w.alloc o) := ⟨rfl, rfl, rfl, by simp, fun k hk _ => Below.heap_alloc _ _ _ hk⟩
theorem But.drewN {S : Nat → Prop} {w w' : World} (h : But S w w') (k : Nat) : But S w (w'.drewN k) := ⟨h.os, h.tape, h.output, h.size, h.block⟩
theorem But.drew {S : Nat → Prop} {w w' : World} (h : But S w w') : But S w w'.drew := ⟨h.os, h.tape, h.output, h.size, h.block⟩
theorem But.of_below {S : Nat → Prop} {w w' : World} (h : Below w.heap.size w w') : But S w w' := ⟨h.os, h.tape, h.output, h.size, fun k hk _ => h.block k hk⟩
theorem But.below {B : Nat} {S : Nat → Prop} {v w w' : World} (h : But S w w') (hb : ∀ k, S k → B ≤ k) (hB : B ≤ w.heap.size) (h0 : Below B v w) : Below B v w' :=
  h0.trans ⟨h.os, h.tape, h.output, h.size, fun k hk => h.block k (by omega) (fun hs => by have := hb k hs; omega)⟩
theorem But.blk {S : Nat → Prop} {w w' : World} {g : Nat} {t : TypeId} {cs : Array Value} (h : But S w w') (hc : Blk w g t cs) (hne : ¬ S g) : Blk w' g t cs := (h.block g hc.lt hne).trans hc
section
variable {P : Program} {d : Nat} {xs ys : Array Value} {f : Field} {fs : List Field} {a b : Value} {r s : Bool} {w : World}
theorem eqf_cons (hn : (f.name == "_") = false) (ha : (part f.type xs f.offset).run P w = .ok a w) (hb : (part f.type ys f.offset).run P w = .ok b w) (he : (Op.equalIn d f.type a b).run P w = .ok r w) (hr : (Op.eqFields d xs ys fs).run P w = .ok s w) : (Op.eqFields d xs ys (f :: fs)).run P w = .ok (r && s) w := by
  have hn' : f.name ≠ "_" := by simpa using hn
  rw [Op.eqFields]
  simp only [if_pos hn', Sem.run_bind, ha, hb, he, Result.andThen_ok]
  cases r
  · simp
  · simpa using hr
theorem eqf_nil : (Op.eqFields d xs ys []).run P w = .ok true w := by simp [Op.eqFields]
end


/-- A slice of n elements of sz cells each, of which element i has the cell 'cell i j' at j. -/
def SliceAt (w : World) (A : Option Addr) (sz n : Nat) (cell : Nat → Nat → Value) : Prop :=
  0 < n → ∃ b off, A = some ⟨b, off, none⟩ ∧ ∀ i j, i < n → j < sz → w.cell? ⟨b, off + i * sz + j, none⟩ = some (cell i j)
theorem SliceAt.keep {w w' : World} {A : Option Addr} {sz n : Nat} {cell : Nat → Nat → Value} (h : SliceAt w A sz n cell) (hs : 0 < sz) (hk : ∀ p : Addr, p.block < w.heap.size → w'.cell? p = w.cell? p) : SliceAt w' A sz n cell := fun hn => by
  obtain ⟨b, off, rfl, hc⟩ := h hn
  refine ⟨b, off, rfl, fun i j hi hj => ?_⟩
  have h0 := hc i j hi hj
  rw [hk _ (World.block_lt_of_cell? w _ h0), h0]
theorem SliceAt.below {w w' : World} {A : Option Addr} {sz n : Nat} {cell : Nat → Nat → Value} (h : SliceAt w A sz n cell) (hs : 0 < sz) (hb : Below w.heap.size w w') : SliceAt w' A sz n cell := h.keep hs fun _ hp => hb.cell hp
theorem SliceAt.cells {w : World} {b off sz n : Nat} {cell : Nat → Nat → Value} (h : ∀ i j, i < n → j < sz → w.cell? ⟨b, off + i * sz + j, none⟩ = some (cell i j)) : SliceAt w (some ⟨b, off, none⟩) sz n cell := fun _ => ⟨b, off, rfl, h⟩

/-- A slice of integers of kind q that reads as the list xs. -/
def IntsAt (q : IntKind) (w : World) (A : Option Addr) (xs : List Int) : Prop :=
  0 < xs.length → ∃ b off, A = some ⟨b, off, none⟩ ∧ ∀ i, i < xs.length → w.cell? ⟨b, off + i, none⟩ = some (.int q (xs.getD i 0))
theorem IntsAt.keep {q : IntKind} {w w' : World} {A : Option Addr} {xs : List Int} (h : IntsAt q w A xs) (hk : ∀ p : Addr, p.block < w.heap.size → w'.cell? p = w.cell? p) : IntsAt q w' A xs := fun hn => by
  obtain ⟨b, off, rfl, hc⟩ := h hn
  refine ⟨b, off, rfl, fun i hi => ?_⟩
  have h0 := hc i hi
  rw [hk _ (World.block_lt_of_cell? w _ h0), h0]
theorem IntsAt.below {q : IntKind} {w w' : World} {A : Option Addr} {xs : List Int} (h : IntsAt q w A xs) (hb : Below w.heap.size w w') : IntsAt q w' A xs := h.keep fun _ hp => hb.cell hp
theorem IntsAt.get {q : IntKind} {w : World} {A : Option Addr} {xs : List Int} (h : IntsAt q w A xs) {k : Nat} (hk : k < xs.length) : ∃ b off, A = some ⟨b, off, none⟩ ∧ w.cell? ⟨b, off + k, none⟩ = some (.int q (xs.getD k 0)) := by
  obtain ⟨b, off, rfl, hc⟩ := h (by omega)
  exact ⟨b, off, rfl, hc k hk⟩
theorem IntsAt.nil (q : IntKind) (w : World) (A : Option Addr) : IntsAt q w A [] := fun h => by simp at h
end Go.Proofs.YtpmeffdcbjakoaaDoor
