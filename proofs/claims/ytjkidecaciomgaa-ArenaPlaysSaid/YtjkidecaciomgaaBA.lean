/- Mem, Mem2, VL1, VL2, VL3, App, VL4, VL5, VL6. -/
import Derived.Below
import Derived.Laws.OwnMore
import Derived.Deep.Draws
import Derived.Laws.Rows
import Derived.Deep.AppendLies
import Derived.Laws.NewBlocks
import Derived.Laws.StructEq
import Derived.WalkKit
import Derived.Maps.AppendAt
import Derived.RegionTactic
import Derived.OwnWalk
import Derived.IntWalk
import Derived.Laws.Strings
/- Words for memory, over any program: a block that is known whole, a slice that reads as a list, what a call may change (the kit's own small words, with a frame of this session's). -/
namespace Go.Proofs.Ytjkidecaciomgaa
set_option linter.unusedVariables false
set_option linter.unusedSimpArgs false
open Go.RowKit

theorem ret_int {k : IntKind} {a b : Int} (h : a = b) : Ending.returned (.int k a) = .returned (.int k b) := by rw [h]
theorem ret_bool {a b : Bool} (h : a = b) : Ending.returned (.bool a) = .returned (.bool b) := by rw [h]

theorem block_of_add (a : Addr) (n : Nat) : (a.add n).block = a.block := by unfold Addr.add; split <;> rfl
theorem add_of_add (a : Addr) (i j : Nat) : (a.add i).add j = a.add (i + j) := by
  unfold Addr.add
  by_cases hi : i = 0 <;> by_cases hj : j = 0 <;> simp [hi, hj, Nat.add_assoc]

def Blk (w : World) (g : Nat) (t : TypeId) (cs : Array Value) : Prop := w.heap[g]? = some (.cells cs t (0, 0))

section
variable {w w' : World} {g : Nat} {t : TypeId} {cs : Array Value}
theorem Blk.lt (h : Blk w g t cs) : g < w.heap.size := by
  rcases Nat.lt_or_ge g w.heap.size with hlt | hge
  · exact hlt
  · unfold Blk at h; rw [Array.getElem?_eq_none hge] at h; cases h
theorem Blk.cell (h : Blk w g t cs) (i : Nat) : w.cell? ⟨g, i, none⟩ = cs[i]? := cell_of_row w g i cs t (0, 0) h
theorem Blk.frozen (h : Blk w g t cs) (i : Nat) : w.frozen? ⟨g, i, none⟩ = false := by
  unfold Blk at h
  simp [World.frozen?, h]
theorem Blk.new (w : World) (t : TypeId) (cs : Array Value) : Blk (w.alloc (.cells cs t)) w.heap.size t cs := heap_alloc_new w _
theorem Blk.drew (h : Blk w g t cs) : Blk w.drew g t cs := h
theorem Blk.drewN (h : Blk w g t cs) (n : Nat) : Blk (w.drewN n) g t cs := h
theorem Blk.alloc (h : Blk w g t cs) (o : Obj) : Blk (w.alloc o) g t cs := (Below.heap_alloc w o g h.lt).trans h
theorem Blk.set_ (h : Blk w g t cs) (i : Nat) (u : Value) : Blk (w.setCell ⟨g, i, none⟩ u) g t (cs.setIfInBounds i u) := by
  unfold Blk at h ⊢
  simp [World.setCell, Array.getElem?_modify, h]
theorem Blk.far (h : Blk w g t cs) {p : Addr} (hp : g ≠ p.block) (u : Value) : Blk (w.setCell p u) g t cs := (Below.heap_setCell w p u g hp).trans h
theorem Blk.below {B : Nat} (h : Blk w g t cs) (hb : Below B w w') (hg : g < B) : Blk w' g t cs := (hb.block g hg).trans h
theorem Blk.grown {row : Option Nat} (h : Blk w g t cs) (hb : w.grownBy w' row) (hg : some g ≠ row) : Blk w' g t cs := (hb.block g h.lt hg).trans h
theorem Blk.ne_ {g' : Nat} {t' : TypeId} {cs' : Array Value} (h : Blk w g t cs) (h' : Blk w g' t' cs') (hne : t ≠ t') : g ≠ g' := by
  rintro rfl
  unfold Blk at h h'
  rw [h] at h'
  injection h' with h'
  injection h' with _ ht
  exact hne ht
end

/-- Of what was there, only the blocks in S may have turned. -/
structure But (S : Nat → Prop) (w w' : World) : Prop where
  os : w'.os = w.os
  tape : w'.tape = w.tape
  output : w'.output = w.output
  size : w.heap.size ≤ w'.heap.size
  block : ∀ k, k < w.heap.size → ¬ S k → w'.heap[k]? = w.heap[k]?

theorem But.refl (S : Nat → Prop) (w : World) : But S w w := ⟨rfl, rfl, rfl, Nat.le_refl _, fun _ _ _ => rfl⟩
theorem But.trans {S : Nat → Prop} {u v w : World} (h : But S u v) (k : But S v w) : But S u w :=
  ⟨k.os.trans h.os, k.tape.trans h.tape, k.output.trans h.output, Nat.le_trans h.size k.size, fun i hi hb => (k.block i (Nat.lt_of_lt_of_le hi h.size) hb).trans (h.block i hi hb)⟩
theorem But.mono {S S' : Nat → Prop} {w w' : World} (h : But S w w') (hs : ∀ k, k < w.heap.size → S k → S' k) : But S' w w' :=
  ⟨h.os, h.tape, h.output, h.size, fun k hk hn => h.block k hk (fun hs' => hn (hs k hk hs'))⟩
theorem But.set {S : Nat → Prop} (w : World) (a : Addr) (v : Value) (h : S a.block) : But S w (w.setCell a v) :=
  ⟨rfl, rfl, rfl, by simp [World.setCell], fun k _ hk => Below.heap_setCell _ _ _ _ (fun e => hk (e ▸ h))⟩
theorem But.step {S : Nat → Prop} {v w : World} (h : But S v w) (a : Addr) (u : Value) (hs : S a.block) : But S v (w.setCell a u) := h.trans (But.set w a u hs)
theorem But.new {S : Nat → Prop} {v w : World} (h : But S v w) (o : Obj) : But S v (w.alloc o) := h.trans ⟨rfl, rfl, rfl, by simp, fun k hk _ => Below.heap_alloc _ _ _ hk⟩
/-- A store into a block that was not there. -/
theorem But.own {S : Nat → Prop} {v w : World} (h : But S v w) (a : Addr) (u : Value) (hs : v.heap.size ≤ a.block) : But S v (w.setCell a u) :=
  ⟨h.os, h.tape, h.output, by simpa [World.setCell] using h.size, fun k hk hn => (Below.heap_setCell _ _ _ _ (by omega)).trans (h.block k hk hn)⟩
theorem But.alloc (S : Nat → Prop) (w : World) (o : Obj) : But S w (w.alloc o) := ⟨rfl, rfl, rfl, by simp, fun k hk _ => Below.heap_alloc _ _ _ hk⟩
theorem But.drewN {S : Nat → Prop} {w w' : World} (h : But S w w') (k : Nat) : But S w (w'.drewN k) := ⟨h.os, h.tape, h.output, h.size, h.block⟩
theorem But.drew {S : Nat → Prop} {w w' : World} (h : But S w w') : But S w w'.drew := ⟨h.os, h.tape, h.output, h.size, h.block⟩
theorem But.of_below {S : Nat → Prop} {w w' : World} (h : Below w.heap.size w w') : But S w w' := ⟨h.os, h.tape, h.output, h.size, fun k hk _ => h.block k hk⟩
theorem But.below {B : Nat} {S : Nat → Prop} {v w w' : World} (h : But S w w') (hb : ∀ k, S k → B ≤ k) (hB : B ≤ w.heap.size) (h0 : Below B v w) : Below B v w' :=
  h0.trans ⟨h.os, h.tape, h.output, h.size, fun k hk => h.block k (by omega) (fun hs => by have := hb k hs; omega)⟩
theorem But.blk {S : Nat → Prop} {w w' : World} {g : Nat} {t : TypeId} {cs : Array Value} (h : But S w w') (hc : Blk w g t cs) (hne : ¬ S g) : Blk w' g t cs := (h.block g hc.lt hne).trans hc
section
variable {P : Program} {d : Nat} {xs ys : Array Value} {f : Field} {fs : List Field} {a b : Value} {r s : Bool} {w : World}
theorem eqf_cons (hn : (f.name == "_") = false) (ha : (part f.type xs f.offset).run P w = .ok a w) (hb : (part f.type ys f.offset).run P w = .ok b w) (he : (Op.equalIn d f.type a b).run P w = .ok r w) (hr : (Op.eqFields d xs ys fs).run P w = .ok s w) : (Op.eqFields d xs ys (f :: fs)).run P w = .ok (r && s) w := by
  have hn' : f.name ≠ "_" := by simpa using hn
  rw [Op.eqFields]
  simp only [if_pos hn', Sem.run_bind, ha, hb, he, Result.andThen_ok]
  cases r
  · simp
  · simpa using hr
theorem eqf_nil : (Op.eqFields d xs ys []).run P w = .ok true w := by simp [Op.eqFields]
end


/-- A slice of n elements of sz cells each, of which element i has the cell 'cell i j' at j. -/
def SliceAt (w : World) (A : Option Addr) (sz n : Nat) (cell : Nat → Nat → Value) : Prop :=
  0 < n → ∃ b off, A = some ⟨b, off, none⟩ ∧ ∀ i j, i < n → j < sz → w.cell? ⟨b, off + i * sz + j, none⟩ = some (cell i j)
theorem SliceAt.keep {w w' : World} {A : Option Addr} {sz n : Nat} {cell : Nat → Nat → Value} (h : SliceAt w A sz n cell) (hs : 0 < sz) (hk : ∀ p : Addr, p.block < w.heap.size → w'.cell? p = w.cell? p) : SliceAt w' A sz n cell := fun hn => by
  obtain ⟨b, off, rfl, hc⟩ := h hn
  refine ⟨b, off, rfl, fun i j hi hj => ?_⟩
  have h0 := hc i j hi hj
  rw [hk _ (World.block_lt_of_cell? w _ h0), h0]
theorem SliceAt.below {w w' : World} {A : Option Addr} {sz n : Nat} {cell : Nat → Nat → Value} (h : SliceAt w A sz n cell) (hs : 0 < sz) (hb : Below w.heap.size w w') : SliceAt w' A sz n cell := h.keep hs fun _ hp => hb.cell hp
theorem SliceAt.cells {w : World} {b off sz n : Nat} {cell : Nat → Nat → Value} (h : ∀ i j, i < n → j < sz → w.cell? ⟨b, off + i * sz + j, none⟩ = some (cell i j)) : SliceAt w (some ⟨b, off, none⟩) sz n cell := fun _ => ⟨b, off, rfl, h⟩

/-- A slice of integers of kind q that reads as the list xs. -/
def IntsAt (q : IntKind) (w : World) (A : Option Addr) (xs : List Int) : Prop :=
  0 < xs.length → ∃ b off, A = some ⟨b, off, none⟩ ∧ ∀ i, i < xs.length → w.cell? ⟨b, off + i, none⟩ = some (.int q (xs.getD i 0))
theorem IntsAt.keep {q : IntKind} {w w' : World} {A : Option Addr} {xs : List Int} (h : IntsAt q w A xs) (hk : ∀ p : Addr, p.block < w.heap.size → w'.cell? p = w.cell? p) : IntsAt q w' A xs := fun hn => by
  obtain ⟨b, off, rfl, hc⟩ := h hn
  refine ⟨b, off, rfl, fun i hi => ?_⟩
  have h0 := hc i hi
  rw [hk _ (World.block_lt_of_cell? w _ h0), h0]
theorem IntsAt.below {q : IntKind} {w w' : World} {A : Option Addr} {xs : List Int} (h : IntsAt q w A xs) (hb : Below w.heap.size w w') : IntsAt q w' A xs := h.keep fun _ hp => hb.cell hp
theorem IntsAt.get {q : IntKind} {w : World} {A : Option Addr} {xs : List Int} (h : IntsAt q w A xs) {k : Nat} (hk : k < xs.length) : ∃ b off, A = some ⟨b, off, none⟩ ∧ w.cell? ⟨b, off + k, none⟩ = some (.int q (xs.getD k 0)) := by
  obtain ⟨b, off, rfl, hc⟩ := h (by omega)
  exact ⟨b, off, rfl, hc k hk⟩
theorem IntsAt.nil (q : IntKind) (w : World) (A : Option Addr) : IntsAt q w A [] := fun h => by simp at h
end Go.Proofs.Ytjkidecaciomgaa
/- More words for memory. -/
namespace Go.Proofs.Ytjkidecaciomgaa
set_option linter.unusedVariables false
set_option linter.unusedSimpArgs false
open Go.RowKit
theorem But.of_drew {S : Nat → Prop} {w w' : World} (h : But S w.drew w') : But S w w' := ⟨h.os, h.tape, h.output, h.size, h.block⟩
theorem But.of_drewN {S : Nat → Prop} {w w' : World} {n : Nat} (h : But S (w.drewN n) w') : But S w w' := ⟨h.os, h.tape, h.output, h.size, h.block⟩
theorem But.cell {S : Nat → Prop} {w w' : World} (h : But S w w') {p : Addr} (hp : p.block < w.heap.size) (hn : ¬ S p.block) : w'.cell? p = w.cell? p := World.cell?_of_block (w := w) (h.block p.block hp hn)
theorem But.frozen {S : Nat → Prop} {w w' : World} (h : But S w w') {p : Addr} (hp : p.block < w.heap.size) (hn : ¬ S p.block) : w'.frozen? p = w.frozen? p := World.frozen?_of_block (w := w) (h.block p.block hp hn)
theorem below_drewN {B : Nat} {a w : World} (h : Below B a w) (n : Nat) : Below B a (w.drewN n) := h.trans ⟨rfl, rfl, rfl, Nat.le_refl _, fun _ _ => rfl⟩
theorem below_of_drewN {B : Nat} {a w : World} {n : Nat} (h : Below B (a.drewN n) w) : Below B a w := ⟨h.os, h.tape, h.output, h.size, h.block⟩
theorem below_of_drew {B : Nat} {a w : World} (h : Below B a.drew w) : Below B a w := ⟨h.os, h.tape, h.output, h.size, h.block⟩
theorem below_drawn (B : Nat) (w : World) (n : Nat) : Below B w (w.drewN n) := ⟨rfl, rfl, rfl, Nat.le_refl _, fun _ _ => rfl⟩
end Go.Proofs.Ytjkidecaciomgaa
/- VL, part 1: abstract values, resources, what they say of a world. -/
namespace Go.Proofs.Ytjkidecaciomgaa
set_option linter.unusedVariables false
set_option linter.unusedSimpArgs false
open Go.RowKit

abbrev Bl := Nat → Prop
/-- What a value of one cell says, resting on blocks of S alone. -/
structure Sem where
  R : World → Bl → Value → Prop
  one : ∀ {w S v}, R w S v → v.oneCell' = true
  fut : ∀ {w w' : World} {S S' : Bl} {v : Value}, (∀ k, S k → S' k) → (∀ k, S k → k < w.heap.size → w'.heap[k]? = w.heap[k]?) → R w S v → R w' S' v

inductive AV where
  | v (x : Value)
  | sem (p : Sem)
  | res (g : Nat)
  | ptr (g o : Nat)
  | fn (f : FuncId) (l : List AV)
  | agg (l : List AV)
  | tup (l : List AV)

mutual
def AV.has (g : Nat) : AV → Bool
  | .v _ => false
  | .sem _ => false
  | .res i => Nat.beq i g
  | .ptr i _ => Nat.beq i g
  | .fn _ l => AV.hasL g l
  | .agg l => AV.hasL g l
  | .tup l => AV.hasL g l
def AV.hasL (g : Nat) : List AV → Bool
  | [] => false
  | x :: r => or (AV.has g x) (AV.hasL g r)
end

/-- Resources but boxes: w, the public blocks, its own blocks, the value by which it is known. -/
structure Res where
  H : World → Bl → Bl → Value → Prop
  one : ∀ {w S F v}, H w S F v → v.oneCell' = true
  bnd : ∀ {w S F v}, H w S F v → ∀ k, F k → k < w.heap.size
  fut : ∀ {w w' : World} {S S' F : Bl} {v : Value}, (∀ k, S k → S' k) → (∀ k, S k ∨ F k → k < w.heap.size → w'.heap[k]? = w.heap[k]?) → H w S F v → H w' S' F v

inductive RK where
  | dead
  | box (T : TypeId) (l : List AV)
  | obj (r : Res)
def RK.live : RK → Bool
  | .dead => false
  | .box _ _ => true
  | .obj _ => true
def RK.has (g : Nat) : RK → Bool
  | .dead => false
  | .box _ l => AV.hasL g l
  | .obj _ => false

def look {α : Type} : List (Nat × α) → Nat → Option α
  | [], _ => none
  | (k, x) :: l, n => bif Nat.beq k n then some x else look l n
theorem look_cons {α : Type} (k : Nat) (x : α) (l : List (Nat × α)) (n : Nat) : look ((k, x) :: l) n = if k = n then some x else look l n := by
  simp only [look]
  by_cases h : k = n
  · subst h; simp
  · have : Nat.beq k n = false := by
      cases hb : Nat.beq k n
      · rfl
      · exact absurd (Nat.eq_of_beq_eq_true hb) h
    rw [this, if_neg h]; rfl
theorem look_mem {α : Type} : ∀ {l : List (Nat × α)} {n : Nat} {x : α}, look l n = some x → (n, x) ∈ l
  | [], _, _, h => by cases h
  | (k, y) :: l, n, x, h => by
    rw [look_cons] at h
    by_cases e : k = n
    · rw [if_pos e] at h; cases h; subst e; exact List.mem_cons_self
    · rw [if_neg e] at h; exact List.mem_cons_of_mem _ (look_mem h)

structure VS where
  t : List (Nat × AV)
  r : List (Nat × RK)

/-- The block at whose begin a pointer, or a slice, lies. -/
def baseOf : Value → Option Nat
  | .pointer (some a) => if a.off = 0 ∧ a.spot = none then some a.block else none
  | .slice (some a) _ _ => if a.off = 0 ∧ a.spot = none then some a.block else none
  | _ => none
mutual
def AVR (ι : Nat → Value) (S : Bl) (w : World) : AV → Value → Prop
  | .v x, u => u = x
  | .sem p, u => p.R w S u
  | .res g, u => u = ι g ∧ u.oneCell' = true
  | .ptr g o, u => ∃ b, baseOf (ι g) = some b ∧ u = .pointer (some ⟨b, o, none⟩)
  | .fn f l, u => ∃ us : List Value, u = .func (.func f) #[] us.toArray ∧ AVRs ι S w l us
  | .agg l, u => ∃ us : List Value, u = .agg us.toArray ∧ AVRs ι S w l us
  | .tup l, u => ∃ us : List Value, u = .tuple us.toArray ∧ AVRs ι S w l us
def AVRs (ι : Nat → Value) (S : Bl) (w : World) : List AV → List Value → Prop
  | [], us => us = []
  | x :: l, us => ∃ u r, us = u :: r ∧ AVR ι S w x u ∧ AVRs ι S w l r
end

/-- The public blocks stay as they are; there may be more of them. -/
structure Fut (S : Bl) (w : World) (S' : Bl) (w' : World) : Prop where
  mono : ∀ k, S k → S' k
  same : ∀ k, S k → k < w.heap.size → w'.heap[k]? = w.heap[k]?
theorem Fut.refl (S : Bl) (w : World) : Fut S w S w := ⟨fun _ h => h, fun _ _ _ => rfl⟩
theorem Fut.trans {S S' S'' : Bl} {w w' w'' : World} (h : Fut S w S' w') (h' : Fut S' w' S'' w'') (hs : w.heap.size ≤ w'.heap.size) : Fut S w S'' w'' :=
  ⟨fun k hk => h'.mono k (h.mono k hk), fun k hk hl => (h'.same k (h.mono k hk) (by omega)).trans (h.same k hk hl)⟩

section
variable {ι ι' : Nat → Value} {S S' : Bl} {w w' : World}
mutual
theorem AVR.fut (hF : Fut S w S' w') : ∀ {x : AV} {u : Value}, (∀ g, x.has g = true → ι' g = ι g) → AVR ι S w x u → AVR ι' S' w' x u
  | .v x, u, _, h => by simpa [AVR] using h
  | .sem p, u, _, h => by
    simp only [AVR] at h ⊢
    exact p.fut hF.mono hF.same h
  | .res g, u, hg, h => by
    simp only [AVR] at h ⊢
    rw [hg g (by simp [AV.has])]; exact h
  | .ptr g o, u, hg, h => by
    simp only [AVR] at h ⊢
    rw [hg g (by simp [AV.has])]; exact h
  | .fn f l, u, hg, h => by
    simp only [AVR] at h ⊢
    obtain ⟨us, e, hl⟩ := h
    exact ⟨us, e, AVRs.fut hF (fun g h1 => hg g (by simpa [AV.has] using h1)) hl⟩
  | .agg l, u, hg, h => by
    simp only [AVR] at h ⊢
    obtain ⟨us, e, hl⟩ := h
    exact ⟨us, e, AVRs.fut hF (fun g h1 => hg g (by simpa [AV.has] using h1)) hl⟩
  | .tup l, u, hg, h => by
    simp only [AVR] at h ⊢
    obtain ⟨us, e, hl⟩ := h
    exact ⟨us, e, AVRs.fut hF (fun g h1 => hg g (by simpa [AV.has] using h1)) hl⟩
theorem AVRs.fut (hF : Fut S w S' w') : ∀ {l : List AV} {us : List Value}, (∀ g, AV.hasL g l = true → ι' g = ι g) → AVRs ι S w l us → AVRs ι' S' w' l us
  | [], us, _, h => by simpa [AVRs] using h
  | x :: l, us, hg, h => by
    simp only [AVRs] at h ⊢
    obtain ⟨u, r, e, h1, h2⟩ := h
    exact ⟨u, r, e, AVR.fut hF (fun g h3 => hg g (by simp [AV.hasL, h3])) h1, AVRs.fut hF (fun g h3 => hg g (by simp [AV.hasL, h3])) h2⟩
end
theorem AVRs.length : ∀ {l : List AV} {us : List Value}, AVRs ι S w l us → us.length = l.length
  | [], us, h => by simp only [AVRs] at h; rw [h]; rfl
  | x :: l, us, h => by
    simp only [AVRs] at h
    obtain ⟨u, r, e, _, h2⟩ := h
    rw [e, List.length_cons, List.length_cons, AVRs.length h2]
theorem AVRs.get : ∀ {l : List AV} {us : List Value} {i : Nat} {x : AV}, AVRs ι S w l us → l[i]? = some x → ∃ u, us[i]? = some u ∧ AVR ι S w x u
  | [], us, i, x, _, hx => by simp at hx
  | y :: l, us, i, x, h, hx => by
    simp only [AVRs] at h
    obtain ⟨u, r, e, h1, h2⟩ := h
    subst e
    match i, hx with
    | 0, hx => exact ⟨u, rfl, by cases hx; exact h1⟩
    | i + 1, hx =>
      have := AVRs.get h2 (i := i) (x := x) (by simpa using hx)
      simpa using this
theorem AVRs.set : ∀ {l : List AV} {us : List Value} {i : Nat} {x : AV} {u : Value}, AVRs ι S w l us → AVR ι S w x u → AVRs ι S w (l.set i x) (us.set i u)
  | [], us, i, x, u, h, _ => by
    simp only [AVRs] at h
    subst h
    simp [AVRs]
  | y :: l, us, i, x, u, h, hx => by
    simp only [AVRs] at h
    obtain ⟨u0, r, e, h1, h2⟩ := h
    subst e
    match i with
    | 0 => exact ⟨u, r, rfl, hx, h2⟩
    | i + 1 => exact ⟨u0, r.set i u, rfl, h1, AVRs.set h2 hx⟩
theorem AVRs.drop : ∀ {l : List AV} {us : List Value} (n : Nat), AVRs ι S w l us → AVRs ι S w (l.drop n) (us.drop n)
  | l, us, 0, h => by simpa using h
  | [], us, n + 1, h => by
    simp only [AVRs] at h
    subst h
    simp [AVRs]
  | y :: l, us, n + 1, h => by
    simp only [AVRs] at h
    obtain ⟨u, r, e, h1, h2⟩ := h
    subst e
    simpa using AVRs.drop n h2
theorem AVRs.take : ∀ {l : List AV} {us : List Value} (n : Nat), AVRs ι S w l us → AVRs ι S w (l.take n) (us.take n)
  | l, us, 0, h => by simp [AVRs]
  | [], us, n + 1, h => by
    simp only [AVRs] at h
    subst h
    simp [AVRs]
  | y :: l, us, n + 1, h => by
    simp only [AVRs] at h
    obtain ⟨u, r, e, h1, h2⟩ := h
    subst e
    exact ⟨u, r.take n, rfl, h1, AVRs.take n h2⟩
theorem AVRs.append : ∀ {l l' : List AV} {us us' : List Value}, AVRs ι S w l us → AVRs ι S w l' us' → AVRs ι S w (l ++ l') (us ++ us')
  | [], l', us, us', h, h' => by
    simp only [AVRs] at h
    subst h
    simpa using h'
  | y :: l, l', us, us', h, h' => by
    simp only [AVRs] at h
    obtain ⟨u, r, e, h1, h2⟩ := h
    subst e
    exact ⟨u, r ++ us', rfl, h1, AVRs.append h2 h'⟩
end

/-- Memory, as the resources say. -/
structure HeapSim (r : List (Nat × RK)) (ι : Nat → Value) (F : Nat → Bl) (S : Bl) (w : World) : Prop where
  bx : ∀ g T l, look r g = some (.box T l) → ∃ b, ι g = .pointer (some ⟨b, 0, none⟩) ∧ (∀ k, F g k ↔ k = b) ∧ ∃ cs : Array Value, w.heap[b]? = some (.cells cs T (0, 0)) ∧ AVRs ι S w l cs.toList
  ob : ∀ g R, look r g = some (.obj R) → R.H w S (F g) (ι g)
  dis : ∀ g g' x x', look r g = some x → look r g' = some x' → x.live = true → x'.live = true → g ≠ g' → ∀ k, F g k → ¬ F g' k
  out : ∀ g x, look r g = some x → x.live = true → ∀ k, F g k → ¬ S k
  bnd : ∀ k, S k → k < w.heap.size

theorem HeapSim.lt {r : List (Nat × RK)} {ι : Nat → Value} {F : Nat → Bl} {S : Bl} {w : World} (h : HeapSim r ι F S w) {g : Nat} {x : RK} (hg : look r g = some x) (hl : x.live = true) {k : Nat} (hk : F g k) : k < w.heap.size := by
  cases x with
  | dead => cases hl
  | box T l =>
    obtain ⟨b, _, hF, cs, hb, _⟩ := h.bx g T l hg
    rw [(hF k).1 hk]
    exact (Array.getElem?_eq_some_iff.1 hb).1
  | obj R => exact R.bnd (h.ob g R hg) k hk

/-- Where no resource's block turns, and no public one, all stays. -/
theorem HeapSim.step {r : List (Nat × RK)} {ι : Nat → Value} {F : Nat → Bl} {S S' : Bl} {w w' : World} (h : HeapSim r ι F S w) (hF : Fut S w S' w') (hown : ∀ g x, look r g = some x → x.live = true → ∀ k, F g k → w'.heap[k]? = w.heap[k]?)
    (hout : ∀ g x, look r g = some x → x.live = true → ∀ k, F g k → ¬ S' k) (hb : ∀ k, S' k → k < w'.heap.size) : HeapSim r ι F S' w' := by
  refine ⟨fun g T l hg => ?_, fun g R hg => ?_, h.dis, hout, hb⟩
  · obtain ⟨b, h1, h2, cs, h3, h4⟩ := h.bx g T l hg
    exact ⟨b, h1, h2, cs, (hown g _ hg rfl b ((h2 b).2 rfl)).trans h3, h4.fut hF fun _ _ => rfl⟩
  · exact R.fut hF.mono (fun k hk hl => hk.elim (fun hs => hF.same k hs hl) fun hf => hown g _ hg rfl k hf) (h.ob g R hg)

/-- What the proof of one function's call goes by: its place, the world and the public blocks at its begin, the resources that came in (r0), its result and the resources that it leaves. -/
structure Cx where
  P : Program
  f : FuncId
  fn : Func
  N : Nat
  w0 : World
  S0 : Bl
  ι0 : Nat → Value
  F0 : Nat → Bl
  r0 : List (Nat × RK)
  rv : AV
  r1 : List (Nat × RK)
/-- The blocks of what came in. -/
def Dom (r : List (Nat × RK)) (F : Nat → Bl) : Bl := fun k => ∃ g x, look r g = some x ∧ x.live = true ∧ F g k
abbrev Cx.D (C : Cx) : Bl := Dom C.r0 C.F0

structure SimW (C : Cx) (r : List (Nat × RK)) (ι : Nat → Value) (F : Nat → Bl) (S : Bl) (w : World) : Prop where
  hs : HeapSim r ι F S w
  but : But C.D C.w0 w
  own : ∀ g x, look r g = some x → x.live = true → ∀ k, F g k → C.w0.heap.size ≤ k ∨ C.D k
  sb : ∀ k, S k → C.S0 k ∨ C.w0.heap.size ≤ k ∨ C.D k
  fut : Fut C.S0 C.w0 S w
  keep : ∀ g x, look C.r0 g = some x → x.live = true → ι g = C.ι0 g
/-- The world has grown: no resource's block has turned. -/
theorem SimW.step {C : Cx} {r : List (Nat × RK)} {ι : Nat → Value} {F : Nat → Bl} {S S' : Bl} {w w' : World} (h : SimW C r ι F S w) (hb : Below w.heap.size w w') (hm : ∀ k, S k → S' k) (hs : ∀ k, S' k → S k ∨ w.heap.size ≤ k) (hl : ∀ k, S' k → k < w'.heap.size) : SimW C r ι F S' w' := by
  have hF : Fut S w S' w' := ⟨hm, fun k _ hk => hb.block k hk⟩
  refine ⟨h.hs.step hF (fun g x hg hx k hk => hb.block k (h.hs.lt hg hx hk)) (fun g x hg hx k hk hS => ?_) hl, h.but.trans (But.of_below hb), h.own, fun k hk => ?_, h.fut.trans hF h.but.size, h.keep⟩
  · rcases hs k hS with h1 | h1
    · exact h.hs.out g x hg hx k hk h1
    · have := h.hs.lt hg hx hk
      omega
  · rcases hs k hk with h1 | h1
    · exact h.sb k h1
    · have := h.but.size
      exact .inr (.inl (by omega))
theorem SimW.same {C : Cx} {r : List (Nat × RK)} {ι : Nat → Value} {F : Nat → Bl} {S : Bl} {w w' : World} (h : SimW C r ι F S w) (hb : Below w.heap.size w w') : SimW C r ι F S w' :=
  h.step hb (fun _ h => h) (fun _ h => .inl h) (fun k hk => by have := h.hs.bnd k hk; have := hb.size; omega)

def TS (t : List (Nat × AV)) (ι : Nat → Value) (S : Bl) (w : World) (a : Act) : Prop :=
  ∀ n x, look t n = some x → ∃ u, a.tmps[n]? = some u ∧ AVR ι S w x u

structure SimA (C : Cx) (σ : VS) (ι : Nat → Value) (F : Nat → Bl) (S : Bl) (a : Act) (w : World) : Prop where
  sw : SimW C σ.r ι F S w
  ts : TS σ.t ι S w a
  sz : a.tmps.size = C.N
  df : a.defers = []

def Sim (C : Cx) (σ : VS) (a : Act) (w : World) : Prop := ∃ ι F S, SimA C σ ι F S a w

def evalA (t : List (Nat × AV)) : Operand → Option AV
  | .tmp n => look t n
  | .const x => some (.v x)
  | .global g => some (.v (.pointer (some ⟨g, 0, none⟩)))
  | .func f => some (.v (.func (.func f) #[] #[]))
theorem TS.eval {t : List (Nat × AV)} {ι : Nat → Value} {S : Bl} {w : World} {a : Act} (h : TS t ι S w a) {x : Operand} {y : AV} (hx : evalA t x = some y) : AVR ι S w y (a.eval x) := by
  cases x with
  | tmp n =>
    obtain ⟨u, h1, h2⟩ := h n y hx
    have : a.eval (.tmp n) = u := by
      have h1' : (a.tmps.getD n undef) = u := by rw [Array.getD_eq_getD_getElem?, h1]; rfl
      exact h1'
    rw [this]; exact h2
  | const c => cases hx; simp [AVR, Act.eval]
  | global g => cases hx; simp [AVR, Act.eval]
  | func f => cases hx; simp [AVR, Act.eval]
theorem TS.put {t : List (Nat × AV)} {ι ι' : Nat → Value} {S S' : Bl} {w w' : World} {a : Act} (h : TS t ι S w a) (hF : Fut S w S' w') (hι : ∀ n x, look t n = some x → ∀ g, x.has g = true → ι' g = ι g) {d : Nat} {y : AV} {u : Value} (hd : d < a.tmps.size) (hu : AVR ι' S' w' y u) : TS ((d, y) :: t) ι' S' w' (a.put (some d) u) := by
  intro n x hx
  rw [look_cons] at hx
  by_cases e : d = n
  · subst e
    rw [if_pos rfl] at hx
    cases hx
    exact ⟨u, by simp [Act.put, hd], hu⟩
  · rw [if_neg e] at hx
    obtain ⟨u0, h1, h2⟩ := h n x hx
    exact ⟨u0, by simp [Act.put, e, h1], h2.fut hF (hι n x hx)⟩
theorem TS.fut {t : List (Nat × AV)} {ι ι' : Nat → Value} {S S' : Bl} {w w' : World} {a : Act} (h : TS t ι S w a) (hF : Fut S w S' w') (hι : ∀ n x, look t n = some x → ∀ g, x.has g = true → ι' g = ι g) : TS t ι' S' w' a := by
  intro n x hx
  obtain ⟨u0, h1, h2⟩ := h n x hx
  exact ⟨u0, h1, h2.fut hF (hι n x hx)⟩
end Go.Proofs.Ytjkidecaciomgaa
/- VL, part 2: runs; control; how an operation is carried out. -/
namespace Go.Proofs.Ytjkidecaciomgaa
set_option linter.unusedVariables false
set_option linter.unusedSimpArgs false
open Go.RowKit

/-- How the call ends. -/
def Cx.R (C : Cx) (e : Ending) (w' : World) : Prop :=
  ∃ ι' F' S' u, e = .returned u ∧ HeapSim C.r1 ι' F' S' w' ∧ AVR ι' S' w' C.rv u ∧ Fut C.S0 C.w0 S' w' ∧ (∀ g x, look C.r0 g = some x → x.live = true → ι' g = C.ι0 g) ∧ But C.D C.w0 w' ∧
    (∀ k, S' k → C.S0 k ∨ C.w0.heap.size ≤ k ∨ C.D k) ∧ (∀ g x, look C.r1 g = some x → x.live = true → ∀ k, F' g k → C.w0.heap.size ≤ k ∨ C.D k)

/-- A function's contract: out of these resources and arguments this result, and these resources. -/
def Fun (P : Program) (f : FuncId) (args : List AV) (r0 : List (Nat × RK)) (rv : AV) (r1 : List (Nat × RK)) : Prop :=
  ∀ (ι : Nat → Value) (F : Nat → Bl) (S : Bl) (w : World) (vals : List Value), HeapSim r0 ι F S w → AVRs ι S w args vals → Calls P f vals.toArray w (Cx.R ⟨P, f, default, 0, w, S, ι, F, r0, rv, r1⟩)

def Go_ (C : Cx) (k : List Item) (a : Act) (w : World) : Prop :=
  ∀ (b : Frame) (cs : List Frame), b.fn = C.f → b.kind = .normal → ∃ e w' fr, C.R e w' ∧ Comes C.P (lone (b.at a k) cs w) (lone fr cs w') e ∧ fr.fn = C.f ∧ fr.leaving C.P w' e
theorem Go_.step {C : Cx} {k k' : List Item} {a a' : Act} {w w' : World} (h : Go_ C k' a' w') (hs : ∀ (b : Frame) cs, Go.step C.P (lone (b.at a k) cs w) = .next (lone (b.at a' k') cs w')) : Go_ C k a w := fun b cs hf hk => by
  obtain ⟨e, w1, fr, h1, h2, h3, h4⟩ := h b cs hf hk
  exact ⟨e, w1, fr, h1, Comes.of_steps (.one (hs b cs)) h2, h3, h4⟩
theorem Go_.of_wp {C : Cx} {c : Code} {k : List Item} {a : Act} {w : World} (h : c.wp C.P (fun e a' w' => e = .normal ∧ Go_ C k a' w') a w) : Go_ C (.code c :: k) a w := fun b cs hf hk => by
  obtain ⟨e, a', w', ⟨rfl, hg⟩, harr⟩ := h b k cs
  obtain ⟨e, w1, fr, h1, h2, h3, h4⟩ := hg b cs hf hk
  exact ⟨e, w1, fr, h1, Comes.of_steps harr h2, h3, h4⟩

structure Run (C : Cx) (k : List Item) (σ : VS) : Prop where
  go : ∀ a w, Sim C σ a w → Go_ C k a w
structure RunL (C : Cx) (ops : Array Oper) (l : List Oper) (σ : VS) (k : List Item) : Prop where
  go : ∀ a w, Sim C σ a w → wpList C.P ops (fun e a' w' => e = .normal ∧ Go_ C k a' w') l a w

section
variable {C : Cx} {k : List Item} {σ : VS}
theorem run_seq {x y : Code} (h : Run C (.code x :: .code y :: k) σ) : Run C (.code (.seq x y) :: k) σ := .mk fun a w hs => (h.go a w hs).step fun _ _ => step_seq
theorem run_skip (h : Run C k σ) : Run C (.code .skip :: k) σ := .mk fun a w hs => (h.go a w hs).step fun _ _ => step_skip
theorem run_block {id : Nat} {c : Code} (h : Run C (.code c :: .inBlock id :: k) σ) : Run C (.code (.block id c) :: k) σ := .mk fun a w hs => (h.go a w hs).step fun _ _ => step_block
theorem run_inBlock {id : Nat} (h : Run C k σ) : Run C (.inBlock id :: k) σ := .mk fun a w hs => (h.go a w hs).step fun _ _ => step_inBlock
theorem run_exit {id : Nat} {k' : List Item} (he : exitTo id k = some k') (h : Run C k' σ) : Run C (.code (.exit id) :: k) σ := .mk fun a w hs => (h.go a w hs).step fun _ _ => step_exit he
theorem run_loop {c : Code} (h : Run C (.code c :: .inLoop c :: k) σ) : Run C (.code (.loop c) :: k) σ := .mk fun a w hs => (h.go a w hs).step fun _ _ => step_loop
theorem run_inLoop {c : Code} (h : Run C (.code c :: .inLoop c :: k) σ) : Run C (.inLoop c :: k) σ := .mk fun a w hs => (h.go a w hs).step fun _ _ => step_inLoop
/-- A loop: states by x, what holds of x, what goes down. -/
theorem run_while {α : Type} {c : Code} (St : α → VS) (I : α → Prop) (μ : α → Nat) (round : ∀ x, I x → (∀ y, I y → μ y < μ x → Run C (.inLoop c :: k) (St y)) → Run C (.code c :: .inLoop c :: k) (St x)) : ∀ x, I x → Run C (.code c :: .inLoop c :: k) (St x) := by
  have key : ∀ n x, μ x = n → I x → Run C (.code c :: .inLoop c :: k) (St x) := by
    intro n
    induction n using Nat.strongRecOn with
    | _ n ih => exact fun x hn hx => round x hx fun y hy hlt => run_inLoop (ih (μ y) (hn ▸ hlt) y rfl hy)
  exact fun x hx => key _ x rfl hx
theorem run_cond {x : Operand} {c d : Code} {b : Bool} (hx : evalA σ.t x = some (.v (.bool b))) (h1 : b = true → Run C (.code c :: k) σ) (h0 : b = false → Run C (.code d :: k) σ) : Run C (.code (.cond x c d) :: k) σ := .mk fun a w hs => by
  obtain ⟨ι, F, S, h⟩ := id hs
  have he : a.eval x = .bool b := by
    have := h.ts.eval hx
    simpa [AVR] using this
  cases b
  · exact ((h0 rfl).go a w hs).step fun _ _ => step_cond he
  · exact ((h1 rfl).go a w hs).step fun _ _ => step_cond he
theorem run_region {id : Nat} {l : List Oper} (h : RunL C l.toArray l σ k) : Run C (.code (.region id l.toArray false) :: k) σ := .mk fun a w hs => Go_.of_wp (wp_region_lit (h.go a w hs))
theorem runL_nil {ops : Array Oper} (h : Run C k σ) : RunL C ops [] σ k := .mk fun a w hs => ⟨rfl, h.go a w hs⟩
end

/-- What an operation comes to: a value (or nothing: undef), or what the call that it enters gives back. -/
def Does (P : Program) (s : Go.Sem Next) (w : World) (K : Value → World → Prop) : Prop :=
  match s.run P w with
  | .ok (.value v) w' => K v w'
  | .ok .skip w' => K undef w'
  | .ok (.enter f args) w' => Calls P f args w' (fun e w'' => ∃ v, e = .returned v ∧ K v w'')
  | _ => False
theorem Does.mono {P : Program} {s : Go.Sem Next} {w : World} {K K' : Value → World → Prop} (h : Does P s w K) (hk : ∀ v w', K v w' → K' v w') : Does P s w K' := by
  unfold Does at *
  split <;> simp_all
  exact h.mono fun e w' hh => by
    obtain ⟨v, h1, h2⟩ := hh
    exact ⟨v, h1, hk _ _ h2⟩
theorem Does.wp {P : Program} {o : Oper} {a : Act} {w : World} {next : Act → World → Prop} {Q : Exit → Act → World → Prop} (h : Does P (execOp a.eval o) w fun v w' => next (a.put o.dst v) w') : o.wp P a w next Q := by
  unfold Does at h
  unfold Oper.wp
  split at h
  · rename_i hr; rw [hr]; exact h
  · rename_i hr; rw [hr]; exact h
  · rename_i hr
    rw [hr, Oper.upon_enter]
    exact h.mono fun e w' hh => by
      obtain ⟨v, rfl, h2⟩ := hh
      exact h2
  · exact h.elim
theorem Does.value {P : Program} {s : Go.Sem Next} {w w' : World} {v : Value} {K : Value → World → Prop} (hr : s.run P w = .ok (.value v) w') (h : K v w') : Does P s w K := by
  unfold Does; rw [hr]; exact h
theorem Does.skip {P : Program} {s : Go.Sem Next} {w w' : World} {K : Value → World → Prop} (hr : s.run P w = .ok .skip w') (h : K undef w') : Does P s w K := by
  unfold Does; rw [hr]; exact h

/-- Is the operation carried out: known of its guard? -/
def wantedA (t : List (Nat × AV)) (ops : Array Oper) (o : Oper) : Option Bool :=
  match o.guard with
  | none => some true
  | some (j, want) =>
    match ops[j]? with
    | none => none
    | some oj =>
      match oj.dst with
      | none => none
      | some d =>
        match look t d with
        | some (.v x) => match x with
          | .bool b => some (b == want)
          | _ => some false
        | _ => none
def yieldV (u : Value) : Option Bool := match u with | .bool b => some b | _ => none
theorem wantedA_of {t : List (Nat × AV)} {ops : Array Oper} {o : Oper} {b : Bool} {ι : Nat → Value} {S : Bl} {w : World} {a : Act} (hw : wantedA t ops o = some b) (h : TS t ι S w a) : Region.wanted o (yielded ops a.tmps) = b := by
  unfold wantedA at hw
  unfold Region.wanted
  cases hg : o.guard with
  | none => simp only [hg] at hw ⊢; simpa using hw
  | some p =>
    obtain ⟨j, want⟩ := p
    simp only [hg] at hw ⊢
    cases hj : ops[j]? with
    | none => simp [hj] at hw
    | some oj =>
      simp only [hj] at hw
      cases hd : oj.dst with
      | none => simp [hd] at hw
      | some d =>
        simp only [hd] at hw
        cases hl : look t d with
        | none => simp [hl] at hw
        | some x =>
          cases x <;> simp only [hl] at hw <;> try (cases hw)
          rename_i x
          obtain ⟨u, h1, h2⟩ := h d _ hl
          simp only [AVR] at h2
          subst h2
          have : yielded ops a.tmps j = yieldV u := by
            unfold yielded yieldV
            simp only [hj, hd, Option.bind_some, h1]
            cases u <;> rfl
          rw [this]
          cases u <;> simp only at hw <;> cases hw
          all_goals first | rfl | (rename_i b0; cases b0 <;> cases want <;> rfl)

def Rd (t : List (Nat × AV)) : List (Operand × AV) → Prop
  | [] => True
  | p :: l => evalA t p.1 = some p.2 ∧ Rd t l
theorem Rd.all {t : List (Nat × AV)} : ∀ {l : List (Operand × AV)}, Rd t l → ∀ p ∈ l, evalA t p.1 = some p.2
  | [], _, p, hp => by cases hp
  | q :: l, h, p, hp => by
    rcases List.mem_cons.1 hp with rfl | hp
    · exact h.1
    · exact Rd.all h.2 p hp

/-- An operation that leaves the resources alone: out of its operands' values this value. -/
def OpPure (C : Cx) (r : List (Nat × RK)) (o : Oper) (rd : List (Operand × AV)) (V : AV) : Prop :=
  ∀ ι F S w (ρ : Operand → Value), SimW C r ι F S w → (∀ p ∈ rd, AVR ι S w p.2 (ρ p.1)) → Does C.P (execOp ρ o) w fun u w' => ∃ S', SimW C r ι F S' w' ∧ Fut S w S' w' ∧ AVR ι S' w' V u

section
variable {C : Cx} {k : List Item} {t : List (Nat × AV)} {r : List (Nat × RK)} {ops : Array Oper} {o : Oper} {rest : List Oper}
theorem runL_pure {d : Nat} {V : AV} (rd : List (Operand × AV)) (hg : wantedA t ops o = some true) (hd : o.dst = some d) (hn : Nat.blt d C.N = true) (hr : Rd t rd) (h : OpPure C r o rd V) (hk : RunL C ops rest ⟨(d, V) :: t, r⟩ k) : RunL C ops (o :: rest) ⟨t, r⟩ k := .mk fun a w hs => by
  obtain ⟨ι, F, S, hA⟩ := hs
  have hw := wantedA_of hg hA.ts
  have hdo := h ι F S w a.eval hA.sw (fun p hp => hA.ts.eval (hr.all p hp))
  refine wpList_step fun K hK => ?_
  rw [if_pos hw]
  refine Does.wp (hdo.mono fun u w' hu => ?_)
  obtain ⟨S', h1, h2, h3⟩ := hu
  refine hK _ _ (hk.go _ _ ⟨ι, F, S', h1, ?_, ?_, ?_⟩)
  · rw [hd]; exact hA.ts.put h2 (fun _ _ _ _ _ => rfl) (by rw [hA.sz]; exact Nat.le_of_ble_eq_true hn) h3
  · rw [hd]; simp [Act.put, hA.sz]
  · rw [hd]; simp [Act.put, hA.df]
theorem runL_pure0 {V : AV} (rd : List (Operand × AV)) (hg : wantedA t ops o = some true) (hd : o.dst = none) (hr : Rd t rd) (h : OpPure C r o rd V) (hk : RunL C ops rest ⟨t, r⟩ k) : RunL C ops (o :: rest) ⟨t, r⟩ k := .mk fun a w hs => by
  obtain ⟨ι, F, S, hA⟩ := hs
  have hw := wantedA_of hg hA.ts
  have hdo := h ι F S w a.eval hA.sw (fun p hp => hA.ts.eval (hr.all p hp))
  refine wpList_step fun K hK => ?_
  rw [if_pos hw]
  refine Does.wp (hdo.mono fun u w' hu => ?_)
  obtain ⟨S', h1, h2, h3⟩ := hu
  refine hK _ _ (hk.go _ _ ⟨ι, F, S', h1, ?_, ?_, ?_⟩)
  · rw [hd]; exact hA.ts.fut h2 (fun _ _ _ _ _ => rfl)
  · rw [hd]; exact hA.sz
  · rw [hd]; exact hA.df
/-- The guard says no. -/
theorem runL_off {d : Nat} (hg : wantedA t ops o = some false) (hd : o.dst = some d) (hn : Nat.blt d C.N = true) (hk : RunL C ops rest ⟨(d, .v undef) :: t, r⟩ k) : RunL C ops (o :: rest) ⟨t, r⟩ k := .mk fun a w hs => by
  obtain ⟨ι, F, S, hA⟩ := hs
  have hw := wantedA_of hg hA.ts
  refine wpList_step fun K hK => ?_
  rw [if_neg (by rw [hw]; simp)]
  refine hK _ _ (hk.go _ _ ⟨ι, F, S, hA.sw, ?_, ?_, ?_⟩)
  · rw [hd]; exact hA.ts.put (Fut.refl _ _) (fun _ _ _ _ _ => rfl) (by rw [hA.sz]; exact Nat.le_of_ble_eq_true hn) (by simp [AVR])
  · rw [hd]; simp [Act.put, hA.sz]
  · rw [hd]; simp [Act.put, hA.df]
theorem runL_off0 (hg : wantedA t ops o = some false) (hd : o.dst = none) (hk : RunL C ops rest ⟨t, r⟩ k) : RunL C ops (o :: rest) ⟨t, r⟩ k := .mk fun a w hs => by
  obtain ⟨ι, F, S, hA⟩ := id hs
  have hw := wantedA_of hg hA.ts
  refine wpList_step fun K hK => ?_
  rw [if_neg (by rw [hw]; simp)]
  refine hK _ _ ?_
  rw [hd]
  exact hk.go _ _ hs
/-- Two ways, by the bool in a slot. -/
theorem runL_split (n : Nat) {b : Bool} {l : List Oper} (hb : look t n = some (.v (.bool b))) (h1 : b = true → RunL C ops l ⟨(n, .v (.bool true)) :: t, r⟩ k) (h0 : b = false → RunL C ops l ⟨(n, .v (.bool false)) :: t, r⟩ k) : RunL C ops l ⟨t, r⟩ k := .mk fun a w hs => by
  obtain ⟨ι, F, S, hA⟩ := hs
  have key : ∀ b', b = b' → Sim C ⟨(n, .v (.bool b')) :: t, r⟩ a w := fun b' e => by
    refine ⟨ι, F, S, hA.sw, fun m x hx => ?_, hA.sz, hA.df⟩
    rw [look_cons] at hx
    by_cases hm : n = m
    · subst hm
      rw [if_pos rfl] at hx
      cases hx
      rw [← e]
      exact hA.ts n _ hb
    · rw [if_neg hm] at hx
      exact hA.ts m x hx
  cases b
  · exact (h0 rfl).go a w (key _ rfl)
  · exact (h1 rfl).go a w (key _ rfl)
/-- A claim that follows. -/
theorem runL_know {l : List Oper} (n : Nat) {x y : AV} (hx : look t n = some x) (hy : ∀ ι F S w u, SimW C r ι F S w → AVR ι S w x u → AVR ι S w y u) (h : RunL C ops l ⟨(n, y) :: t, r⟩ k) : RunL C ops l ⟨t, r⟩ k := .mk fun a w hs => by
  obtain ⟨ι, F, S, hA⟩ := hs
  refine h.go a w ⟨ι, F, S, hA.sw, fun m z hz => ?_, hA.sz, hA.df⟩
  rw [look_cons] at hz
  by_cases hm : n = m
  · subst hm
    rw [if_pos rfl] at hz
    cases hz
    obtain ⟨u, h1, h2⟩ := hA.ts n _ hx
    exact ⟨u, h1, hy _ _ _ _ _ hA.sw h2⟩
  · rw [if_neg hm] at hz
    exact hA.ts m z hz
theorem run_know (n : Nat) {x y : AV} (hx : look t n = some x) (hy : ∀ ι F S w u, SimW C r ι F S w → AVR ι S w x u → AVR ι S w y u) (h : Run C k ⟨(n, y) :: t, r⟩) : Run C k ⟨t, r⟩ := .mk fun a w hs => by
  obtain ⟨ι, F, S, hA⟩ := hs
  refine h.go a w ⟨ι, F, S, hA.sw, fun m z hz => ?_, hA.sz, hA.df⟩
  rw [look_cons] at hz
  by_cases hm : n = m
  · subst hm
    rw [if_pos rfl] at hz
    cases hz
    obtain ⟨u, h1, h2⟩ := hA.ts n _ hx
    exact ⟨u, h1, hy _ _ _ _ _ hA.sw h2⟩
  · rw [if_neg hm] at hz
    exact hA.ts m z hz
end
end Go.Proofs.Ytjkidecaciomgaa
/- VL, part 3: other names; the begin and the end of a call. -/
namespace Go.Proofs.Ytjkidecaciomgaa
set_option linter.unusedVariables false
set_option linter.unusedSimpArgs false
open Go.RowKit

abbrev idN : Nat → Nat := fun n => n
mutual
def AV.ren (m : Nat → Nat) : AV → AV
  | .v x => .v x
  | .sem p => .sem p
  | .res g => .res (m g)
  | .ptr g o => .ptr (m g) o
  | .fn f l => .fn f (AV.renL m l)
  | .agg l => .agg (AV.renL m l)
  | .tup l => .tup (AV.renL m l)
def AV.renL (m : Nat → Nat) : List AV → List AV
  | [] => []
  | x :: l => AV.ren m x :: AV.renL m l
end
def RK.ren (m : Nat → Nat) : RK → RK
  | .dead => .dead
  | .box T l => .box T (AV.renL m l)
  | .obj R => .obj R
theorem RK.live_ren (m : Nat → Nat) (x : RK) : (x.ren m).live = x.live := by cases x <;> rfl
section
variable {ι : Nat → Value} {S : Bl} {w : World} {m : Nat → Nat}
mutual
theorem AVR.ren : ∀ {x : AV} {u : Value}, AVR ι S w (x.ren m) u ↔ AVR (fun g => ι (m g)) S w x u
  | .v x, u => by simp [AV.ren, AVR]
  | .sem p, u => by simp [AV.ren, AVR]
  | .res g, u => by simp [AV.ren, AVR]
  | .ptr g o, u => by simp [AV.ren, AVR]
  | .fn f l, u => by
    simp only [AV.ren, AVR]
    exact exists_congr fun us => and_congr Iff.rfl AVRs.ren
  | .agg l, u => by
    simp only [AV.ren, AVR]
    exact exists_congr fun us => and_congr Iff.rfl AVRs.ren
  | .tup l, u => by
    simp only [AV.ren, AVR]
    exact exists_congr fun us => and_congr Iff.rfl AVRs.ren
theorem AVRs.ren : ∀ {l : List AV} {us : List Value}, AVRs ι S w (AV.renL m l) us ↔ AVRs (fun g => ι (m g)) S w l us
  | [], us => by simp [AV.renL, AVRs]
  | x :: l, us => by
    simp only [AV.renL, AVRs]
    exact exists_congr fun u => exists_congr fun r => and_congr Iff.rfl (and_congr AVR.ren AVRs.ren)
end
end

/-- r2's resources are r's, by other names. -/
def WkR (r : List (Nat × RK)) (m : Nat → Nat) : List (Nat × RK) → Prop
  | [] => True
  | p :: l => look r (m p.1) = some (p.2.ren m) ∧ WkR r m l
theorem WkR.look {r : List (Nat × RK)} {m : Nat → Nat} : ∀ {l : List (Nat × RK)} {g : Nat} {x : RK}, WkR r m l → look l g = some x → Go.Proofs.Ytjkidecaciomgaa.look r (m g) = some (x.ren m)
  | [], g, x, _, h => by cases h
  | (k, y) :: l, g, x, h, hx => by
    rw [look_cons] at hx
    by_cases e : k = g
    · subst e; rw [if_pos rfl] at hx; cases hx; exact h.1
    · rw [if_neg e] at hx; exact h.2.look hx
def WkT (t : List (Nat × AV)) (m : Nat → Nat) : List (Nat × AV) → Prop
  | [] => True
  | p :: l => look t p.1 = some (p.2.ren m) ∧ WkT t m l
theorem WkT.look {t : List (Nat × AV)} {m : Nat → Nat} : ∀ {l : List (Nat × AV)} {g : Nat} {x : AV}, WkT t m l → look l g = some x → Go.Proofs.Ytjkidecaciomgaa.look t g = some (x.ren m)
  | [], g, x, _, h => by cases h
  | (k, y) :: l, g, x, h, hx => by
    rw [look_cons] at hx
    by_cases e : k = g
    · subst e; rw [if_pos rfl] at hx; cases hx; exact h.1
    · rw [if_neg e] at hx; exact h.2.look hx
def notIn (n : Nat) : List Nat → Bool
  | [] => true
  | x :: l => and (!Nat.beq x n) (notIn n l)
def nodupB : List Nat → Bool
  | [] => true
  | x :: l => and (notIn x l) (nodupB l)
theorem notIn_iff {n : Nat} : ∀ {l : List Nat}, notIn n l = true ↔ n ∉ l
  | [] => by simp [notIn]
  | x :: l => by
    simp only [notIn, Bool.and_eq_true, Bool.not_eq_true', List.mem_cons, not_or]
    rw [notIn_iff]
    refine and_congr ⟨fun h e => ?_, fun h => ?_⟩ Iff.rfl
    · subst e; simp at h
    · cases hb : Nat.beq x n
      · rfl
      · exact absurd (Nat.eq_of_beq_eq_true hb).symm h
theorem nodupB_iff : ∀ {l : List Nat}, nodupB l = true ↔ l.Nodup
  | [] => by simp [nodupB]
  | x :: l => by
    simp only [nodupB, Bool.and_eq_true, List.nodup_cons]
    rw [notIn_iff, nodupB_iff]
def idsM {α : Type} (m : Nat → Nat) : List (Nat × α) → List Nat
  | [] => []
  | p :: l => m p.1 :: idsM m l
theorem idsM_inj {α : Type} {m : Nat → Nat} : ∀ {l : List (Nat × α)}, (idsM m l).Nodup → ∀ {g g' : Nat} {x x' : α}, look l g = some x → look l g' = some x' → m g = m g' → g = g'
  | [], _, g, g', x, x', h, _, _ => by cases h
  | (k, y) :: l, hn, g, g', x, x', h, h', e => by
    have mem : ∀ {l : List (Nat × α)} {g : Nat} {x : α}, look l g = some x → m g ∈ idsM m l := by
      intro l
      induction l with
      | nil => intro g x h; cases h
      | cons p l ih =>
        intro g x h
        obtain ⟨k, y⟩ := p
        rw [look_cons] at h
        by_cases e : k = g
        · subst e; exact List.mem_cons_self
        · rw [if_neg e] at h; exact List.mem_cons_of_mem _ (ih h)
    rw [idsM, List.nodup_cons] at hn
    rw [look_cons] at h h'
    by_cases e1 : k = g
    · by_cases e2 : k = g'
      · omega
      · rw [if_neg e2] at h'
        exact absurd (by rw [e1, e]; exact mem h') hn.1
    · by_cases e2 : k = g'
      · rw [if_neg e1] at h
        exact absurd (by rw [e2, ← e]; exact mem h) hn.1
      · rw [if_neg e1] at h
        rw [if_neg e2] at h'
        exact idsM_inj hn.2 h h' e

theorem HeapSim.ren {r r2 : List (Nat × RK)} {ι : Nat → Value} {F : Nat → Bl} {S : Bl} {w : World} {m : Nat → Nat} (h : HeapSim r ι F S w) (hr : WkR r m r2) (hn : nodupB (idsM m r2) = true) : HeapSim r2 (fun g => ι (m g)) (fun g => F (m g)) S w := by
  have hn' := nodupB_iff.1 hn
  refine ⟨fun g T l hg => ?_, fun g R hg => h.ob _ R (hr.look hg), fun g g' x x' hg hg' hx hx' hne k hk => ?_, fun g x hg hx k hk => h.out _ _ (hr.look hg) (by rw [RK.live_ren]; exact hx) k hk, h.bnd⟩
  · obtain ⟨b, h1, h2, cs, h3, h4⟩ := h.bx _ T _ (hr.look hg)
    exact ⟨b, h1, h2, cs, h3, AVRs.ren.1 h4⟩
  · exact h.dis _ _ _ _ (hr.look hg) (hr.look hg') (by rw [RK.live_ren]; exact hx) (by rw [RK.live_ren]; exact hx') (fun e => hne (idsM_inj hn' hg hg' e)) k hk

/-- What came in keeps its name. -/
def KeepM (m : Nat → Nat) : List (Nat × RK) → Prop
  | [] => True
  | p :: l => m p.1 = p.1 ∧ KeepM m l
theorem KeepM.look {m : Nat → Nat} : ∀ {l : List (Nat × RK)} {g : Nat} {x : RK}, KeepM m l → look l g = some x → m g = g
  | [], g, x, _, h => by cases h
  | (k, y) :: l, g, x, h, hx => by
    rw [look_cons] at hx
    by_cases e : k = g
    · subst e; exact h.1
    · rw [if_neg e] at hx; exact h.2.look hx

section
variable {C : Cx} {k : List Item} {σ : VS}
/-- Less is known, by other names. -/
theorem run_weak (m : Nat → Nat) {σ2 : VS} (hk : KeepM m C.r0) (hr : WkR σ.r m σ2.r) (ht : WkT σ.t m σ2.t) (hn : nodupB (idsM m σ2.r) = true) (h : Run C k σ2) : Run C k σ := .mk fun a w hs => by
  obtain ⟨ι, F, S, hA⟩ := hs
  refine h.go a w ⟨fun g => ι (m g), fun g => F (m g), S, ⟨hA.sw.hs.ren hr hn, hA.sw.but, fun g x hg hx => hA.sw.own _ _ (hr.look hg) (by rw [RK.live_ren]; exact hx), hA.sw.sb, hA.sw.fut, fun g x hg hx => ?_⟩, fun n x hx => ?_, hA.sz, hA.df⟩
  · rw [hk.look hg]; exact hA.sw.keep g x hg hx
  · obtain ⟨u, h1, h2⟩ := hA.ts n _ (ht.look hx)
    exact ⟨u, h1, AVR.ren.1 h2⟩
end

/-! ### The begin -/
def argT : Nat → List AV → List (Nat × AV)
  | _, [] => []
  | i, x :: l => (i, x) :: argT (i + 1) l
theorem argT_look : ∀ {l : List AV} {i n : Nat} {x : AV}, look (argT i l) n = some x → i ≤ n ∧ l[n - i]? = some x
  | [], i, n, x, h => by cases h
  | y :: l, i, n, x, h => by
    rw [argT, look_cons] at h
    by_cases e : i = n
    · subst e
      rw [if_pos rfl] at h
      exact ⟨Nat.le_refl _, by simpa using h⟩
    · rw [if_neg e] at h
      obtain ⟨h1, h2⟩ := argT_look h
      refine ⟨by omega, ?_⟩
      rw [show n - i = (n - (i + 1)) + 1 by omega]
      simpa using h2

theorem fun_intro {P : Program} {f : FuncId} {fn : Func} {c : Code} {args : List AV} {r0 r1 : List (Nat × RK)} {rv : AV} (N : Nat) (hf : P.funcs[f]? = some fn) (hb : fn.body = some c) (hN : fn.ntmps = N) (hl : Nat.ble args.length N = true)
    (h : ∀ (ι : Nat → Value) (F : Nat → Bl) (S : Bl) (w : World), Run ⟨P, f, fn, N, w, S, ι, F, r0, rv, r1⟩ [.code c] ⟨argT 0 args, r0⟩) : Fun P f args r0 rv r1 := fun ι F S w vals hh hv => by
  have hlen := hv.length
  have hle := Nat.le_of_ble_eq_true hl
  intro cs
  let b : Frame := { (default : Frame) with fn := f, kind := .normal }
  have henter : Frame.enter P f vals.toArray .normal = b.at { tmps := vals.toArray ++ Array.replicate (fn.ntmps - vals.toArray.size) undef, defers := [] } [.code c] := by
    simp [Frame.enter, Frame.at, hf, hb, b]
  have hsim : Sim ⟨P, f, fn, N, w, S, ι, F, r0, rv, r1⟩ ⟨argT 0 args, r0⟩ { tmps := vals.toArray ++ Array.replicate (fn.ntmps - vals.toArray.size) undef, defers := [] } w := by
    refine ⟨ι, F, S, ⟨hh, But.refl _ _, fun g x hg hx k hk => .inr ⟨g, x, hg, hx, hk⟩, fun k hk => .inl hk, Fut.refl _ _, fun _ _ _ _ => rfl⟩, fun n x hx => ?_, ?_, rfl⟩
    · obtain ⟨_, h2⟩ := argT_look hx
      rw [Nat.sub_zero] at h2
      obtain ⟨u, h3, h4⟩ := hv.get h2
      refine ⟨u, ?_, h4⟩
      have hlt := (List.getElem?_eq_some_iff.1 h3).1
      rw [Array.getElem?_append_left (by simpa using hlt)]
      simpa using h3
    · simp only [Array.size_append, List.size_toArray, Array.size_replicate]
      omega
  obtain ⟨e, w1, fr, h1, h2, h3, h4⟩ := (h ι F S w).go _ w hsim b cs rfl rfl
  rw [← henter] at h2
  exact ⟨e, w1, fr, h1, h2, h3, h4⟩

/-! ### The end -/
/-- A variable's value, out of its cells: one, or a struct's. -/
structure TyI where
  agg : Bool
  size : Nat
  bytes : Nat
  zero : List Value
def aggD : TypeDesc → Bool
  | .struct _ => true
  | .array _ _ => true
  | _ => false
def tyI (P : Program) (T : TypeId) : Option TyI :=
  match P.info? T, P.underlying T with
  | some i, some d => match i.zero with
    | some z => some ⟨aggD d, i.size, i.bytes, z.cells.toList⟩
    | none => none
  | _, _ => none
theorem tyI_info {P : Program} {T : TypeId} {i : TyI} (h : tyI P T = some i) : ∃ ti d z, P.info? T = some ti ∧ P.underlying T = some d ∧ ti.zero = some z ∧ aggD d = i.agg ∧ ti.size = i.size ∧ ti.bytes = i.bytes ∧ z.cells.toList = i.zero := by
  unfold tyI at h
  split at h
  · rename_i ti d h1 h2
    split at h
    · rename_i z hz
      cases h
      exact ⟨ti, d, z, h1, h2, hz, rfl, rfl, rfl, rfl⟩
    · cases h
  · cases h
theorem run_isAgg {P : Program} {T : TypeId} {i : TyI} (h : tyI P T = some i) (w : World) : (isAgg T).run P w = .ok i.agg w := by
  obtain ⟨ti, d, z, h1, h2, h3, h4, _⟩ := tyI_info h
  unfold isAgg
  simp only [Sem.run_bind, run_underlying h2, Result.andThen_ok]
  rw [← h4]
  cases d <;> rfl
theorem run_sizeOf {P : Program} {T : TypeId} {i : TyI} (h : tyI P T = some i) (w : World) : (sizeOf T).run P w = .ok i.size w := by
  obtain ⟨ti, d, z, h1, h2, h3, h4, h5, _⟩ := tyI_info h
  simp [sizeOf, typeInfo, h1, h5]
theorem run_zeroValue {P : Program} {T : TypeId} {i : TyI} (h : tyI P T = some i) (w : World) : ∃ z, (zeroValue T).run P w = .ok z w ∧ z.cells.toList = i.zero := by
  obtain ⟨ti, d, z, h1, h2, h3, h4, h5, h6, h7⟩ := tyI_info h
  exact ⟨z, by simp [zeroValue, typeInfo, h1, h3], h7⟩
/-- A variable's value out of its cells. -/
def packV (agg : Bool) (us : List Value) : Value := if agg then .agg us.toArray else us.headD undef
theorem run_loadVar {P : Program} {T : TypeId} {i : TyI} (h : tyI P T = some i) (hs : i.agg = false → i.size = 1) {w : World} {a : Addr} {us : List Value} (hl : us.length = i.size) (hc : ∀ j u, us[j]? = some u → w.cell? (a.add j) = some u) : (loadVar T a).run P w = .ok (packV i.agg us) w := by
  unfold loadVar packV
  simp only [Sem.run_bind, run_isAgg h, Result.andThen_ok]
  cases ha : i.agg with
  | true =>
    simp only [if_true, Sem.run_bind, run_sizeOf h, Result.andThen_ok]
    rw [← hl, run_loadCells_list w a us hc]
    rfl
  | false =>
    have h1 := hs ha
    match us, hl with
    | [u], _ =>
      have := hc 0 u rfl
      rw [Addr.add_zero'] at this
      simp [this]
    | [], hl => simp at hl; omega
    | _ :: _ :: _, hl => simp at hl; omega
/-- The abstract value of a variable with these cells. -/
def packA (agg : Bool) (l : List AV) : Option AV := bif agg then some (.agg l) else match l with | x :: _ => some x | [] => none
theorem packA_R {ι : Nat → Value} {S : Bl} {w : World} {agg : Bool} {l : List AV} {us : List Value} {x : AV} (h : AVRs ι S w l us) (hx : packA agg l = some x) : AVR ι S w x (packV agg us) := by
  cases agg with
  | true =>
    simp only [packA, cond_true] at hx
    cases hx
    exact ⟨us, rfl, h⟩
  | false =>
    simp only [packA, cond_false] at hx
    cases l with
    | nil => cases hx
    | cons y l =>
      cases hx
      simp only [AVRs] at h
      obtain ⟨u, r, rfl, h1, _⟩ := h
      exact h1

/-- The results' values. -/
def ResA (P : Program) (σ : VS) : List ResultVar → List AV → Prop
  | [], l => l = []
  | .tmp n :: rs, l => ∃ x l', l = x :: l' ∧ look σ.t n = some x ∧ ResA P σ rs l'
  | .cell a T :: rs, l => ∃ x l' g T' cs i, l = x :: l' ∧ look σ.t a = some (.ptr g 0) ∧ look σ.r g = some (.box T' cs) ∧ tyI P T = some i ∧ i.size = cs.length ∧ (i.agg = false → i.size = 1) ∧ packA i.agg cs = some x ∧ ResA P σ rs l'
def oneA : List AV → AV
  | [x] => x
  | l => .tup l

theorem box_cells {r : List (Nat × RK)} {ι : Nat → Value} {F : Nat → Bl} {S : Bl} {w : World} (h : HeapSim r ι F S w) {g o n : Nat} {T : TypeId} {l : List AV} (hg : look r g = some (.box T l)) : ∃ b us, ι g = .pointer (some ⟨b, 0, none⟩) ∧ AVRs ι S w ((l.drop o).take n) us ∧ (∀ j u, us[j]? = some u → w.cell? ((⟨b, o, none⟩ : Addr).add j) = some u) ∧ (o + n ≤ l.length → us.length = n) := by
  obtain ⟨b, h1, h2, cs, h3, h4⟩ := h.bx g T l hg
  refine ⟨b, (cs.toList.drop o).take n, h1, (h4.drop o).take n, fun j u hu => ?_, fun hle => ?_⟩
  · rw [Addr.add_lit, cell_of_row w b _ cs T (0, 0) h3, ← Array.getElem?_toList]
    rw [List.getElem?_take] at hu
    split at hu
    · rwa [List.getElem?_drop] at hu
    · cases hu
  · have := h4.length
    simp only [List.length_take, List.length_drop]
    omega

def resF (tmps : Array Value) : ResultVar → Go.Sem Value
  | .tmp t => pure (tmps.getD t undef)
  | .cell a t => do loadVar t (← asAddr (tmps.getD a undef))
theorem resA_run {P : Program} {σ : VS} {ι : Nat → Value} {F : Nat → Bl} {S : Bl} {w : World} {tmps : Array Value} (hs : HeapSim σ.r ι F S w) (ht : ∀ n x, look σ.t n = some x → ∃ u, tmps[n]? = some u ∧ AVR ι S w x u) : ∀ {rs : List ResultVar} {l : List AV}, ResA P σ rs l →
    ∃ us : List Value, (rs.mapM (resF tmps)).run P w = Result.ok us w ∧ AVRs ι S w l us
  | [], l, h => by
    simp only [ResA] at h
    subst h
    exact ⟨[], rfl, rfl⟩
  | .tmp n :: rs, l, h => by
    obtain ⟨x, l', rfl, h1, h2⟩ := h
    obtain ⟨us, h3, h4⟩ := resA_run hs ht h2
    obtain ⟨u, h5, h6⟩ := ht n x h1
    refine ⟨u :: us, ?_, u, us, rfl, h6, h4⟩
    have e : tmps.getD n undef = u := by rw [Array.getD_eq_getD_getElem?, h5]; rfl
    rw [List.mapM_cons]
    simp only [resF, Sem.run_bind, Sem.run_pure, Result.andThen_ok, h3, e]
  | .cell a T :: rs, l, h => by
    obtain ⟨x, l', g, T', cs, i, rfl, h1, hg, hi, hsz, h1c, hp, h2⟩ := h
    obtain ⟨us, h3, h4⟩ := resA_run hs ht h2
    obtain ⟨u, h5, h6⟩ := ht a _ h1
    obtain ⟨b, vs, hb, hv, hc, hl⟩ := box_cells hs (o := 0) (n := cs.length) hg
    simp only [AVR] at h6
    obtain ⟨b', hb', rfl⟩ := h6
    rw [hb] at hb'
    obtain rfl : b = b' := by simpa [baseOf] using hb'
    have hl' := hl (by omega)
    rw [List.drop_zero, List.take_length] at hv
    refine ⟨packV i.agg vs :: us, ?_, _, us, rfl, packA_R hv hp, h4⟩
    have e : tmps.getD a undef = .pointer (some ⟨b, 0, none⟩) := by rw [Array.getD_eq_getD_getElem?, h5]; rfl
    rw [List.mapM_cons]
    have hld := run_loadVar hi h1c (w := w) (a := ⟨b, 0, none⟩) (us := vs) (by omega) hc
    simp only [resF, Sem.run_bind, Sem.run_pure, Result.andThen_ok, e, asAddr, hld, h3]

theorem run_ret {C : Cx} {k : List Item} {σ : VS} (m : Nat → Nat) (l : List AV) (hf : C.P.funcs[C.f]? = some C.fn) (hl : ResA C.P σ C.fn.results.toList l) (hrv : oneA l = C.rv.ren m) (hk : KeepM m C.r0) (hr : WkR σ.r m C.r1) (hn : nodupB (idsM m C.r1) = true) : Run C (.code .ret :: k) σ := .mk fun a w hs => by
  obtain ⟨ι, F, S, hA⟩ := hs
  obtain ⟨us, h1, h2⟩ := resA_run hA.sw.hs hA.ts hl
  have key : ∃ u, (results C.fn a.tmps).run C.P w = .ok u w ∧ AVR ι S w (oneA l) u := by
    have hm : (C.fn.results.mapM (resF a.tmps)).run C.P w = Result.ok us.toArray w := by
      rw [Array.mapM_eq_mapM_toList]
      simp only [Sem.run_map, h1, Result.andThen_ok]
    refine ⟨_, by
      have he : results C.fn a.tmps = (do let vs ← C.fn.results.mapM (resF a.tmps); pure (if h : vs.size = 1 then vs[0] else .tuple vs)) := by
        unfold results
        congr 1
      rw [he, Sem.run_bind, hm, Result.andThen_ok]
      rfl, ?_⟩
    have hlen := h2.length
    match l, us, h2, hlen with
    | [x], [u], h2, _ =>
      simp only [AVRs] at h2
      obtain ⟨u', r, e, h3, _⟩ := h2
      cases e
      simpa [oneA] using h3
    | [], [], h2, _ => exact ⟨[], by simp, h2⟩
    | x :: y :: l, u :: v :: us, h2, _ => exact ⟨u :: v :: us, by simp, h2⟩
    | [x], [], _, h => simp at h
    | [x], _ :: _ :: _, _, h => simp at h
    | [], _ :: _, _, h => simp at h
    | _ :: _ :: _, [], _, h => simp at h
    | _ :: _ :: _, [_], _, h => simp at h
  obtain ⟨u, h3, h4⟩ := key
  intro b cs hbf hbk
  refine ⟨.returned u, w, { b.at a (.code .ret :: k) with mode := .returning }, ?_, .one step_ret, hbf, rfl, hA.df, hbk, C.fn, by show C.P.funcs[b.fn]? = _; rw [hbf]; exact hf, h3⟩
  rw [hrv] at h4
  refine ⟨fun g => ι (m g), fun g => F (m g), S, u, rfl, hA.sw.hs.ren hr hn, AVR.ren.1 h4, hA.sw.fut, fun g x hg hx => ?_, hA.sw.but, hA.sw.sb, fun g x hg hx => hA.sw.own _ _ (hr.look hg) (by rw [RK.live_ren]; exact hx)⟩
  show ι (m g) = C.ι0 g
  rw [hk.look hg]; exact hA.sw.keep g x hg hx
end Go.Proofs.Ytjkidecaciomgaa
/- Appending: onto a row of the call's own, whatever the source (after the kit's small words for memory, turned for these claims). -/
namespace Go.Proofs.Ytjkidecaciomgaa
set_option linter.unusedVariables false
set_option linter.unusedSimpArgs false
open Go.RowKit

def Reads (w : World) (B size : Nat) (A : Option Addr) (n : Nat) (xs : List Value) : Prop :=
  xs.length = n * size ∧ (0 < n → ∃ ad, A = some ad ∧ ad.block < B ∧ ∀ j u, xs[j]? = some u → w.cell? (ad.add j) = some u)

section
variable {w w' : World} {B B' size n : Nat} {A : Option Addr} {xs : List Value}
theorem Reads.none_ : Reads w B size A 0 [] := ⟨by simp, fun h => absurd h (by omega)⟩
theorem Reads.at_ {k : Nat} (h : Reads w B 1 A n xs) (hk : k < n) : ∃ ad u, A = some ad ∧ ad.block < B ∧ xs[k]? = some u ∧ w.cell? (ad.add k) = some u := by
  obtain ⟨ad, e, hb, hc⟩ := h.2 (by omega)
  have hl : k < xs.length := by have := h.1; omega
  exact ⟨ad, xs[k], e, hb, List.getElem?_eq_getElem hl, hc k _ (List.getElem?_eq_getElem hl)⟩
theorem Reads.keep (h : Reads w B size A n xs) (hk : ∀ p : Addr, p.block < B → w'.cell? p = w.cell? p) : Reads w' B size A n xs :=
  ⟨h.1, fun hn => by
    obtain ⟨ad, e, hb, hc⟩ := h.2 hn
    exact ⟨ad, e, hb, fun j u hu => (hk _ (by rw [block_of_add]; exact hb)).trans (hc j u hu)⟩⟩
theorem Reads.more (h : Reads w B size A n xs) (hB : B ≤ B') : Reads w B' size A n xs :=
  ⟨h.1, fun hn => by
    obtain ⟨ad, e, hb, hc⟩ := h.2 hn
    exact ⟨ad, e, by omega, hc⟩⟩
theorem Reads.below (h : Reads w B size A n xs) (hb : Below B w w') : Reads w' B size A n xs := h.keep fun _ hp => hb.cell hp
theorem Reads.drew (h : Reads w B size A n xs) : Reads w.drew B size A n xs := h
theorem Reads.drewN (h : Reads w B size A n xs) (k : Nat) : Reads (w.drewN k) B size A n xs := h
theorem Reads.alloc (h : Reads w B size A n xs) (hB : B ≤ w.heap.size) (o : Obj) : Reads (w.alloc o) B size A n xs := h.keep fun p hp => World.cell?_alloc_lt w o p (by omega)
theorem Reads.setCell (h : Reads w B size A n xs) {p : Addr} (hB : B ≤ p.block) (u : Value) : Reads (w.setCell p u) B size A n xs :=
  h.keep fun q hq => World.cell?_setCell_other w p q u (fun e => by subst e; omega)
theorem Reads.grown (h : Reads w B size A n xs) {row : Option Nat} (hg : w.grownBy w' row) (hB : B ≤ w.heap.size) (hr : ∀ g, row = some g → B ≤ g) : Reads w' B size A n xs :=
  h.keep fun p hp => World.cell?_of_block (hg.block p.block (by omega) (fun e => by have := hr _ e.symm; omega))
theorem Reads.cut (h : Reads w B size A n xs) {k cap : Nat} (hk : k ≤ n) (hc : n ≤ cap) :
    Reads w B size (if cap = k then A else A.map (·.add (k * size))) (n - k) (xs.drop (k * size)) := by
  refine ⟨by rw [List.length_drop, h.1, Nat.sub_mul], fun hn => ?_⟩
  obtain ⟨ad, rfl, hb, hcell⟩ := h.2 (by omega)
  rw [if_neg (by omega)]
  refine ⟨ad.add (k * size), rfl, by rw [block_of_add]; exact hb, fun j u hu => ?_⟩
  rw [add_of_add]
  exact hcell _ u (by rw [← hu, List.getElem?_drop])
theorem Reads.of_own {base : Nat} {e : TypeId} {c : Nat} (h : w.ownsRow base e size (.slice A n c) n xs) : Reads w w.heap.size size A n xs := by
  refine ⟨h.1, fun hn => ?_⟩
  obtain ⟨g, cap, hv, _, hlt⟩ := h.form hn
  have hA : A = some ⟨g, 0, none⟩ := by injection hv
  subst hA
  exact ⟨_, rfl, hlt, h.cells (g := g) rfl⟩
end

section
variable {P : Program} (w : World)

theorem run_append_of_nil (base : Nat) (t ty e : TypeId) (i : TypeInfo) (size : Nat) (ht : P.underlying t = some (.slice e)) (hi : P.info? e = some i)
    (v : Value) (n : Nat) (xs : List Value) (hown : w.ownsRow base e size v n xs) (c : Nat) : (Builtin.append_ #[t, t] ty #[v, .slice none 0 c]).run P w = .ok v w := by
  rcases hown.2 with ⟨rfl, rfl⟩ | ⟨g, cap, cur, rfl, _, _, hnc, _⟩
  · simp [Builtin.append_, run_underlying ht, sizeOf, typeInfo, hi, Builtin.lenOf, Builtin.firstCells]
  · simp [Builtin.append_, run_underlying ht, sizeOf, typeInfo, hi, Builtin.lenOf, Builtin.firstCells, hnc, storeCells]

theorem run_append_any (base : Nat) (t ty e : TypeId) (i : TypeInfo) (z : Value) (size bytes : Nat) (ht : P.underlying t = some (.slice e)) (hi : P.info? e = some i) (hz : i.zero = some z)
    (hsize : i.size = size) (hby : i.bytes = bytes) (hzs : z.cells.size = size) (hsz : 0 < size)
    (v : Value) (n : Nat) (xs : List Value) (hown : w.ownsRow base e size v n xs)
    (B : Nat) (A : Option Addr) (m c : Nat) (news : List Value) (hr : Reads w B size A m news) (h1 : ∀ u ∈ news, u.oneCell' = true)
    (h63 : n + m ≤ maxLen) (hbytes : (n + m) * bytes ≤ 140737488355328) (hbase : base ≤ w.heap.size) :
    ∃ v' w', (Builtin.append_ #[t, t] ty #[v, .slice A m c]).run P w = .ok v' w' ∧ w'.ownsRow base e size v' (n + m) (xs ++ news) ∧ w.grownBy w' v.ownBlock ∧
      (v'.ownBlock = v.ownBlock ∨ v'.ownBlock = some w.heap.size) := by
  rcases A with _ | ad
  · have hm : m = 0 := by
      rcases Nat.eq_zero_or_pos m with h0 | h0
      · exact h0
      · obtain ⟨ad, h, _⟩ := hr.2 h0
        cases h
    subst hm
    have hn : news = [] := List.eq_nil_of_length_eq_zero (by simpa using hr.1)
    subst hn
    exact ⟨v, w, run_append_of_nil w base t ty e i size ht hi v n xs hown c, by simpa using hown, World.grownBy.refl w _, .inl rfl⟩
  · have hcells : ∀ j u, news[j]? = some u → w.cell? (ad.add j) = some u := by
      intro j u hu
      rcases Nat.eq_zero_or_pos m with h0 | h0
      · subst h0
        have hn : news = [] := List.eq_nil_of_length_eq_zero (by simpa using hr.1)
        subst hn
        simp at hu
      · obtain ⟨ad', h, _, hc⟩ := hr.2 h0
        injection h with h
        subst h
        exact hc j u hu
    obtain ⟨v', w', hrun, h2, h3, _, h5⟩ := run_append_own_at (P := P) w base t ty e i z size bytes ht hi hz hsize hby hzs hsz v n xs hown ad m c news hr.1 hcells h1 h63 hbytes hbase
    exact ⟨v', w', hrun, h2, h3, h5⟩

theorem wp_append_any {o : Oper} {a : Act} {K : Act → World → Prop} {Q : Exit → Act → World → Prop} (s x : Operand) (t : TypeId)
    (ho : o.op = .call { callee := .builtin .append, args := #[s, x], argTypes := #[t, t] })
    (base : Nat) (e : TypeId) (i : TypeInfo) (z : Value) (size bytes : Nat) (ht : P.underlying t = some (.slice e)) (hi : P.info? e = some i) (hz : i.zero = some z)
    (hsize : i.size = size) (hby : i.bytes = bytes) (hzs : z.cells.size = size) (hsz : 0 < size)
    (v : Value) (n : Nat) (xs : List Value) (hs : a.eval s = v) (hown : w.ownsRow base e size v n xs)
    (B : Nat) (A : Option Addr) (m c : Nat) (news : List Value) (hx : a.eval x = .slice A m c) (hr : Reads w B size A m news) (h1 : ∀ u ∈ news, u.oneCell' = true)
    (h63 : n + m ≤ maxLen) (hbytes : (n + m) * bytes ≤ 140737488355328) (hbase : base ≤ w.heap.size)
    (h : ∀ v' w', w'.ownsRow base e size v' (n + m) (xs ++ news) → w.grownBy w' v.ownBlock → (v'.ownBlock = v.ownBlock ∨ v'.ownBlock = some w.heap.size) → K (a.put o.dst v') w') : o.wp P a w K Q := by
  obtain ⟨v', w', hrun, h2, h3, h4⟩ := run_append_any (P := P) w base t o.type e i z size bytes ht hi hz hsize hby hzs hsz v n xs hown B A m c news hr h1 h63 hbytes hbase
  unfold Oper.wp execOp
  simp only [ho, resolve, invoke, builtin, Sem.run_bind, Sem.run_pure, Result.andThen_ok, List.map_toArray, List.map_cons, List.map_nil, hs, hx, hrun]
  exact h v' w' h2 h3 h4

theorem wpList_append_any {ops : Array Oper} {rest : List Oper} {o : Oper} {a : Act} {Q : Exit → Act → World → Prop} (hgd : o.guard = none) (s x : Operand) (t : TypeId)
    (ho : o.op = .call { callee := .builtin .append, args := #[s, x], argTypes := #[t, t] })
    (base : Nat) (e : TypeId) (i : TypeInfo) (z : Value) (size bytes : Nat) (ht : P.underlying t = some (.slice e)) (hi : P.info? e = some i) (hz : i.zero = some z)
    (hsize : i.size = size) (hby : i.bytes = bytes) (hzs : z.cells.size = size) (hsz : 0 < size)
    (v : Value) (n : Nat) (xs : List Value) (hs : a.eval s = v) (hown : w.ownsRow base e size v n xs)
    (B : Nat) (A : Option Addr) (m c : Nat) (news : List Value) (hx : a.eval x = .slice A m c) (hr : Reads w B size A m news) (h1 : ∀ u ∈ news, u.oneCell' = true)
    (h63 : n + m ≤ maxLen) (hbytes : (n + m) * bytes ≤ 140737488355328) (hbase : base ≤ w.heap.size)
    (h : ∀ v' w', w'.ownsRow base e size v' (n + m) (xs ++ news) → w.grownBy w' v.ownBlock → (v'.ownBlock = v.ownBlock ∨ v'.ownBlock = some w.heap.size) → wpList P ops Q rest (a.put o.dst v') w') : wpList P ops Q (o :: rest) a w :=
  wpList_plain hgd fun _ hK => wp_append_any w s x t ho base e i z size bytes ht hi hz hsize hby hzs hsz v n xs hs hown B A m c news hx hr h1 h63 hbytes hbase fun v' w' h2 h3 h4 => hK _ _ (h v' w' h2 h3 h4)

theorem step_append_any {ops : Array Oper} {o : Oper} {a : Act} {K : Act → World → Prop} {Q : Exit → Act → World → Prop} {E : Prop} (hgd : o.guard = none) (s x : Operand) (t : TypeId)
    (ho : o.op = .call { callee := .builtin .append, args := #[s, x], argTypes := #[t, t] })
    (base : Nat) (e : TypeId) (i : TypeInfo) (z : Value) (size bytes : Nat) (ht : P.underlying t = some (.slice e)) (hi : P.info? e = some i) (hz : i.zero = some z)
    (hsize : i.size = size) (hby : i.bytes = bytes) (hzs : z.cells.size = size) (hsz : 0 < size)
    (v : Value) (n : Nat) (xs : List Value) (hs : a.eval s = v) (hown : w.ownsRow base e size v n xs)
    (B : Nat) (A : Option Addr) (m c : Nat) (news : List Value) (hx : a.eval x = .slice A m c) (hr : Reads w B size A m news) (h1 : ∀ u ∈ news, u.oneCell' = true)
    (h63 : n + m ≤ maxLen) (hbytes : (n + m) * bytes ≤ 140737488355328) (hbase : base ≤ w.heap.size)
    (h : ∀ v' w', w'.ownsRow base e size v' (n + m) (xs ++ news) → w.grownBy w' v.ownBlock → (v'.ownBlock = v.ownBlock ∨ v'.ownBlock = some w.heap.size) → K (a.put o.dst v') w') :
    if Region.wanted o (yielded ops a.tmps) = true then Oper.wp P o a w K Q else E := by
  have hw : Region.wanted o (yielded ops a.tmps) = true := by simp [Region.wanted, hgd]
  rw [if_pos hw]
  exact wp_append_any w s x t ho base e i z size bytes ht hi hz hsize hby hzs hsz v n xs hs hown B A m c news hx hr h1 h63 hbytes hbase h
end

end Go.Proofs.Ytjkidecaciomgaa
/- VL, part 4: lists that are read, rows of the call's own; operations that make or turn resources. -/
namespace Go.Proofs.Ytjkidecaciomgaa
set_option linter.unusedVariables false
set_option linter.unusedSimpArgs false
open Go.RowKit

/-! ### Cells that are public -/
def AV.leaf : AV → Bool
  | .v x => x.oneCell'
  | .sem _ => true
  | .res _ => false
  | .ptr _ _ => false
  | .fn _ _ => false
  | .agg _ => false
  | .tup _ => false
def AV.leaves : List AV → Bool
  | [] => true
  | x :: l => and (AV.leaf x) (AV.leaves l)
theorem AV.leaves_iff : ∀ {l : List AV}, AV.leaves l = true ↔ ∀ y ∈ l, y.leaf = true
  | [] => by simp [AV.leaves]
  | x :: l => by
    simp only [AV.leaves, Bool.and_eq_true, List.mem_cons, forall_eq_or_imp]
    rw [AV.leaves_iff]
theorem AV.leaf_has {x : AV} (h : x.leaf = true) (g : Nat) : x.has g = false := by
  cases x <;> simp_all [AV.leaf, AV.has]
theorem AV.leaves_has {l : List AV} (h : AV.leaves l = true) (g : Nat) : AV.hasL g l = false := by
  induction l with
  | nil => rfl
  | cons x l ih =>
    simp only [AV.leaves, Bool.and_eq_true] at h
    simp [AV.hasL, AV.leaf_has h.1, ih h.2]
def ι0 : Nat → Value := fun _ => undef
section
variable {ι ι' : Nat → Value} {S S' : Bl} {w w' : World}
theorem AVR.leaf_one {x : AV} {u : Value} (h : AVR ι S w x u) (hx : x.leaf = true) : u.oneCell' = true := by
  cases x <;> simp_all [AV.leaf, AVR]
  rename_i p
  exact p.one h
theorem AVRs.leaf_one : ∀ {l : List AV} {us : List Value}, AVRs ι S w l us → AV.leaves l = true → ∀ u ∈ us, u.oneCell' = true
  | [], us, h, _, u, hu => by simp only [AVRs] at h; subst h; cases hu
  | x :: l, us, h, hl, u, hu => by
    simp only [AVRs] at h
    obtain ⟨u0, r, rfl, h1, h2⟩ := h
    simp only [AV.leaves, Bool.and_eq_true] at hl
    rcases List.mem_cons.1 hu with rfl | hu
    · exact h1.leaf_one hl.1
    · exact h2.leaf_one hl.2 u hu
theorem AVRs.leaf_any {l : List AV} {us : List Value} (h : AVRs ι S w l us) (hl : AV.leaves l = true) : AVRs ι' S w l us :=
  h.fut (Fut.refl _ _) fun g hg => by rw [AV.leaves_has hl] at hg; cases hg
theorem AVR.leaf_any {x : AV} {u : Value} (h : AVR ι S w x u) (hl : x.leaf = true) : AVR ι' S w x u :=
  h.fut (Fut.refl _ _) fun g hg => by rw [AV.leaf_has hl] at hg; cases hg
end

/-- How an element lies in cells. -/
structure Enc (α : Type) where
  sz : Nat
  f : α → List AV
  len : ∀ x, (f x).length = sz
  leaf : ∀ x, AV.leaves (f x) = true
def Enc.all {α : Type} (E : Enc α) (xs : List α) : List AV := xs.flatMap E.f
section
variable {α : Type} {E : Enc α}
theorem leaves_append : ∀ {l l' : List AV}, AV.leaves l = true → AV.leaves l' = true → AV.leaves (l ++ l') = true
  | [], l', _, h => h
  | x :: l, l', h, h' => by
    simp only [AV.leaves, Bool.and_eq_true, List.cons_append] at h ⊢
    exact ⟨h.1, leaves_append h.2 h'⟩
theorem Enc.all_leaf (E : Enc α) : ∀ xs : List α, AV.leaves (E.all xs) = true
  | [] => rfl
  | x :: xs => by
    rw [Enc.all, List.flatMap_cons]
    exact leaves_append (E.leaf x) (E.all_leaf xs)
theorem Enc.all_len (E : Enc α) : ∀ xs : List α, (E.all xs).length = xs.length * E.sz
  | [] => by simp [Enc.all]
  | x :: xs => by
    rw [Enc.all, List.flatMap_cons, List.length_append, E.len, List.length_cons, Nat.add_mul, Nat.one_mul]
    have := E.all_len xs
    rw [Enc.all] at this
    omega
theorem Enc.all_append (E : Enc α) (xs ys : List α) : E.all (xs ++ ys) = E.all xs ++ E.all ys := by simp [Enc.all]
theorem Enc.all_at (E : Enc α) : ∀ {xs : List α} {i : Nat} {x : α}, xs[i]? = some x → ((E.all xs).drop (i * E.sz)).take E.sz = E.f x
  | [], i, x, h => by simp at h
  | y :: xs, 0, x, h => by
    cases h
    rw [Enc.all, List.flatMap_cons, Nat.zero_mul, List.drop_zero, List.take_append_of_le_length (by rw [E.len]; exact Nat.le_refl _), List.take_of_length_le (by rw [E.len]; exact Nat.le_refl _)]
  | y :: xs, i + 1, x, h => by
    rw [Enc.all, List.flatMap_cons, show (i + 1) * E.sz = (E.f y).length + i * E.sz by rw [E.len y, Nat.add_mul]; omega, List.drop_length_add_append]
    exact E.all_at (by simpa using h)
theorem Enc.all_set (E : Enc α) : ∀ {xs : List α} {i : Nat} {x : α}, i < xs.length → E.all (xs.set i x) = (E.all xs).take (i * E.sz) ++ E.f x ++ (E.all xs).drop ((i + 1) * E.sz)
  | [], i, x, h => by simp at h
  | y :: xs, 0, x, h => by
    simp only [List.set_cons_zero, Enc.all, List.flatMap_cons, Nat.zero_mul, List.take_zero, List.nil_append, Nat.zero_add, Nat.one_mul]
    rw [List.drop_append_of_le_length (by rw [E.len]; exact Nat.le_refl _), List.drop_of_length_le (by rw [E.len]; exact Nat.le_refl _), List.nil_append]
  | y :: xs, i + 1, x, h => by
    have ih := E.all_set (xs := xs) (i := i) (x := x) (by simpa using h)
    simp only [Enc.all] at ih
    simp only [List.set_cons_succ, Enc.all, List.flatMap_cons, ih]
    have hl := E.len y
    have e1 : (i + 1) * E.sz = (E.f y).length + i * E.sz := by rw [hl, Nat.add_mul]; omega
    have e2 : (i + 1 + 1) * E.sz = (E.f y).length + (i + 1) * E.sz := by rw [hl, Nat.add_mul (i + 1)]; omega
    rw [e2, e1, List.take_length_add_append, List.drop_length_add_append]
    rw [show (E.f y).length + i * E.sz = (i + 1) * E.sz from e1.symm]
    simp
end

def RowAt (w : World) (S : Bl) (A : Option Addr) (l : List AV) : Prop :=
  l = [] ∨ ∃ b off, A = some ⟨b, off, none⟩ ∧ S b ∧ ∃ us, AVRs ι0 S w l us ∧ ∀ j u, us[j]? = some u → w.cell? ((⟨b, off, none⟩ : Addr).add j) = some u
theorem cell_fut {w w' : World} {S : Bl} (hw : ∀ k, S k → k < w.heap.size → w'.heap[k]? = w.heap[k]?) {b off j : Nat} {u : Value} (hb : S b) (h : w.cell? ((⟨b, off, none⟩ : Addr).add j) = some u) : w'.cell? ((⟨b, off, none⟩ : Addr).add j) = some u := by
  have hlt := World.block_lt_of_cell? w _ h
  rw [block_of_add] at hlt
  rw [World.cell?_of_block (w := w) (by rw [block_of_add]; exact hw b hb hlt)]
  exact h
theorem RowAt.fut {w w' : World} {S S' : Bl} {A : Option Addr} {l : List AV} (hm : ∀ k, S k → S' k) (hw : ∀ k, S k → k < w.heap.size → w'.heap[k]? = w.heap[k]?) (h : RowAt w S A l) : RowAt w' S' A l := by
  rcases h with h | ⟨b, off, hA, hb, us, h1, h2⟩
  · exact .inl h
  · exact .inr ⟨b, off, hA, hm b hb, us, h1.fut ⟨hm, hw⟩ (fun _ _ => rfl), fun j u hu => cell_fut hw hb (h2 j u hu)⟩
/-- A slice that reads as a list. -/
def listS {α : Type} (E : Enc α) (xs : List α) : Sem where
  R := fun w S v => ∃ A c, v = .slice A xs.length c ∧ xs.length ≤ c ∧ RowAt w S A (E.all xs)
  one := by
    rintro w S v ⟨A, c, rfl, _⟩
    rfl
  fut := by
    rintro w w' S S' v hm hw ⟨A, c, rfl, hl, h⟩
    exact ⟨A, c, rfl, hl, h.fut hm hw⟩
/-- The address of cells. -/
def adrS (l : List AV) : Sem where
  R := fun w S v => ∃ b off, v = .pointer (some ⟨b, off, none⟩) ∧ S b ∧ ∃ us, AVRs ι0 S w l us ∧ ∀ j u, us[j]? = some u → w.cell? ((⟨b, off, none⟩ : Addr).add j) = some u
  one := by
    rintro w S v ⟨b, off, rfl, _⟩
    rfl
  fut := by
    rintro w w' S S' v hm hw ⟨b, off, rfl, hb, us, h1, h2⟩
    exact ⟨b, off, rfl, hm b hb, us, h1.fut ⟨hm, hw⟩ (fun _ _ => rfl), fun j u hu => cell_fut hw hb (h2 j u hu)⟩
theorem ownBlock_lt {w : World} {b e sz n k : Nat} {v : Value} {us : List Value} (h : w.ownsRow b e sz v n us) (hk : v.ownBlock = some k) : k < w.heap.size := (h.lt k hk).2
theorem ownsRow_move {w w' : World} {b e sz n : Nat} {v : Value} {us : List Value} (h : w.ownsRow b e sz v n us) (hm : ∀ k, v.ownBlock = some k → w'.heap[k]? = w.heap[k]?) : w'.ownsRow b e sz v n us := by
  refine ⟨h.1, ?_⟩
  rcases h.2 with h2 | ⟨g, cap, cur, rfl, hg, hh, r⟩
  · exact .inl h2
  · exact .inr ⟨g, cap, cur, rfl, hg, (hm g (by simp [Value.ownBlock])).trans hh, r⟩
/-- A row of the call's own. -/
def ownS {α : Type} (e : TypeId) (E : Enc α) (xs : List α) : Res where
  H := fun w S F v => (∃ us, w.ownsRow 0 e E.sz v xs.length us ∧ AVRs ι0 S w (E.all xs) us) ∧ ∀ k, F k ↔ v.ownBlock = some k
  one := by
    rintro w S F v ⟨⟨us, h, _⟩, _⟩
    rcases h.2 with ⟨rfl, _⟩ | ⟨g, cap, cur, rfl, _⟩ <;> rfl
  bnd := by
    rintro w S F v ⟨⟨us, h, _⟩, hF⟩ k hk
    exact ownBlock_lt h ((hF k).1 hk)
  fut := by
    rintro w w' S S' F v hm hw ⟨⟨us, h1, h2⟩, hF⟩
    refine ⟨⟨us, ownsRow_move h1 fun k hk => hw k (.inr ((hF k).2 hk)) (ownBlock_lt h1 hk), h2.fut ⟨hm, fun k hk hl => hw k (.inl hk) hl⟩ (fun _ _ => rfl)⟩, hF⟩
theorem ownS_nil {α : Type} (e : TypeId) (E : Enc α) (w : World) (S : Bl) : (ownS e E ([] : List α)).H w S (fun _ => False) (.slice none 0 0) := ⟨⟨[], World.ownsRow_nil _ _ _ _, by simp [Enc.all, AVRs]⟩, fun k => by simp [Value.ownBlock]⟩
/-- What is owned may be read. -/
theorem ownS_list {α : Type} {e : TypeId} {E : Enc α} {xs : List α} {w : World} {S S' F : Bl} {v : Value} (h : (ownS e E xs).H w S F v) (hS : ∀ k, S k → S' k) (hF : ∀ k, F k → S' k) : (listS E xs).R w S' v := by
  obtain ⟨⟨us, h1, h2⟩, h3⟩ := h
  have hb := h1
  rcases h1.2 with ⟨rfl, h0⟩ | ⟨g, cap, cur, rfl, hg, hh, hn, _⟩
  · have : xs = [] := List.eq_nil_of_length_eq_zero h0
    subst this
    exact ⟨none, 0, rfl, by simp, .inl rfl⟩
  · refine ⟨_, cap, rfl, hn, .inr ⟨g, 0, rfl, hF g ((h3 g).2 rfl), us, h2.fut ⟨hS, fun _ _ _ => rfl⟩ (fun _ _ => rfl), h1.cells (g := g) rfl⟩⟩

/-! ### New names -/
def freshR (g : Nat) : List (Nat × RK) → Bool
  | [] => true
  | p :: r => and (!(p.2.has g)) (freshR g r)
theorem freshR_look {g : Nat} : ∀ {r : List (Nat × RK)} {n : Nat} {x : RK}, freshR g r = true → look r n = some x → x.has g = false
  | [], n, x, _, h => by cases h
  | (k, y) :: r, n, x, hf, h => by
    simp only [freshR, Bool.and_eq_true, Bool.not_eq_true'] at hf
    rw [look_cons] at h
    by_cases e : k = n
    · rw [if_pos e] at h; cases h; exact hf.1
    · rw [if_neg e] at h; exact freshR_look hf.2 h
def freshT (g : Nat) : List (Nat × AV) → Bool
  | [] => true
  | p :: r => and (!(p.2.has g)) (freshT g r)
theorem freshT_look {g : Nat} : ∀ {r : List (Nat × AV)} {n : Nat} {x : AV}, freshT g r = true → look r n = some x → x.has g = false
  | [], n, x, _, h => by cases h
  | (k, y) :: r, n, x, hf, h => by
    simp only [freshT, Bool.and_eq_true, Bool.not_eq_true'] at hf
    rw [look_cons] at h
    by_cases e : k = n
    · rw [if_pos e] at h; cases h; exact hf.1
    · rw [if_neg e] at h; exact freshT_look hf.2 h
def newI (ι : Nat → Value) (g : Nat) (v : Value) : Nat → Value := fun i => if i = g then v else ι i
def newF (F : Nat → Bl) (g : Nat) (G : Bl) : Nat → Bl := fun i => if i = g then G else F i
theorem newI_same (ι : Nat → Value) (g : Nat) (v : Value) : newI ι g v g = v := by simp [newI]
theorem newI_other {ι : Nat → Value} {g i : Nat} {v : Value} (h : i ≠ g) : newI ι g v i = ι i := by simp [newI, h]
theorem newF_same (F : Nat → Bl) (g : Nat) (G : Bl) : newF F g G g = G := by simp [newF]
theorem newF_other {F : Nat → Bl} {g i : Nat} {G : Bl} (h : i ≠ g) : newF F g G i = F i := by simp [newF, h]

/-- A resource more, by the name g (in the place of whatever had it). -/
theorem SimW.add {C : Cx} {r : List (Nat × RK)} {ι : Nat → Value} {F : Nat → Bl} {S : Bl} {w : World} (h : SimW C r ι F S w) {g : Nat} {x : RK} {v : Value} {G : Bl} (hf : freshR g r = true) (h0 : look C.r0 g = none)
    (hbx : ∀ T l, x = .box T l → ∃ b, v = .pointer (some ⟨b, 0, none⟩) ∧ (∀ k, G k ↔ k = b) ∧ ∃ cs : Array Value, w.heap[b]? = some (.cells cs T (0, 0)) ∧ AVRs (newI ι g v) S w l cs.toList)
    (hob : ∀ R, x = .obj R → R.H w S G v)
    (hG : ∀ k, G k → C.w0.heap.size ≤ k ∨ C.D k) (hS : ∀ k, G k → ¬ S k) (hd : ∀ g' y, look r g' = some y → y.live = true → g' ≠ g → ∀ k, F g' k → ¬ G k) :
    SimW C ((g, x) :: r) (newI ι g v) (newF F g G) S w := by
  refine ⟨⟨fun n T l hn => ?_, fun n R hn => ?_, fun n n' y y' hn hn' hy hy' hne k hk => ?_, fun n y hn hy k hk => ?_, h.hs.bnd⟩, h.but, fun n y hn hy k hk => ?_, h.sb, h.fut, fun n y hn hy => ?_⟩
  · rw [look_cons] at hn
    by_cases e : g = n
    · subst e
      rw [if_pos rfl] at hn
      cases hn
      rw [newI_same, newF_same]
      exact hbx T l rfl
    · rw [if_neg e] at hn
      obtain ⟨b, h1, h2, cs, h3, h4⟩ := h.hs.bx n T l hn
      rw [newI_other (fun e' => e e'.symm), newF_other (fun e' => e e'.symm)]
      refine ⟨b, h1, h2, cs, h3, h4.fut (Fut.refl _ _) fun i hi => newI_other fun e' => ?_⟩
      subst e'
      have := freshR_look hf hn
      simp only [RK.has] at this
      rw [this] at hi
      cases hi
  · rw [look_cons] at hn
    by_cases e : g = n
    · subst e
      rw [if_pos rfl] at hn
      cases hn
      rw [newI_same, newF_same]
      exact hob R rfl
    · rw [if_neg e] at hn
      rw [newI_other (fun e' => e e'.symm), newF_other (fun e' => e e'.symm)]
      exact h.hs.ob n R hn
  · rw [look_cons] at hn hn'
    by_cases e : g = n
    · subst e
      rw [if_neg hne] at hn'
      rw [newF_same] at hk
      rw [newF_other (Ne.symm hne)]
      exact fun hk' => hd n' y' hn' hy' (Ne.symm hne) k hk' hk
    · rw [if_neg e] at hn
      rw [newF_other (Ne.symm e)] at hk
      by_cases e' : g = n'
      · subst e'
        rw [newF_same]
        exact hd n y hn hy (Ne.symm e) k hk
      · rw [if_neg e'] at hn'
        rw [newF_other (Ne.symm e')]
        exact h.hs.dis n n' y y' hn hn' hy hy' hne k hk
  · rw [look_cons] at hn
    by_cases e : g = n
    · subst e
      rw [newF_same] at hk
      exact hS k hk
    · rw [if_neg e] at hn
      rw [newF_other (Ne.symm e)] at hk
      exact h.hs.out n y hn hy k hk
  · rw [look_cons] at hn
    by_cases e : g = n
    · subst e
      rw [newF_same] at hk
      exact hG k hk
    · rw [if_neg e] at hn
      rw [newF_other (Ne.symm e)] at hk
      exact h.own n y hn hy k hk
  · rw [newI_other (fun e => by subst e; rw [h0] at hn; cases hn)]
    exact h.keep n y hn hy

/-- A resource is given up: its blocks may be public (P). -/
theorem SimW.drop {C : Cx} {r : List (Nat × RK)} {ι : Nat → Value} {F : Nat → Bl} {S : Bl} {w : World} (h : SimW C r ι F S w) (g : Nat) {x : RK} (hg : look r g = some x) (hx : x.live = true) : SimW C ((g, .dead) :: r) ι F (fun k => S k ∨ F g k) w := by
  have key : ∀ n y, look ((g, RK.dead) :: r) n = some y → y.live = true → n ≠ g ∧ look r n = some y := fun n y hn hy => by
    rw [look_cons] at hn
    by_cases e : g = n
    · rw [if_pos e] at hn; cases hn; cases hy
    · rw [if_neg e] at hn; exact ⟨Ne.symm e, hn⟩
  have hF : Fut S w (fun k => S k ∨ F g k) w := ⟨fun k hk => .inl hk, fun _ _ _ => rfl⟩
  refine ⟨⟨fun n T l hn => ?_, fun n R hn => ?_, fun n n' y y' hn hn' hy hy' hne k hk => h.hs.dis n n' y y' (key n y hn hy).2 (key n' y' hn' hy').2 hy hy' hne k hk, fun n y hn hy k hk hS => ?_, fun k hk => ?_⟩, h.but, fun n y hn hy k hk => h.own n y (key n y hn hy).2 hy k hk, fun k hk => ?_, ⟨fun k hk => .inl (h.fut.mono k hk), h.fut.same⟩, h.keep⟩
  · obtain ⟨b, h1, h2, cs, h3, h4⟩ := h.hs.bx n T l (key n _ hn rfl).2
    exact ⟨b, h1, h2, cs, h3, h4.fut hF fun _ _ => rfl⟩
  · exact R.fut hF.mono (fun _ _ _ => rfl) (h.hs.ob n R (key n _ hn rfl).2)
  · obtain ⟨h1, h2⟩ := key n y hn hy
    rcases hS with hS | hS
    · exact h.hs.out n y h2 hy k hk hS
    · exact h.hs.dis n g y x h2 hg hy hx h1 k hk hS
  · rcases hk with hk | hk
    · exact h.hs.bnd k hk
    · exact h.hs.lt hg hx hk
  · rcases hk with hk | hk
    · exact h.sb k hk
    · exact .inr (h.own g x hg hx k hk)

/-- An operation that makes, turns or takes resources; gs: the names that are new. -/
def OpEff (C : Cx) (r : List (Nat × RK)) (o : Oper) (rd : List (Operand × AV)) (V : AV) (r' : List (Nat × RK)) (gs : List Nat) : Prop :=
  ∀ ι F S w (ρ : Operand → Value), SimW C r ι F S w → (∀ p ∈ rd, AVR ι S w p.2 (ρ p.1)) → Does C.P (execOp ρ o) w fun u w' => ∃ ι' F' S', SimW C r' ι' F' S' w' ∧ Fut S w S' w' ∧ (∀ i, i ∉ gs → ι' i = ι i) ∧ AVR ι' S' w' V u
def freshTs (t : List (Nat × AV)) : List Nat → Bool
  | [] => true
  | g :: l => and (freshT g t) (freshTs t l)
theorem freshTs_look {t : List (Nat × AV)} : ∀ {gs : List Nat} {n g : Nat} {x : AV}, freshTs t gs = true → look t n = some x → x.has g = true → g ∉ gs
  | [], n, g, x, _, _, _ => by simp
  | i :: gs, n, g, x, hf, hx, hg => by
    simp only [freshTs, Bool.and_eq_true] at hf
    simp only [List.mem_cons, not_or]
    refine ⟨fun e => ?_, freshTs_look hf.2 hx hg⟩
    subst e
    have := freshT_look hf.1 hx
    rw [hg] at this
    cases this

section
variable {C : Cx} {k : List Item} {t : List (Nat × AV)} {r r' : List (Nat × RK)} {ops : Array Oper} {o : Oper} {rest : List Oper}
theorem runL_eff {d : Nat} {V : AV} (rd : List (Operand × AV)) (gs : List Nat) (hg : wantedA t ops o = some true) (hd : o.dst = some d) (hn : Nat.blt d C.N = true) (hr : Rd t rd) (hf : freshTs t gs = true) (h : OpEff C r o rd V r' gs) (hk : RunL C ops rest ⟨(d, V) :: t, r'⟩ k) : RunL C ops (o :: rest) ⟨t, r⟩ k := .mk fun a w hs => by
  obtain ⟨ι, F, S, hA⟩ := hs
  have hw := wantedA_of hg hA.ts
  have hdo := h ι F S w a.eval hA.sw (fun p hp => hA.ts.eval (hr.all p hp))
  refine wpList_step fun K hK => ?_
  rw [if_pos hw]
  refine Does.wp (hdo.mono fun u w' hu => ?_)
  obtain ⟨ι', F', S', h1, h2, h3, h4⟩ := hu
  refine hK _ _ (hk.go _ _ ⟨ι', F', S', h1, ?_, ?_, ?_⟩)
  · rw [hd]; exact hA.ts.put h2 (fun n x hx g hg => h3 g (freshTs_look hf hx hg)) (by rw [hA.sz]; exact Nat.le_of_ble_eq_true hn) h4
  · rw [hd]; simp [Act.put, hA.sz]
  · rw [hd]; simp [Act.put, hA.df]
theorem runL_eff0 {V : AV} (rd : List (Operand × AV)) (gs : List Nat) (hg : wantedA t ops o = some true) (hd : o.dst = none) (hr : Rd t rd) (hf : freshTs t gs = true) (h : OpEff C r o rd V r' gs) (hk : RunL C ops rest ⟨t, r'⟩ k) : RunL C ops (o :: rest) ⟨t, r⟩ k := .mk fun a w hs => by
  obtain ⟨ι, F, S, hA⟩ := hs
  have hw := wantedA_of hg hA.ts
  have hdo := h ι F S w a.eval hA.sw (fun p hp => hA.ts.eval (hr.all p hp))
  refine wpList_step fun K hK => ?_
  rw [if_pos hw]
  refine Does.wp (hdo.mono fun u w' hu => ?_)
  obtain ⟨ι', F', S', h1, h2, h3, h4⟩ := hu
  refine hK _ _ (hk.go _ _ ⟨ι', F', S', h1, ?_, ?_, ?_⟩)
  · rw [hd]; exact hA.ts.fut h2 (fun n x hx g hg => h3 g (freshTs_look hf hx hg))
  · rw [hd]; exact hA.sz
  · rw [hd]; exact hA.df
/-- nil, as a row of the call's own. -/
theorem runL_own {l : List Oper} (n g : Nat) {α : Type} (e : TypeId) (E : Enc α) (hx : look t n = some (.v (.slice none 0 0))) (hf : freshR g r = true) (hft : freshT g t = true) (h0 : look C.r0 g = none) (h : RunL C ops l ⟨(n, .res g) :: t, (g, .obj (ownS e E [])) :: r⟩ k) : RunL C ops l ⟨t, r⟩ k := .mk fun a w hs => by
  obtain ⟨ι, F, S, hA⟩ := hs
  have hw := hA.sw.add (x := .obj (ownS e E [])) (v := .slice none 0 0) (G := fun _ => False) hf h0 (fun T l he => by cases he) (fun R he => by cases he; exact ownS_nil e E w S) (fun k hk => hk.elim) (fun k hk => hk.elim) (fun _ _ _ _ _ _ _ hk => hk)
  refine h.go a w ⟨_, _, S, hw, fun m z hz => ?_, hA.sz, hA.df⟩
  rw [look_cons] at hz
  by_cases hm : n = m
  · subst hm
    rw [if_pos rfl] at hz
    cases hz
    obtain ⟨u, h1, h2⟩ := hA.ts n _ hx
    simp only [AVR] at h2
    subst h2
    exact ⟨_, h1, by simp [AVR, newI_same, Value.oneCell']⟩
  · rw [if_neg hm] at hz
    obtain ⟨u, h1, h2⟩ := hA.ts m z hz
    exact ⟨u, h1, h2.fut (Fut.refl _ _) fun i hi => newI_other fun e => by subst e; rw [freshT_look hft hz] at hi; cases hi⟩
theorem run_own (n g : Nat) {α : Type} (e : TypeId) (E : Enc α) (hx : look t n = some (.v (.slice none 0 0))) (hf : freshR g r = true) (hft : freshT g t = true) (h0 : look C.r0 g = none) (h : Run C k ⟨(n, .res g) :: t, (g, .obj (ownS e E [])) :: r⟩) : Run C k ⟨t, r⟩ := .mk fun a w hs => by
  obtain ⟨ι, F, S, hA⟩ := hs
  have hw := hA.sw.add (x := .obj (ownS e E [])) (v := .slice none 0 0) (G := fun _ => False) hf h0 (fun T l he => by cases he) (fun R he => by cases he; exact ownS_nil e E w S) (fun k hk => hk.elim) (fun k hk => hk.elim) (fun _ _ _ _ _ _ _ hk => hk)
  refine h.go a w ⟨_, _, S, hw, fun m z hz => ?_, hA.sz, hA.df⟩
  rw [look_cons] at hz
  by_cases hm : n = m
  · subst hm
    rw [if_pos rfl] at hz
    cases hz
    obtain ⟨u, h1, h2⟩ := hA.ts n _ hx
    simp only [AVR] at h2
    subst h2
    exact ⟨_, h1, by simp [AVR, newI_same, Value.oneCell']⟩
  · rw [if_neg hm] at hz
    obtain ⟨u, h1, h2⟩ := hA.ts m z hz
    exact ⟨u, h1, h2.fut (Fut.refl _ _) fun i hi => newI_other fun e => by subst e; rw [freshT_look hft hz] at hi; cases hi⟩
/-- A row of the call's own is left as it is from here on: slot n reads as the list. -/
theorem run_freeze (n g : Nat) {α : Type} {e : TypeId} {E : Enc α} {xs : List α} (hx : look t n = some (.res g)) (hg : look r g = some (.obj (ownS e E xs))) (h : Run C k ⟨(n, .sem (listS E xs)) :: t, (g, .dead) :: r⟩) : Run C k ⟨t, r⟩ := .mk fun a w hs => by
  obtain ⟨ι, F, S, hA⟩ := hs
  have hF : Fut S w (fun k => S k ∨ F g k) w := ⟨fun k hk => .inl hk, fun _ _ _ => rfl⟩
  refine h.go a w ⟨ι, F, _, hA.sw.drop g hg rfl, fun m z hz => ?_, hA.sz, hA.df⟩
  rw [look_cons] at hz
  by_cases hm : n = m
  · subst hm
    rw [if_pos rfl] at hz
    cases hz
    obtain ⟨u, h1, h2⟩ := hA.ts n _ hx
    simp only [AVR] at h2
    refine ⟨u, h1, ?_⟩
    simp only [AVR]
    rw [h2.1]
    exact ownS_list (hA.sw.hs.ob g _ hg) (fun k hk => .inl hk) (fun k hk => .inr hk)
  · rw [if_neg hm] at hz
    obtain ⟨u, h1, h2⟩ := hA.ts m z hz
    exact ⟨u, h1, h2.fut hF fun _ _ => rfl⟩
theorem runL_freeze {l : List Oper} (n g : Nat) {α : Type} {e : TypeId} {E : Enc α} {xs : List α} (hx : look t n = some (.res g)) (hg : look r g = some (.obj (ownS e E xs))) (h : RunL C ops l ⟨(n, .sem (listS E xs)) :: t, (g, .dead) :: r⟩ k) : RunL C ops l ⟨t, r⟩ k := .mk fun a w hs => by
  obtain ⟨ι, F, S, hA⟩ := hs
  have hF : Fut S w (fun k => S k ∨ F g k) w := ⟨fun k hk => .inl hk, fun _ _ _ => rfl⟩
  refine h.go a w ⟨ι, F, _, hA.sw.drop g hg rfl, fun m z hz => ?_, hA.sz, hA.df⟩
  rw [look_cons] at hz
  by_cases hm : n = m
  · subst hm
    rw [if_pos rfl] at hz
    cases hz
    obtain ⟨u, h1, h2⟩ := hA.ts n _ hx
    simp only [AVR] at h2
    refine ⟨u, h1, ?_⟩
    simp only [AVR]
    rw [h2.1]
    exact ownS_list (hA.sw.hs.ob g _ hg) (fun k hk => .inl hk) (fun k hk => .inr hk)
  · rw [if_neg hm] at hz
    obtain ⟨u, h1, h2⟩ := hA.ts m z hz
    exact ⟨u, h1, h2.fut hF fun _ _ => rfl⟩
end
end Go.Proofs.Ytjkidecaciomgaa
/- VL, part 5: the operations that leave the resources alone. -/
namespace Go.Proofs.Ytjkidecaciomgaa
set_option linter.unusedVariables false
set_option linter.unusedSimpArgs false
open Go.RowKit

theorem Does.val {P : Program} {s : Go.Sem Value} {w w' : World} {u : Value} {K : Value → World → Prop} (hr : s.run P w = .ok u w') (h : K u w') : Does P (do pure (Next.value (← s))) w K := by
  refine Does.value (v := u) (w' := w') ?_ h
  simp [hr]
theorem OpPure.here {C : Cx} {r : List (Nat × RK)} {o : Oper} {rd : List (Operand × AV)} {V : AV} (h : ∀ ι F S w (ρ : Operand → Value), SimW C r ι F S w → (∀ p ∈ rd, AVR ι S w p.2 (ρ p.1)) → ∃ u, (execOp ρ o).run C.P w = .ok (.value u) w ∧ AVR ι S w V u) : OpPure C r o rd V := fun ι F S w ρ hs hr => by
  obtain ⟨u, h1, h2⟩ := h ι F S w ρ hs hr
  exact Does.value h1 ⟨S, hs, Fut.refl _ _, h2⟩

/-- What is asked of a struct's field: where it lies, how many cells it has, whether it is of several. -/
structure FldI where
  off : Nat
  size : Nat
  agg : Bool
def fldI (P : Program) (T : TypeId) (j : Nat) : Option FldI :=
  match P.underlying T with
  | some (.struct fs) =>
    match fs[j]? with
    | some f => match tyI P f.type with
      | some i => some ⟨f.offset, i.size, i.agg⟩
      | none => none
    | none => none
  | _ => none
theorem fldI_spec {P : Program} {T : TypeId} {j : Nat} {x : FldI} (h : fldI P T j = some x) : ∃ fs f i, P.underlying T = some (.struct fs) ∧ fs[j]? = some f ∧ tyI P f.type = some i ∧ f.offset = x.off ∧ i.size = x.size ∧ i.agg = x.agg := by
  unfold fldI at h
  split at h
  · rename_i fs h1
    split at h
    · rename_i f h2
      split at h
      · rename_i i h3
        cases h
        exact ⟨fs, f, i, h1, h2, h3, rfl, rfl, rfl⟩
      · cases h
    · cases h
  · cases h
def sliceE (P : Program) (T : TypeId) : Option TypeId :=
  match P.underlying T with
  | some (.slice e) => some e
  | _ => none
theorem sliceE_spec {P : Program} {T e : TypeId} (h : sliceE P T = some e) : P.underlying T = some (.slice e) := by
  unfold sliceE at h
  split at h
  · rename_i h1; cases h; exact h1
  · cases h

section
variable {C : Cx} {r : List (Nat × RK)} {o : Oper} {x y z : Operand} {V : AV} {ty : TypeId} {g : Nat}

theorem op_move (ho : o.op = .move x) : OpPure C r o [(x, V)] V := OpPure.here fun ι F S w ρ hs hr => ⟨ρ x, by simp [execOp, ho], hr (x, V) (by simp)⟩
theorem op_assign (ho : o.op = .assign x) : OpPure C r o [(x, V)] V := OpPure.here fun ι F S w ρ hs hr => ⟨ρ x, by simp [execOp, ho], hr (x, V) (by simp)⟩
theorem op_pick_t (ho : o.op = .pick x y z) : OpPure C r o [(x, .v (.bool true)), (y, V)] V := OpPure.here fun ι F S w ρ hs hr => by
  have h1 := hr (x, .v (.bool true)) (by simp)
  simp only [AVR] at h1
  exact ⟨ρ y, by simp [execOp, ho, h1, asBool], hr (y, V) (by simp)⟩
theorem op_pick_f (ho : o.op = .pick x y z) : OpPure C r o [(x, .v (.bool false)), (z, V)] V := OpPure.here fun ι F S w ρ hs hr => by
  have h1 := hr (x, .v (.bool false)) (by simp)
  simp only [AVR] at h1
  exact ⟨ρ z, by simp [execOp, ho, h1, asBool], hr (z, V) (by simp)⟩
theorem op_extract {l : List AV} {i : Nat} (ho : o.op = .extract x i) (hi : l[i]? = some V) : OpPure C r o [(x, .tup l)] V := OpPure.here fun ι F S w ρ hs hr => by
  have h1 := hr (x, .tup l) (by simp)
  simp only [AVR] at h1
  obtain ⟨us, h1, h2⟩ := h1
  obtain ⟨u, h3, h4⟩ := h2.get hi
  refine ⟨u, ?_, h4⟩
  have h3' : us.toArray[i]? = some u := by simpa using h3
  simp [execOp, ho, h1, Instr.extract, h3']
theorem op_not {b : Bool} (ho : o.op = .unOp .not ty x) : OpPure C r o [(x, .v (.bool b))] (.v (.bool (!b))) := OpPure.here fun ι F S w ρ hs hr => by
  have h1 := hr (x, .v (.bool b)) (by simp)
  simp only [AVR] at h1
  exact ⟨.bool (!b), by simp [execOp, ho, h1, Op.unary], by simp [AVR]⟩

section ints
variable {k : IntKind} {a b : Int} {ty' : TypeId}
theorem op_bin2 {op : BinOp} {u v q : Value} (ho : o.op = .binOp op ty x y ty') (hg : eqGuard op ty x y u v = pure ()) (hb : ∀ w, (binOp op ty u v).run C.P w = .ok q w) : OpPure C r o [(x, .v u), (y, .v v)] (.v q) := OpPure.here fun ι F S w ρ hs hr => by
  have h1 := hr (x, .v u) (by simp)
  have h2 := hr (y, .v v) (by simp)
  simp only [AVR] at h1 h2
  exact ⟨q, by simp [execOp, ho, h1, h2, hg, hb], by simp [AVR]⟩
theorem op_add (ho : o.op = .binOp .add ty x y ty') : OpPure C r o [(x, .v (.int k a)), (y, .v (.int k b))] (.v (.int k (k.wrap (a + b)))) := op_bin2 ho (eqGuard_at_int _ _ _ _ _ _ _) fun w => by simp [go_sem]
theorem op_sub (ho : o.op = .binOp .sub ty x y ty') : OpPure C r o [(x, .v (.int k a)), (y, .v (.int k b))] (.v (.int k (k.wrap (a - b)))) := op_bin2 ho (eqGuard_at_int _ _ _ _ _ _ _) fun w => by simp [go_sem]
theorem op_mul (ho : o.op = .binOp .mul ty x y ty') : OpPure C r o [(x, .v (.int k a)), (y, .v (.int k b))] (.v (.int k (k.wrap (a * b)))) := op_bin2 ho (eqGuard_at_int _ _ _ _ _ _ _) fun w => by simp [go_sem]
theorem op_eql (ho : o.op = .binOp .eql ty x y ty') : OpPure C r o [(x, .v (.int k a)), (y, .v (.int k b))] (.v (.bool (a == b))) := op_bin2 ho (eqGuard_at_int _ _ _ _ _ _ _) fun w => by simp [go_sem]
theorem op_neq (ho : o.op = .binOp .neq ty x y ty') : OpPure C r o [(x, .v (.int k a)), (y, .v (.int k b))] (.v (.bool (a != b))) := op_bin2 ho (eqGuard_at_int _ _ _ _ _ _ _) fun w => by simp [go_sem]
theorem op_lss (ho : o.op = .binOp .lss ty x y ty') : OpPure C r o [(x, .v (.int k a)), (y, .v (.int k b))] (.v (.bool (decide (a < b)))) := op_bin2 ho (eqGuard_at_int _ _ _ _ _ _ _) fun w => by simp [go_sem]
theorem op_leq (ho : o.op = .binOp .leq ty x y ty') : OpPure C r o [(x, .v (.int k a)), (y, .v (.int k b))] (.v (.bool (decide (a ≤ b)))) := op_bin2 ho (eqGuard_at_int _ _ _ _ _ _ _) fun w => by simp [go_sem]
theorem op_gtr (ho : o.op = .binOp .gtr ty x y ty') : OpPure C r o [(x, .v (.int k a)), (y, .v (.int k b))] (.v (.bool (decide (a > b)))) := op_bin2 ho (eqGuard_at_int _ _ _ _ _ _ _) fun w => by simp [go_sem]
theorem op_geq (ho : o.op = .binOp .geq ty x y ty') : OpPure C r o [(x, .v (.int k a)), (y, .v (.int k b))] (.v (.bool (decide (a ≥ b)))) := op_bin2 ho (eqGuard_at_int _ _ _ _ _ _ _) fun w => by simp [go_sem]
theorem op_neg (ho : o.op = .unOp .neg ty x) : OpPure C r o [(x, .v (.int k a))] (.v (.int k (k.wrap (-a)))) := OpPure.here fun ι F S w ρ hs hr => by
  have h1 := hr (x, .v (.int k a)) (by simp)
  simp only [AVR] at h1
  exact ⟨.int k (k.wrap (-a)), by simp [execOp, ho, h1, Op.unary, go_sem], by simp [AVR]⟩
theorem op_quo (ho : o.op = .binOp .quo ty x y ty') (ha : 0 ≤ a) (hb : 0 < b) : OpPure C r o [(x, .v (.int k a)), (y, .v (.int k b))] (.v (.int k (k.wrap (a / b)))) := op_bin2 ho (eqGuard_at_int _ _ _ _ _ _ _) fun w => by
  have : b ≠ 0 := by omega
  simp [go_sem, this, Int.tdiv_eq_ediv_of_nonneg ha]
theorem op_rem (ho : o.op = .binOp .rem ty x y ty') (ha : 0 ≤ a) (hb : 0 < b) : OpPure C r o [(x, .v (.int k a)), (y, .v (.int k b))] (.v (.int k (a % b))) := op_bin2 ho (eqGuard_at_int _ _ _ _ _ _ _) fun w => by
  have : b ≠ 0 := by omega
  simp [go_sem, this, Int.tmod_eq_emod_of_nonneg ha]
end ints
section others
variable {ty' : TypeId}
theorem op_eql_bool {a b : Bool} (ho : o.op = .binOp .eql ty x y ty') (ht : C.P.underlying ty = some .bool) : OpPure C r o [(x, .v (.bool a)), (y, .v (.bool b))] (.v (.bool (a == b))) := op_bin2 ho (eqGuard_at_bool _ _ _ _ _ _) fun w => run_eql_bool w ty a b ht
theorem op_neq_bool {a b : Bool} (ho : o.op = .binOp .neq ty x y ty') (ht : C.P.underlying ty = some .bool) : OpPure C r o [(x, .v (.bool a)), (y, .v (.bool b))] (.v (.bool (a != b))) := op_bin2 ho (eqGuard_at_bool _ _ _ _ _ _) fun w => run_neq_bool w ty a b ht
theorem bytes_beq (a b : ByteArray) : (a.toList == b.toList) = decide (a = b) := by
  rw [Bool.eq_iff_iff, beq_iff_eq, decide_eq_true_eq]
  refine ⟨fun h => ?_, fun h => by rw [h]⟩
  rw [ByteArray.toList_eq, ByteArray.toList_eq] at h
  exact ByteArray.ext (Array.ext' h)
theorem op_eql_str {a b : ByteArray} (ho : o.op = .binOp .eql ty x y ty') : OpPure C r o [(x, .v (.string a)), (y, .v (.string b))] (.v (.bool (decide (a = b)))) := op_bin2 ho (eqGuard_at_string _ _ _ _ _ _) fun w => by rw [binOp_string_eql, bytes_beq]; rfl
theorem op_neq_str {a b : ByteArray} (ho : o.op = .binOp .neq ty x y ty') : OpPure C r o [(x, .v (.string a)), (y, .v (.string b))] (.v (.bool (!decide (a = b)))) := op_bin2 ho (eqGuard_at_string _ _ _ _ _ _) fun w => by rw [binOp_string_neq, bytes_beq]; rfl
theorem op_add_str {a b : ByteArray} (ho : o.op = .binOp .add ty x y ty') (h : a.size + b.size ≤ 9223372036854775807) : OpPure C r o [(x, .v (.string a)), (y, .v (.string b))] (.v (.string (a ++ b))) := op_bin2 ho (eqGuard_at_string _ _ _ _ _ _) fun w => by rw [binOp_string_add]; exact run_string_add_sum w a b h

/-- A pointer that isn't nil. -/
def NN (r : List (Nat × RK)) (X : AV) : Prop := ∀ ι F S w u, HeapSim r ι F S w → AVR ι S w X u → ∃ a, u = .pointer (some a)
theorem NN.ptr {g off : Nat} : NN r (.ptr g off) := fun ι F S w u _ h => by
  simp only [AVR] at h
  obtain ⟨b, _, h⟩ := h
  exact ⟨_, h⟩
theorem NN.adr {l : List AV} : NN r (.sem (adrS l)) := fun ι F S w u _ h => by
  simp only [AVR] at h
  obtain ⟨b, off, h, _⟩ := h
  exact ⟨_, h⟩
theorem NN.box {T : TypeId} {l : List AV} (hg : look r g = some (.box T l)) : NN r (.res g) := fun ι F S w u hh h => by
  simp only [AVR] at h
  obtain ⟨b, hb, _⟩ := hh.bx g T l hg
  exact ⟨_, by rw [h.1, hb]⟩
def isPtr (P : Program) (T : TypeId) : Bool := match P.underlying T with | some (.pointer _) => true | _ => false
theorem isPtr_spec {P : Program} {T : TypeId} (h : isPtr P T = true) : P.underlying T = some (.pointer (P.pointee T)) := by
  unfold isPtr at h
  split at h
  · rename_i e he; rw [he]; simp [Program.pointee, he]
  · cases h
theorem op_eql_nil {X : AV} (ho : o.op = .binOp .eql ty x (.const (.pointer none)) ty') (ht : isPtr C.P ty = true) (hn : NN r X) : OpPure C r o [(x, X), (.const (.pointer none), .v (.pointer none))] (.v (.bool false)) := OpPure.here fun ι F S w ρ hs hr => by
  obtain ⟨a, ha⟩ := hn ι F S w _ hs.hs (hr (x, X) (by simp))
  have h2 := hr (.const (.pointer none), .v (.pointer none)) (by simp)
  simp only [AVR] at h2
  exact ⟨.bool false, by simp [execOp, ho, ha, h2, eqGuard_at_pointer, run_eql_pointer_nil w ty (some a) (isPtr_spec ht)], by simp [AVR]⟩
theorem op_neq_nil {X : AV} (ho : o.op = .binOp .neq ty x (.const (.pointer none)) ty') (ht : isPtr C.P ty = true) (hn : NN r X) : OpPure C r o [(x, X), (.const (.pointer none), .v (.pointer none))] (.v (.bool true)) := OpPure.here fun ι F S w ρ hs hr => by
  obtain ⟨a, ha⟩ := hn ι F S w _ hs.hs (hr (x, X) (by simp))
  have h2 := hr (.const (.pointer none), .v (.pointer none)) (by simp)
  simp only [AVR] at h2
  exact ⟨.bool true, by simp [execOp, ho, ha, h2, eqGuard_at_pointer, run_neq_pointer_nil w ty (some a) (isPtr_spec ht)], by simp [AVR]⟩
theorem op_nil_eql (ho : o.op = .binOp .eql ty x (.const (.pointer none)) ty') (ht : isPtr C.P ty = true) : OpPure C r o [(x, .v (.pointer none)), (.const (.pointer none), .v (.pointer none))] (.v (.bool true)) := op_bin2 ho (eqGuard_at_pointer _ _ _ _ _ _) fun w => run_eql_pointer_nil w ty none (isPtr_spec ht)
theorem op_nil_neq (ho : o.op = .binOp .neq ty x (.const (.pointer none)) ty') (ht : isPtr C.P ty = true) : OpPure C r o [(x, .v (.pointer none)), (.const (.pointer none), .v (.pointer none))] (.v (.bool false)) := op_bin2 ho (eqGuard_at_pointer _ _ _ _ _ _) fun w => run_neq_pointer_nil w ty none (isPtr_spec ht)
theorem op_nilCheck (ho : o.op = .nilCheck x) (hn : NN r V) : OpPure C r o [(x, V)] V := OpPure.here fun ι F S w ρ hs hr => by
  have h1 := hr (x, V) (by simp)
  obtain ⟨a, ha⟩ := hn ι F S w _ hs.hs h1
  exact ⟨ρ x, by simp [execOp, ho, ha], h1⟩

/-! ### Addresses -/
theorem add_add (b off i j : Nat) : ((⟨b, off, none⟩ : Addr).add i).add j = (⟨b, off, none⟩ : Addr).add (i + j) := add_of_add _ _ _
theorem run_fieldAt {P : Program} {T : TypeId} {j : Nat} {fl : FldI} (hf : fldI P T j = some fl) (h0 : fl.size ≠ 0) (w : World) (a : Addr) : (Instr.fieldAt T (.pointer (some a)) j).run P w = .ok (.pointer (some (a.add fl.off))) w := by
  obtain ⟨fs, f, i, h1, h2, h3, h4, h5, h6⟩ := fldI_spec hf
  simp [Instr.fieldAt, run_underlying h1, h2, Instr.sureAddr, fieldPlace, run_sizeOf h3, h5, h0, h4]
theorem op_fieldAddr_ptr {j off : Nat} {fl : FldI} (ho : o.op = .fieldAddr ty x j) (hf : fldI C.P ty j = some fl) (h0 : fl.size ≠ 0) : OpPure C r o [(x, .ptr g off)] (.ptr g (off + fl.off)) := OpPure.here fun ι F S w ρ hs hr => by
  have h1 := hr (x, .ptr g off) (by simp)
  simp only [AVR] at h1 ⊢
  obtain ⟨b, hb, h1⟩ := h1
  exact ⟨.pointer (some ⟨b, off + fl.off, none⟩), by simp [execOp, ho, h1, run_fieldAt hf h0, Addr.add_lit], b, hb, rfl⟩
theorem op_fieldAddr_adr {j : Nat} {l : List AV} {fl : FldI} (ho : o.op = .fieldAddr ty x j) (hf : fldI C.P ty j = some fl) (h0 : fl.size ≠ 0) : OpPure C r o [(x, .sem (adrS l))] (.sem (adrS (l.drop fl.off))) := OpPure.here fun ι F S w ρ hs hr => by
  have h1 := hr (x, .sem (adrS l)) (by simp)
  simp only [AVR] at h1 ⊢
  obtain ⟨b, off, h1, hb, us, h2, h3⟩ := h1
  refine ⟨.pointer (some ((⟨b, off, none⟩ : Addr).add fl.off)), by simp [execOp, ho, h1, run_fieldAt hf h0], b, off + fl.off, by rw [Addr.add_lit], hb, us.drop fl.off, h2.drop _, fun i u hu => ?_⟩
  rw [← Addr.add_lit, add_add]
  exact h3 _ u (by rw [← hu, List.getElem?_drop])
theorem op_load_box {T' : TypeId} {l : List AV} {off : Nat} {i : TyI} (ho : o.op = .load ty x) (hg : look r g = some (.box T' l)) (hi : tyI C.P ty = some i) (h1 : i.agg = false → i.size = 1) (hle : Nat.ble (off + i.size) l.length = true) (hp : packA i.agg ((l.drop off).take i.size) = some V) : OpPure C r o [(x, .ptr g off)] V := OpPure.here fun ι F S w ρ hs hr => by
  have hx := hr (x, .ptr g off) (by simp)
  simp only [AVR] at hx
  obtain ⟨b, hb, hx⟩ := hx
  obtain ⟨b', us, hb', hv, hc, hl⟩ := box_cells hs.hs (o := off) (n := i.size) hg
  rw [hb'] at hb
  obtain rfl : b' = b := by simpa [baseOf] using hb
  have hld := run_loadVar hi h1 (hl (Nat.le_of_ble_eq_true hle)) hc
  exact ⟨packV i.agg us, by simp [execOp, ho, hx, Instr.loadAt, Instr.sureAddr, hld], packA_R hv hp⟩
theorem op_load_adr {l : List AV} {i : TyI} (ho : o.op = .load ty x) (hi : tyI C.P ty = some i) (h1 : i.agg = false → i.size = 1) (hle : Nat.ble i.size l.length = true) (hp : packA i.agg (l.take i.size) = some V) (hl0 : AV.leaves l = true) : OpPure C r o [(x, .sem (adrS l))] V := OpPure.here fun ι F S w ρ hs hr => by
  have hx := hr (x, .sem (adrS l)) (by simp)
  simp only [AVR] at hx
  obtain ⟨b, off, hx, hb, us, h2, h3⟩ := hx
  have hlen := h2.length
  have hle' := Nat.le_of_ble_eq_true hle
  have hld := run_loadVar (w := w) (a := ⟨b, off, none⟩) (us := us.take i.size) hi h1 (by rw [List.length_take]; omega) (fun j u hu => h3 j u (by
    rw [List.getElem?_take] at hu
    split at hu
    · exact hu
    · cases hu))
  exact ⟨packV i.agg (us.take i.size), by simp [execOp, ho, hx, Instr.loadAt, Instr.sureAddr, hld], packA_R ((h2.leaf_any hl0).take _) hp⟩
theorem own_cells {α : Type} {e : TypeId} {E : Enc α} {xs : List α} {ι : Nat → Value} {F : Nat → Bl} {S : Bl} {w : World} (h : HeapSim r ι F S w) (hg : look r g = some (.obj (ownS e E xs))) {j : Nat} {y : α} (hj : xs[j]? = some y) : ∃ b cap us, ι g = .slice (some ⟨b, 0, none⟩) xs.length cap ∧ xs.length ≤ cap ∧ AVRs ι S w (E.f y) us ∧ us.length = E.sz ∧ ∀ i u, us[i]? = some u → w.cell? ⟨b, j * E.sz + i, none⟩ = some u := by
  obtain ⟨⟨us, h1, h2⟩, h3⟩ := h.ob g _ hg
  have hlt := (List.getElem?_eq_some_iff.1 hj).1
  rcases h1.2 with ⟨_, h0⟩ | ⟨b, cap, cur, hv, _, hh, hn, _⟩
  · omega
  · have hc := h1.cells (g := b) (by rw [hv]; rfl)
    have hA := (h2.drop (j * E.sz)).take E.sz
    rw [E.all_at hj] at hA
    have hlen := hA.length
    rw [E.len] at hlen
    refine ⟨b, cap, _, hv, hn, hA.leaf_any (E.leaf y), hlen, fun i u hu => ?_⟩
    rw [List.getElem?_take] at hu
    split at hu
    · rw [List.getElem?_drop] at hu
      have := hc _ u hu
      rwa [Addr.add_lit, Nat.zero_add] at this
    · cases hu
theorem op_load_own {α : Type} {e : TypeId} {E : Enc α} {xs : List α} {off j f : Nat} {y : α} {i : TyI} (ho : o.op = .load ty x) (hg : look r g = some (.obj (ownS e E xs))) (hoff : off = j * E.sz + f) (hj : xs[j]? = some y) (hi : tyI C.P ty = some i) (h1 : i.agg = false → i.size = 1) (hle : f + i.size ≤ E.sz) (hp : packA i.agg (((E.f y).drop f).take i.size) = some V) : OpPure C r o [(x, .ptr g off)] V := OpPure.here fun ι F S w ρ hs hr => by
  have hx := hr (x, .ptr g off) (by simp)
  simp only [AVR] at hx
  obtain ⟨b, hb, hx⟩ := hx
  obtain ⟨b', cap, us, hv, _, h2, h3, h4⟩ := own_cells hs.hs hg hj
  rw [hv] at hb
  obtain rfl : b' = b := by simpa [baseOf] using hb
  have hld := run_loadVar (w := w) (a := ⟨b', off, none⟩) (us := (us.drop f).take i.size) hi h1 (by rw [List.length_take, List.length_drop]; omega) (fun n u hu => by
    rw [List.getElem?_take] at hu
    split at hu
    · rw [List.getElem?_drop] at hu
      have := h4 _ u hu
      rw [Addr.add_lit, hoff, Nat.add_assoc]
      exact this
    · cases hu)
  exact ⟨packV i.agg ((us.drop f).take i.size), by simp [execOp, ho, hx, Instr.loadAt, Instr.sureAddr, hld], packA_R ((h2.drop _).take _) hp⟩

/-! ### Slices -/
theorem sliceE_elem {P : Program} {T e : TypeId} (h : sliceE P T = some e) : P.underlying T = some (.slice (P.elem T)) ∧ P.elem T = e := by
  have h1 := sliceE_spec h
  have : P.elem T = e := by simp [Program.elem, h1]
  exact ⟨by rw [this]; exact h1, this⟩
theorem op_index_list {α : Type} {E : Enc α} {xs : List α} {k : IntKind} {m : Int} {el : α} {e : TypeId} {i : TyI} (ho : o.op = .indexAddr ty x y) (hE : sliceE C.P ty = some e) (hi : tyI C.P e = some i) (hsz : i.size = E.sz) (h0 : 0 ≤ m) (hy : xs[m.toNat]? = some el) (hne : 0 < E.sz) : OpPure C r o [(x, .sem (listS E xs)), (y, .v (.int k m))] (.sem (adrS (E.f el))) := OpPure.here fun ι F S w ρ hs hr => by
  have hx := hr (x, .sem (listS E xs)) (by simp)
  have hm := hr (y, .v (.int k m)) (by simp)
  simp only [AVR] at hx hm ⊢
  obtain ⟨A, c, hx, hc, hA⟩ := hx
  obtain ⟨hu, hel⟩ := sliceE_elem hE
  have hlt := (List.getElem?_eq_some_iff.1 hy).1
  rcases hA with hA | ⟨b, off, rfl, hb, us, h1, h2⟩
  · have h3 := E.all_len xs
    rw [hA] at h3
    have : 0 < xs.length * E.sz := Nat.mul_pos (by omega) hne
    simp at h3
    omega
  · have hrun : (Instr.indexAt ty (.slice (some ⟨b, off, none⟩) xs.length c) (.int k m)).run C.P w = .ok (.pointer (some ((⟨b, off, none⟩ : Addr).add (m.toNat * E.sz)))) w := by
      rw [run_indexAt_slice _ _ _ _ _ _ _ hu, if_pos (by omega), hel, run_sizeOf hi, hsz]; rfl
    refine ⟨.pointer (some ((⟨b, off, none⟩ : Addr).add (m.toNat * E.sz))), by simp [execOp, ho, hx, hm, hrun], b, off + m.toNat * E.sz, by rw [Addr.add_lit], hb, (us.drop (m.toNat * E.sz)).take E.sz, ?_, fun j u hu => ?_⟩
    · have := (h1.drop (m.toNat * E.sz)).take E.sz
      rwa [E.all_at hy] at this
    · rw [List.getElem?_take] at hu
      split at hu
      · rw [List.getElem?_drop] at hu
        rw [← Addr.add_lit, add_add]
        exact h2 _ u hu
      · cases hu
theorem op_index_own {α : Type} {e' : TypeId} {E : Enc α} {xs : List α} {k : IntKind} {m : Int} {e : TypeId} {i : TyI} (ho : o.op = .indexAddr ty x y) (hg : look r g = some (.obj (ownS e' E xs))) (hE : sliceE C.P ty = some e) (hi : tyI C.P e = some i) (hsz : i.size = E.sz) (h0 : 0 ≤ m) (hlt : m.toNat < xs.length) : OpPure C r o [(x, .res g), (y, .v (.int k m))] (.ptr g (m.toNat * E.sz)) := OpPure.here fun ι F S w ρ hs hr => by
  have hx := hr (x, .res g) (by simp)
  have hm := hr (y, .v (.int k m)) (by simp)
  simp only [AVR] at hx hm ⊢
  obtain ⟨b, cap, us, hv, hcap, _⟩ := own_cells hs.hs hg (List.getElem?_eq_getElem hlt)
  obtain ⟨hu, hel⟩ := sliceE_elem hE
  have hrun : (Instr.indexAt ty (.slice (some ⟨b, 0, none⟩) xs.length cap) (.int k m)).run C.P w = .ok (.pointer (some ((⟨b, 0, none⟩ : Addr).add (m.toNat * E.sz)))) w := by
    rw [run_indexAt_slice _ _ _ _ _ _ _ hu, if_pos (by omega), hel, run_sizeOf hi, hsz]; rfl
  refine ⟨.pointer (some ((⟨b, 0, none⟩ : Addr).add (m.toNat * E.sz))), by simp [execOp, ho, hx.1, hv, hm, hrun], b, by rw [hv]; simp [baseOf], by rw [Addr.add_lit, Nat.zero_add]⟩
theorem op_len_list {α : Type} {E : Enc α} {xs : List α} {e : TypeId} (ho : o.op = .call { callee := .builtin .len, args := #[x], argTypes := #[ty] }) (hE : sliceE C.P ty = some e) : OpPure C r o [(x, .sem (listS E xs))] (.v (.int .i64 xs.length)) := OpPure.here fun ι F S w ρ hs hr => by
  have hx := hr (x, .sem (listS E xs)) (by simp)
  simp only [AVR] at hx ⊢
  obtain ⟨A, c, hx, hc, hA⟩ := hx
  obtain ⟨hu, hel⟩ := sliceE_elem hE
  exact ⟨.int .i64 xs.length, by simp [execOp, ho, resolve, invoke, builtin, hx, run_len_slice _ _ _ _ _ _ hu, goInt], rfl⟩
theorem op_len_own {α : Type} {e' : TypeId} {E : Enc α} {xs : List α} {e : TypeId} (ho : o.op = .call { callee := .builtin .len, args := #[x], argTypes := #[ty] }) (hg : look r g = some (.obj (ownS e' E xs))) (hE : sliceE C.P ty = some e) : OpPure C r o [(x, .res g)] (.v (.int .i64 xs.length)) := OpPure.here fun ι F S w ρ hs hr => by
  have hx := hr (x, .res g) (by simp)
  simp only [AVR] at hx ⊢
  obtain ⟨⟨us, h1, h2⟩, h3⟩ := hs.hs.ob g _ hg
  obtain ⟨hu, hel⟩ := sliceE_elem hE
  rcases h1.2 with ⟨hv, h0⟩ | ⟨b, cap, cur, hv, _⟩
  · exact ⟨.int .i64 xs.length, by simp [execOp, ho, resolve, invoke, builtin, hx.1, hv, run_len_slice _ _ _ _ _ _ hu, goInt, h0], rfl⟩
  · exact ⟨.int .i64 xs.length, by simp [execOp, ho, resolve, invoke, builtin, hx.1, hv, run_len_slice _ _ _ _ _ _ hu, goInt], rfl⟩
theorem op_len_nil {e : TypeId} (ho : o.op = .call { callee := .builtin .len, args := #[x], argTypes := #[ty] }) (hE : sliceE C.P ty = some e) : OpPure C r o [(x, .v (.slice none 0 0))] (.v (.int .i64 0)) := OpPure.here fun ι F S w ρ hs hr => by
  have hx := hr (x, .v (.slice none 0 0)) (by simp)
  simp only [AVR] at hx ⊢
  obtain ⟨hu, hel⟩ := sliceE_elem hE
  exact ⟨.int .i64 0, by simp [execOp, ho, resolve, invoke, builtin, hx, run_len_slice _ _ _ _ _ _ hu, goInt], rfl⟩
/-- nil is any empty list. -/
theorem nil_list {α : Type} (E : Enc α) : ∀ ι F S w u, SimW C r ι F S w → AVR ι S w (.v (.slice none 0 0)) u → AVR ι S w (.sem (listS E ([] : List α))) u := fun ι F S w u _ h => by
  simp only [AVR] at h ⊢
  subst h
  exact ⟨none, 0, rfl, by simp, .inl rfl⟩
theorem op_len_str {s : ByteArray} (ho : o.op = .call { callee := .builtin .len, args := #[x], argTypes := #[ty] }) (ht : C.P.underlying ty = some .string) : OpPure C r o [(x, .v (.string s))] (.v (.int .i64 s.size)) := OpPure.here fun ι F S w ρ hs hr => by
  have hx := hr (x, .v (.string s)) (by simp)
  simp only [AVR] at hx ⊢
  exact ⟨.int .i64 s.size, by simp [execOp, ho, resolve, invoke, builtin, hx, Builtin.len_, run_underlying ht, goInt], rfl⟩
/-- A cut of a list. -/
theorem cut_row {α : Type} {E : Enc α} {xs : List α} {w : World} {S : Bl} {A : Option Addr} {c l h : Nat} (hA : RowAt w S A (E.all xs)) (hc : xs.length ≤ c) (hl : l ≤ h) (hh : h ≤ xs.length) : RowAt w S (if c = l then A else A.map (·.add (l * E.sz))) (E.all ((xs.take h).drop l)) := by
  by_cases e : c = l
  · left
    rw [List.drop_of_length_le (by rw [List.length_take]; omega)]
    rfl
  · rw [if_neg e]
    rcases hA with hA | ⟨b, off, rfl, hb, us, h1, h2⟩
    · have h3 := E.all_len xs
      rw [hA] at h3
      by_cases hz : E.sz = 0
      · left
        have h4 := E.all_len ((xs.take h).drop l)
        rw [hz, Nat.mul_zero] at h4
        exact List.eq_nil_of_length_eq_zero h4
      · have : xs.length = 0 := by
          rcases Nat.eq_zero_or_pos xs.length with h | h
          · exact h
          · have := Nat.mul_pos h (Nat.pos_of_ne_zero hz)
            simp at h3
            omega
        left
        rw [List.eq_nil_of_length_eq_zero this]
        simp [Enc.all]
    · right
      have e1 : E.all ((xs.take h).drop l) = ((E.all xs).drop (l * E.sz)).take ((h - l) * E.sz) := by
        have e2 : xs = xs.take l ++ ((xs.take h).drop l ++ xs.drop h) := by
          rw [← List.append_assoc]
          have : xs.take l = (xs.take h).take l := by rw [List.take_take, Nat.min_eq_left hl]
          rw [this, List.take_append_drop, List.take_append_drop]
        have l1 : (E.all (xs.take l)).length = l * E.sz := by rw [E.all_len, List.length_take, Nat.min_eq_left (by omega)]
        have l2 : (E.all ((xs.take h).drop l)).length = (h - l) * E.sz := by rw [E.all_len, List.length_drop, List.length_take, Nat.min_eq_left hh]
        conv => rhs; rw [e2, E.all_append, E.all_append]
        rw [← l1, List.drop_left, ← l2, List.take_left]
      refine ⟨b, off + l * E.sz, by simp [Addr.add_lit], hb, (us.drop (l * E.sz)).take ((h - l) * E.sz), by rw [e1]; exact (h1.drop _).take _, fun j u hu => ?_⟩
      rw [List.getElem?_take] at hu
      split at hu
      · rw [List.getElem?_drop] at hu
        rw [← Addr.add_lit, add_add]
        exact h2 _ u hu
      · cases hu
theorem op_slice_h {α : Type} {E : Enc α} {xs : List α} {k : IntKind} {m : Int} {e : TypeId} {i : TyI} (ho : o.op = .slice ty x none (some y) none) (hE : sliceE C.P ty = some e) (hi : tyI C.P e = some i) (hsz : i.size = E.sz) (h0 : 0 ≤ m) (hm : m ≤ xs.length) : OpPure C r o [(x, .sem (listS E xs)), (y, .v (.int k m))] (.sem (listS E (xs.take m.toNat))) := OpPure.here fun ι F S w ρ hs hr => by
  have hx := hr (x, .sem (listS E xs)) (by simp)
  have hv := hr (y, .v (.int k m)) (by simp)
  simp only [AVR] at hx hv ⊢
  obtain ⟨A, c, hx, hc, hA⟩ := hx
  have hu := sliceE_spec hE
  have hh : m.toNat ≤ xs.length := by omega
  have hlen : (xs.take m.toNat).length = m.toNat := by rw [List.length_take, Nat.min_eq_left hh]
  have hmc : m ≤ (c : Int) := by omega
  have hcut := cut_row hA hc (Nat.zero_le m.toNat) hh
  rw [Nat.zero_mul, List.drop_zero] at hcut
  refine ⟨.slice (if c = 0 then A else A.map (·.add 0)) m.toNat c, ?_, if c = 0 then A else A.map (·.add 0), c, by rw [hlen], by omega, hcut⟩
  simp [execOp, ho, Instr.sliceAt, run_underlying hu, hx, hv, Instr.slice, Instr.sliceBounds, Instr.sliceBound, asIntOf, h0, hmc, run_sizeOf hi, hsz]
theorem op_slice_l {α : Type} {E : Enc α} {xs : List α} {k : IntKind} {m : Int} {e : TypeId} {i : TyI} (ho : o.op = .slice ty x (some y) none none) (hE : sliceE C.P ty = some e) (hi : tyI C.P e = some i) (hsz : i.size = E.sz) (h0 : 0 ≤ m) (hm : m ≤ xs.length) : OpPure C r o [(x, .sem (listS E xs)), (y, .v (.int k m))] (.sem (listS E (xs.drop m.toNat))) := OpPure.here fun ι F S w ρ hs hr => by
  have hx := hr (x, .sem (listS E xs)) (by simp)
  have hv := hr (y, .v (.int k m)) (by simp)
  simp only [AVR] at hx hv ⊢
  obtain ⟨A, c, hx, hc, hA⟩ := hx
  have hu := sliceE_spec hE
  have hh : m.toNat ≤ xs.length := by omega
  have hlen : (xs.drop m.toNat).length = xs.length - m.toNat := by rw [List.length_drop]
  have hcut := cut_row hA hc hh (Nat.le_refl _)
  rw [List.take_length] at hcut
  refine ⟨.slice (if c = m.toNat then A else A.map (·.add (m.toNat * E.sz))) (xs.length - m.toNat) (c - m.toNat), ?_, _, c - m.toNat, by rw [hlen], by omega, hcut⟩
  simp [execOp, ho, Instr.sliceAt, run_underlying hu, hx, hv, Instr.slice, Instr.sliceBounds, Instr.sliceBound, asIntOf, h0, hm, run_sizeOf hi, hsz]
end others
end
end Go.Proofs.Ytjkidecaciomgaa
/- VL, part 6: operations that make and turn resources. -/
namespace Go.Proofs.Ytjkidecaciomgaa
set_option linter.unusedVariables false
set_option linter.unusedSimpArgs false
open Go.RowKit

/-! ### A value's cells -/
def cellsA : AV → List AV
  | .agg l => l
  | x => [x]
def okC : AV → Bool
  | .v x => match x with
    | .agg _ => false
    | _ => true
  | _ => true
def AV.cell : AV → Bool
  | .v x => x.oneCell'
  | .agg _ => false
  | .tup _ => false
  | _ => true
def AV.cellL : List AV → Bool
  | [] => true
  | x :: l => and x.cell (AV.cellL l)
section
variable {ι : Nat → Value} {S : Bl} {w : World}
theorem cells_one {u : Value} (h : u.oneCell' = true) : u.cells.toList = [u] := by cases u <;> simp_all [Value.oneCell', Value.cells]
theorem cellsA_R {x : AV} {u : Value} (h : AVR ι S w x u) (hk : okC x = true) : AVRs ι S w (cellsA x) u.cells.toList := by
  cases x with
  | v y =>
    simp only [AVR] at h
    subst h
    cases u <;> simp_all [okC, cellsA, AVRs, AVR, Value.cells]
  | sem p =>
    simp only [AVR] at h
    rw [cells_one (p.one h)]
    exact ⟨u, [], rfl, by simpa [AVR] using h, rfl⟩
  | res g =>
    simp only [AVR] at h
    rw [cells_one h.2]
    exact ⟨u, [], rfl, by simpa [AVR] using h, rfl⟩
  | ptr g n =>
    have h' := h
    simp only [AVR] at h'
    obtain ⟨b, _, rfl⟩ := h'
    exact ⟨_, [], rfl, h, rfl⟩
  | fn f l =>
    have h' := h
    simp only [AVR] at h'
    obtain ⟨b, rfl, _⟩ := h'
    exact ⟨_, [], rfl, h, rfl⟩
  | agg l =>
    simp only [AVR] at h
    obtain ⟨us, rfl, h⟩ := h
    simpa [cellsA, Value.cells] using h
  | tup l =>
    have h' := h
    simp only [AVR] at h'
    obtain ⟨b, rfl, _⟩ := h'
    exact ⟨_, [], rfl, h, rfl⟩
theorem AVR.cell_one {x : AV} {u : Value} (h : AVR ι S w x u) (hk : x.cell = true) : u.oneCell' = true := by
  cases x with
  | v y => simp only [AVR] at h; subst h; exact hk
  | sem p => simp only [AVR] at h; exact p.one h
  | res g => simp only [AVR] at h; exact h.2
  | ptr g n => simp only [AVR] at h; obtain ⟨b, _, rfl⟩ := h; rfl
  | fn f l => simp only [AVR] at h; obtain ⟨b, rfl, _⟩ := h; rfl
  | agg l => cases hk
  | tup l => cases hk
theorem AVRs.cell_one : ∀ {l : List AV} {us : List Value}, AVRs ι S w l us → AV.cellL l = true → ∀ u ∈ us, u.oneCell' = true
  | [], us, h, _, u, hu => by simp only [AVRs] at h; subst h; cases hu
  | x :: l, us, h, hl, u, hu => by
    simp only [AVRs] at h
    obtain ⟨u0, r, rfl, h1, h2⟩ := h
    simp only [AV.cellL, Bool.and_eq_true] at hl
    rcases List.mem_cons.1 hu with rfl | hu
    · exact h1.cell_one hl.1
    · exact h2.cell_one hl.2 u hu
end
/-- A run of cells written over. -/
def spliceL {α : Type} (l : List α) (o : Nat) : List α → List α
  | [] => l
  | c :: cs => spliceL (l.set o c) (o + 1) cs
theorem spliceL_length {α : Type} : ∀ (cs : List α) (l : List α) (o : Nat), (spliceL l o cs).length = l.length
  | [], l, o => rfl
  | c :: cs, l, o => by rw [spliceL, spliceL_length cs]; simp
theorem spliceL_eq {α : Type} : ∀ (cs : List α) (l : List α) (o : Nat), o + cs.length ≤ l.length → spliceL l o cs = l.take o ++ cs ++ l.drop (o + cs.length)
  | [], l, o, _ => by simp [spliceL]
  | c :: cs, l, o, h => by
    rw [spliceL, spliceL_eq cs _ _ (by simp at h ⊢; omega)]
    have h' : o < l.length := by simp at h; omega
    apply List.ext_getElem?
    intro j
    simp only [List.getElem?_append, List.getElem?_take, List.getElem?_drop, List.length_append, List.length_take, List.length_set, List.getElem?_set, List.length_cons, List.append_assoc]
    have m1 : min o l.length = o := by omega
    have m2 : min (o + 1) l.length = o + 1 := by omega
    rw [m1, m2]
    by_cases h1 : j < o
    · simp [h1, show j < o + 1 by omega, show ¬ o = j by omega]
    · by_cases h2 : j = o
      · subst h2; simp [h']
      · simp only [show ¬ j < o + 1 by omega, if_false, h1, show ¬ o = j by omega]
        by_cases h3 : j - (o + 1) < cs.length
        · simp only [h3, if_true, show j - o < cs.length + 1 by omega]
          rw [show j - o = (j - (o + 1)) + 1 by omega, List.getElem?_cons_succ]
        · simp only [h3, if_false, show ¬ j - o < cs.length + 1 by omega]
          have : ¬ o = o + 1 + cs.length + (j - (o + 1) - cs.length) := by omega
          simp only [this, if_false]
          congr 1
          omega
theorem AVRs.splice {ι : Nat → Value} {S : Bl} {w : World} : ∀ {cs l : List AV} {us vs : List Value} {o : Nat}, AVRs ι S w l us → AVRs ι S w cs vs → AVRs ι S w (spliceL l o cs) (spliceL us o vs)
  | [], l, us, vs, o, h, h' => by
    simp only [AVRs] at h'
    subst h'
    exact h
  | c :: cs, l, us, vs, o, h, h' => by
    simp only [AVRs] at h'
    obtain ⟨v, vs', rfl, h1, h2⟩ := h'
    exact AVRs.splice (o := o + 1) (AVRs.set (i := o) h h1) h2

/-! ### Resources that turn -/
theorem SimW.butTurn {C : Cx} {r : List (Nat × RK)} {ι : Nat → Value} {F : Nat → Bl} {S : Bl} {w w' : World} (h : SimW C r ι F S w) {g : Nat} {x : RK} (hg : look r g = some x) (hx : x.live = true) (hb : But (F g) w w') : But C.D C.w0 w' :=
  ⟨hb.os.trans h.but.os, hb.tape.trans h.but.tape, hb.output.trans h.but.output, Nat.le_trans h.but.size hb.size, fun k hk hn => (hb.block k (Nat.lt_of_lt_of_le hk h.but.size) fun hf => (h.own g x hg hx k hf).elim (fun h1 => by omega) hn).trans (h.but.block k hk hn)⟩
/-- Resource g has turned in place. -/
theorem SimW.turn {C : Cx} {r : List (Nat × RK)} {ι : Nat → Value} {F : Nat → Bl} {S : Bl} {w w' : World} (h : SimW C r ι F S w) {g : Nat} {x x' : RK} (hg : look r g = some x) (hx : x.live = true) (hb : But (F g) w w')
    (hbx : ∀ T l, x' = .box T l → ∃ b, ι g = .pointer (some ⟨b, 0, none⟩) ∧ (∀ k, F g k ↔ k = b) ∧ ∃ cs : Array Value, w'.heap[b]? = some (.cells cs T (0, 0)) ∧ AVRs ι S w' l cs.toList)
    (hob : ∀ R, x' = .obj R → R.H w' S (F g) (ι g)) : SimW C ((g, x') :: r) ι F S w' ∧ Fut S w S w' := by
  have hF : Fut S w S w' := ⟨fun _ h => h, fun k hk hl => hb.block k hl fun hf => h.hs.out g x hg hx k hf hk⟩
  have key : ∀ n y, look ((g, x') :: r) n = some y → y.live = true → ∃ z, look r n = some z ∧ z.live = true := fun n y hn hy => by
    rw [look_cons] at hn
    by_cases e : g = n
    · subst e; exact ⟨x, hg, hx⟩
    · rw [if_neg e] at hn; exact ⟨y, hn, hy⟩
  refine ⟨⟨⟨fun n T l hn => ?_, fun n R hn => ?_, fun n n' y y' hn hn' hy hy' hne k hk => ?_, fun n y hn hy k hk => ?_, fun k hk => by have := h.hs.bnd k hk; have := hb.size; omega⟩, h.butTurn hg hx hb, fun n y hn hy k hk => ?_, h.sb, h.fut.trans hF h.but.size, h.keep⟩, hF⟩
  · rw [look_cons] at hn
    by_cases e : g = n
    · subst e
      rw [if_pos rfl] at hn
      cases hn
      exact hbx T l rfl
    · rw [if_neg e] at hn
      obtain ⟨b, h1, h2, cs, h3, h4⟩ := h.hs.bx n T l hn
      refine ⟨b, h1, h2, cs, ?_, h4.fut hF fun _ _ => rfl⟩
      rw [hb.block b (h.hs.lt hn rfl ((h2 b).2 rfl)) fun hf => h.hs.dis n g _ x hn hg rfl hx (Ne.symm e) b ((h2 b).2 rfl) hf]
      exact h3
  · rw [look_cons] at hn
    by_cases e : g = n
    · subst e
      rw [if_pos rfl] at hn
      cases hn
      exact hob R rfl
    · rw [if_neg e] at hn
      refine R.fut (fun _ h => h) (fun k hk hl => hb.block k hl fun hf => ?_) (h.hs.ob n R hn)
      rcases hk with hk | hk
      · exact h.hs.out g x hg hx k hf hk
      · exact h.hs.dis n g _ x hn hg rfl hx (Ne.symm e) k hk hf
  · obtain ⟨z, h1, h2⟩ := key n y hn hy
    obtain ⟨z', h1', h2'⟩ := key n' y' hn' hy'
    exact h.hs.dis n n' z z' h1 h1' h2 h2' hne k hk
  · obtain ⟨z, h1, h2⟩ := key n y hn hy
    exact h.hs.out n z h1 h2 k hk
  · obtain ⟨z, h1, h2⟩ := key n y hn hy
    exact h.own n z h1 h2 k hk
/-- Resource g is gone; its blocks may have turned. -/
theorem SimW.kill {C : Cx} {r : List (Nat × RK)} {ι : Nat → Value} {F : Nat → Bl} {S : Bl} {w w' : World} (h : SimW C r ι F S w) {g : Nat} {x : RK} (hg : look r g = some x) (hx : x.live = true) (hb : But (F g) w w') : SimW C ((g, .dead) :: r) ι F S w' ∧ Fut S w S w' :=
  h.turn hg hx hb (fun _ _ e => by cases e) (fun _ e => by cases e)

section
variable {C : Cx} {r : List (Nat × RK)} {o : Oper} {x y z : Operand} {V : AV} {ty : TypeId} {g : Nat}
theorem mem_one {g i : Nat} (h : i ∉ [g]) : i ≠ g := fun e => h (by simp [e])
theorem op_alloc {i : TyI} (g : Nat) (ho : o.op = .alloc ty) (hi : tyI C.P ty = some i) (hf : freshR g r = true) (h0 : look C.r0 g = none) : OpEff C r o [] (.ptr g 0) ((g, .box ty (i.zero.map .v)) :: r) [g] := fun ι F S w ρ hs hr => by
  obtain ⟨z, hz, hzc⟩ := run_zeroValue (P := C.P) hi w
  have hrun : (Instr.alloc ty true (.tuple #[])).run C.P w = .ok (.pointer (some ⟨w.heap.size, 0, none⟩)) (w.alloc (.cells z.cells ty)) := by
    simp [Instr.alloc, hz, newVar, newRow]
  have hb : Below w.heap.size w (w.alloc (.cells z.cells ty)) := (Below.refl _ _).alloc (Nat.le_refl _) _
  have hw := hs.same hb
  have hFut : Fut S w S (w.alloc (.cells z.cells ty)) := ⟨fun _ h => h, fun k _ hk => hb.block k hk⟩
  refine Does.value (v := .pointer (some ⟨w.heap.size, 0, none⟩)) (w' := w.alloc (.cells z.cells ty)) (by simp [execOp, ho, hrun]) ?_
  refine ⟨_, _, S, hw.add (g := g) (x := .box ty (i.zero.map .v)) (v := .pointer (some ⟨w.heap.size, 0, none⟩)) (G := fun k => k = w.heap.size) hf h0 (fun T l e => ?_) (fun R e => by cases e) (fun k hk => ?_) (fun k hk hS => ?_) (fun g' y hg' hy hne k hk hk' => ?_), hFut, fun j hj => newI_other (mem_one hj), ?_⟩
  · cases e
    refine ⟨_, rfl, fun _ => Iff.rfl, z.cells, heap_alloc_new w _, ?_⟩
    rw [hzc]
    generalize i.zero = zs
    induction zs with
    | nil => simp [AVRs]
    | cons u zs ih => exact ⟨u, zs, rfl, by simp [AVR], ih⟩
  · subst hk; exact .inl hs.but.size
  · subst hk; have := hs.hs.bnd _ hS; omega
  · subst hk'; have := hs.hs.lt hg' hy hk; omega
  · simp only [AVR]
    exact ⟨w.heap.size, by rw [newI_same]; simp [baseOf], rfl⟩
theorem op_box (g : Nat) (ho : o.op = .box ty x) (hk : okC V = true) (hf : freshR g r = true) (h0 : look C.r0 g = none) (hV : V.has g = false) : OpEff C r o [(x, V)] (.ptr g 0) ((g, .box ty (cellsA V)) :: r) [g] := fun ι F S w ρ hs hr => by
  have hx := hr (x, V) (by simp)
  have hrun : (Instr.box ty (ρ x)).run C.P w = .ok (.pointer (some ⟨w.heap.size, 0, none⟩)) (w.alloc (.cells (ρ x).cells ty)) := by
    simp [Instr.box, newVar, newRow]
  have hb : Below w.heap.size w (w.alloc (.cells (ρ x).cells ty)) := (Below.refl _ _).alloc (Nat.le_refl _) _
  have hw := hs.same hb
  have hFut : Fut S w S (w.alloc (.cells (ρ x).cells ty)) := ⟨fun _ h => h, fun k _ hk => hb.block k hk⟩
  refine Does.value (v := .pointer (some ⟨w.heap.size, 0, none⟩)) (w' := w.alloc (.cells (ρ x).cells ty)) (by simp [execOp, ho, hrun]) ?_
  refine ⟨_, _, S, hw.add (g := g) (x := .box ty (cellsA V)) (v := .pointer (some ⟨w.heap.size, 0, none⟩)) (G := fun k => k = w.heap.size) hf h0 (fun T l e => ?_) (fun R e => by cases e) (fun k hk => ?_) (fun k hk hS => ?_) (fun g' y hg' hy hne k hk hk' => ?_), hFut, fun j hj => newI_other (mem_one hj), ?_⟩
  · cases e
    refine ⟨_, rfl, fun _ => Iff.rfl, (ρ x).cells, heap_alloc_new w _, ?_⟩
    refine (cellsA_R hx hk).fut hFut fun i hi => newI_other fun e => ?_
    subst e
    have : V.has i = true := by
      cases V <;> simp_all [cellsA, AV.hasL, AV.has]
    rw [hV] at this
    cases this
  · subst hk; exact .inl hs.but.size
  · subst hk; have := hs.hs.bnd _ hS; omega
  · subst hk'; have := hs.hs.lt hg' hy hk; omega
  · simp only [AVR]
    exact ⟨w.heap.size, by rw [newI_same]; simp [baseOf], rfl⟩
theorem op_store_box {T' : TypeId} {l : List AV} {off : Nat} {i : TyI} (ho : o.op = .store ty x y) (hg : look r g = some (.box T' l)) (hi : tyI C.P ty = some i) (hk : okC V = true) (hc : AV.cellL (cellsA V) = true) (hl : (cellsA V).length = i.size) (hle : Nat.ble (off + i.size) l.length = true) : OpEff C r o [(x, .ptr g off), (y, V)] (.v undef) ((g, .box T' (spliceL l off (cellsA V))) :: r) [] := fun ι F S w ρ hs hr => by
  have hx := hr (x, .ptr g off) (by simp)
  have hy := hr (y, V) (by simp)
  simp only [AVR] at hx
  obtain ⟨b, hb, hx⟩ := hx
  obtain ⟨b', h1, h2, cs, h3, h4⟩ := hs.hs.bx g T' l hg
  rw [h1] at hb
  obtain rfl : b' = b := by simpa [baseOf] using hb
  have hle' := Nat.le_of_ble_eq_true hle
  have hv := cellsA_R hy hk
  have hvl := hv.length
  have hcl := h4.length
  have hone := hv.cell_one hc
  have hst := run_storeCells_at C.P b' off T' (ρ y).cells.toList 0 cs w h3 (by simp only [Array.length_toList] at hvl hcl ⊢; omega) hone
  rw [Nat.add_zero] at hst
  have hsz : (ρ y).cells.size = i.size := by simp only [Array.length_toList] at hvl; omega
  have hrun : (Instr.storeAt ty (ρ x) (ρ y)).run C.P w = .ok () (w.setRow b' (cs.toList.take off ++ (ρ y).cells.toList ++ cs.toList.drop (off + (ρ y).cells.toList.length)).toArray) := by
    rw [hx]
    simp only [Instr.storeAt, Instr.sureAddr, storeVar, Sem.run_bind, Sem.run_pure, Result.andThen_ok, run_sizeOf hi, hsz, ne_eq, not_true, if_false]
    exact hst
  rw [← spliceL_eq _ _ _ (by simp only [Array.length_toList] at hvl hcl ⊢; omega)] at hrun
  have hbut : But (F g) w (w.setRow b' (spliceL cs.toList off (ρ y).cells.toList).toArray) := ⟨rfl, rfl, rfl, by simp, fun k _ hn => setRow_other w b' k _ fun e => hn ((h2 k).2 e)⟩
  have hFut : Fut S w S (w.setRow b' (spliceL cs.toList off (ρ y).cells.toList).toArray) := ⟨fun _ h => h, fun k hk hl => hbut.block k hl fun hf => hs.hs.out g _ hg rfl k hf hk⟩
  obtain ⟨hw, _⟩ := hs.turn (x' := .box T' (spliceL l off (cellsA V))) hg rfl hbut (fun T l' e => by
    cases e
    exact ⟨b', h1, h2, _, setRow_heap w b' cs _ T' (0, 0) h3, by
      rw [List.toList_toArray]
      exact (h4.splice hv).fut hFut fun _ _ => rfl⟩) (fun R e => by cases e)
  refine Does.skip (w' := w.setRow b' (spliceL cs.toList off (ρ y).cells.toList).toArray) ?_ ⟨ι, F, S, hw, hFut, fun _ _ => rfl, by simp [AVR]⟩
  simp [execOp, ho, hrun]
/-- A row of the call's own, grown: g' is its name from now on. -/
theorem op_append {α : Type} {e : TypeId} {E : Enc α} {xs ys : List α} {i : TyI} (g' : Nat) (ho : o.op = .call { callee := .builtin .append, args := #[x, y], argTypes := #[ty, ty] }) (hg : look r g = some (.obj (ownS e E xs))) (hE : sliceE C.P ty = some e) (hi : tyI C.P e = some i) (hsz : i.size = E.sz) (hz : i.zero.length = E.sz) (h0 : 0 < E.sz) (hm : xs.length + ys.length ≤ 1000000) (hby : i.bytes ≤ 100000000) (hf : freshR g' r = true) (hr0 : look C.r0 g' = none) : OpEff C r o [(x, .res g), (y, .sem (listS E ys))] (.res g') ((g', .obj (ownS e E (xs ++ ys))) :: (g, .dead) :: r) [g'] := fun ι F S w ρ hs hr => by
  have hx := hr (x, .res g) (by simp)
  have hy := hr (y, .sem (listS E ys)) (by simp)
  simp only [AVR] at hx hy
  obtain ⟨A, c, hy, hc, hA⟩ := hy
  obtain ⟨⟨us, h1, h2⟩, h3⟩ := hs.hs.ob g _ hg
  obtain ⟨ti, d, z, t1, t2, t3, t4, t5, t6, t7⟩ := tyI_info hi
  have hu := sliceE_spec hE
  obtain ⟨vs, hvs, hR⟩ : ∃ vs, AVRs ι0 S w (E.all ys) vs ∧ Go.Proofs.Ytjkidecaciomgaa.Reads w w.heap.size E.sz A ys.length vs := by
    rcases hA with hA | ⟨b, off, rfl, hb, vs, v1, v2⟩
    · refine ⟨[], by rw [hA]; rfl, ?_⟩
      have := E.all_len ys
      rw [hA] at this
      have h0' : ys.length = 0 := by
        rcases Nat.eq_zero_or_pos ys.length with h | h
        · exact h
        · have h6 := Nat.mul_pos h h0
          rw [← this] at h6
          cases h6
      exact ⟨by rw [h0']; simp, fun hn => by omega⟩
    · refine ⟨vs, v1, by rw [v1.length, E.all_len], fun hn => ⟨_, rfl, hs.hs.bnd b hb, v2⟩⟩
  have hone := hvs.leaf_one (E.all_leaf ys)
  obtain ⟨v', w', hrun, a1, a2, a3⟩ := run_append_any (P := C.P) w 0 ty o.type e ti z E.sz i.bytes hu t1 t3 (by rw [t5, hsz]) t6 (by rw [← Array.length_toList, t7, hz]) h0 (ρ x) xs.length us (by rw [hx.1]; exact h1) w.heap.size A ys.length c vs hR hone (by unfold maxLen; omega) (by
    calc (xs.length + ys.length) * i.bytes ≤ 1000000 * 100000000 := Nat.mul_le_mul hm hby
      _ ≤ 140737488355328 := by decide) (Nat.zero_le _)
  have hbut : But (F g) w w' := ⟨a2.os, a2.tape, a2.output, a2.size, fun k hk hn => a2.block k hk fun e => hn ((h3 k).2 (by rw [← hx.1]; exact e.symm))⟩
  obtain ⟨hk, hFut⟩ := hs.kill hg rfl hbut
  have hrun' : (execOp ρ o).run C.P w = .ok (.value v') w' := by
    simp [execOp, ho, resolve, invoke, builtin, hy, hrun]
  have hfr : freshR g' ((g, RK.dead) :: r) = true := by simp [freshR, RK.has, hf]
  have hG : ∀ k, v'.ownBlock = some k → F g k ∨ k = w.heap.size := fun k hk => by
    rcases a3 with a3 | a3
    · exact .inl ((h3 k).2 (by rw [← hx.1, ← a3]; exact hk))
    · rw [a3] at hk; injection hk with hk; exact .inr hk.symm
  have hb2 : (ownS e E (xs ++ ys)).H w' S (fun k => v'.ownBlock = some k) v' := by
    refine ⟨⟨us ++ vs, by rw [List.length_append]; exact a1, by rw [E.all_append]; exact (h2.fut hFut fun _ _ => rfl).append (hvs.fut hFut fun _ _ => rfl)⟩, fun _ => Iff.rfl⟩
  refine Does.value hrun' ⟨_, _, S, hk.add (g := g') (x := .obj (ownS e E (xs ++ ys))) (v := v') (G := fun k => v'.ownBlock = some k) hfr hr0 (fun T l e => by cases e) (fun R e => by cases e; exact hb2) (fun k hk => ?_) (fun k hk hS => ?_) (fun n y hn hy hne k hk hk' => ?_), hFut, fun j hj => newI_other (mem_one hj), ?_⟩
  · rcases hG k hk with h | h
    · exact hs.own g _ hg rfl k h
    · subst h; exact .inl hs.but.size
  · rcases hG k hk with h | h
    · exact hs.hs.out g _ hg rfl k h hS
    · subst h; have := hs.hs.bnd _ hS; omega
  · rw [look_cons] at hn
    by_cases e1 : g = n
    · rw [if_pos e1] at hn; cases hn; cases hy
    · rw [if_neg e1] at hn
      rcases hG k hk' with h | h
      · exact hs.hs.dis n g y _ hn hg hy rfl (Ne.symm e1) k hk h
      · subst h; have := hs.hs.lt hn hy hk; omega
  · simp only [AVR, newI_same]
    exact ⟨trivial, (ownS e E (xs ++ ys)).one hb2⟩
end
end Go.Proofs.Ytjkidecaciomgaa
