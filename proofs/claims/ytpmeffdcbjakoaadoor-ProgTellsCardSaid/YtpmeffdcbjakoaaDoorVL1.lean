/- VL, part 1: abstract values, resources, what they say of a world. -/
import Derived.Test.YtpmeffdcbjakoaaDoorMem2
import Derived.WalkKit
namespace Go.Proofs.YtpmeffdcbjakoaaDoor
set_option linter.unusedVariables false
set_option linter.unusedSimpArgs false
open Go.RowKit

abbrev Bl := Nat → Prop
/-- What a value of one cell says, resting on blocks of S alone. -/
structure Sem where
  R : World → Bl → Value → Prop
  one : ∀ {w S v}, R w S v → v.oneCell' = true
  fut : ∀ {w w' : World} {S S' : Bl} {v : Value}, (∀ k, S k → S' k) → (∀ k, S k → k < w.heap.size → w'.heap[k]? = w.heap[k]?) → R w S v → R w' S' v

inductive AV where
  | v (x : Value)
  | sem (p : Sem)
  | res (g : Nat)
  | ptr (g o : Nat)
  | fn (f : FuncId) (l : List AV)
  | agg (l : List AV)
  | tup (l : List AV)

mutual
def AV.has (g : Nat) : AV → Bool
  | .v _ => false
  | .sem _ => false
  | .res i => Nat.beq i g
  | .ptr i _ => Nat.beq i g
  | .fn _ l => AV.hasL g l
  | .agg l => AV.hasL g l
  | .tup l => AV.hasL g l
def AV.hasL (g : Nat) : List AV → Bool
  | [] => false
  | x :: r => or (AV.has g x) (AV.hasL g r)
end

/-- Resources but boxes: w, the public blocks, its own blocks, the value by which it is known. -/
structure Res where
  H : World → Bl → Bl → Value → Prop
  one : ∀ {w S F v}, H w S F v → v.oneCell' = true
  bnd : ∀ {w S F v}, H w S F v → ∀ k, F k → k < w.heap.size
  fut : ∀ {w w' : World} {S S' F : Bl} {v : Value}, (∀ k, S k → S' k) → (∀ k, S k ∨ F k → k < w.heap.size → w'.heap[k]? = w.heap[k]?) → H w S F v → H w' S' F v

inductive RK where
  | dead
  | box (T : TypeId) (l : List AV)
  | obj (r : Res)
def RK.live : RK → Bool
  | .dead => false
  | .box _ _ => true
  | .obj _ => true
def RK.has (g : Nat) : RK → Bool
  | .dead => false
  | .box _ l => AV.hasL g l
  | .obj _ => false

def look {α : Type} : List (Nat × α) → Nat → Option α
  | [], _ => none
  | (k, x) :: l, n => bif Nat.beq k n then some x else look l n
theorem look_cons {α : Type} (k : Nat) (x : α) (l : List (Nat × α)) (n : Nat) : look ((k, x) :: l) n = if k = n then some x else look l n := by
  simp only [look]
  by_cases h : k = n
  · subst h; simp
  · have : Nat.beq k n = false := by
      cases hb : Nat.beq k n
      · rfl
      · exact absurd (Nat.eq_of_beq_eq_true hb) h
    rw [this, if_neg h]; rfl
theorem look_mem {α : Type} : ∀ {l : List (Nat × α)} {n : Nat} {x : α}, look l n = some x → (n, x) ∈ l
  | [], _, _, h => by cases h
  | (k, y) :: l, n, x, h => by
    rw [look_cons] at h
    by_cases e : k = n
    · rw [if_pos e] at h; cases h; subst e; exact List.mem_cons_self
    · rw [if_neg e] at h; exact List.mem_cons_of_mem _ (look_mem h)

structure VS where
  t : List (Nat × AV)
  r : List (Nat × RK)

/-- The block at whose begin a pointer, or a slice, lies. -/
def baseOf : Value → Option Nat
  | .pointer (some a) => if a.off = 0 ∧ a.spot = none then some a.block else none
  | .slice (some a) _ _ => if a.off = 0 ∧ a.spot = none then some a.block else none
  | _ => none
mutual
def AVR (ι : Nat → Value) (S : Bl) (w : World) : AV → Value → Prop
  | .v x, u => u = x
  | .sem p, u => p.R w S u
  | .res g, u => u = ι g ∧ u.oneCell' = true
  | .ptr g o, u => ∃ b, baseOf (ι g) = some b ∧ u = .pointer (some ⟨b, o, none⟩)
  | .fn f l, u => ∃ us : List Value, u = .func (.func f) #[] us.toArray ∧ AVRs ι S w l us
  | .agg l, u => ∃ us : List Value, u = .agg us.toArray ∧ AVRs ι S w l us
  | .tup l, u => ∃ us : List Value, u = .tuple us.toArray ∧ AVRs ι S w l us
def AVRs (ι : Nat → Value) (S : Bl) (w : World) : List AV → List Value → Prop
  | [], us => us = []
  | x :: l, us => ∃ u r, us = u :: r ∧ AVR ι S w x u ∧ AVRs ι S w l r
end

/-- The public blocks stay as they are; there may be more of them. -/
structure Fut (S : Bl) (w : World) (S' : Bl) (w' : World) : Prop where
  mono : ∀ k, S k → S' k
  same : ∀ k, S k → k < w.heap.size → w'.heap[k]? = w.heap[k]?
theorem Fut.refl (S : Bl) (w : World) : Fut S w S w := ⟨fun _ h => h, fun _ _ _ => rfl⟩
theorem Fut.trans {S S' S'' : Bl} {w w' w'' : World} (h : Fut S w S' w') (h' : Fut S' w' S'' w'') (hs : w.heap.size ≤ w'.heap.size) : Fut S w S'' w'' :=
  ⟨fun k hk => h'.mono k (h.mono k hk), fun k hk hl => (h'.same k (h.mono k hk) (by omega)).trans (h.same k hk hl)⟩

section
variable {ι ι' : Nat → Value} {S S' : Bl} {w w' : World}
mutual
theorem AVR.fut (hF : Fut S w S' w') : ∀ {x : AV} {u : Value}, (∀ g, x.has g = true → ι' g = ι g) → AVR ι S w x u → AVR ι' S' w' x u
  | .v x, u, _, h => by simpa [AVR] using h
  | .sem p, u, _, h => by
    simp only [AVR] at h ⊢
    exact p.fut hF.mono hF.same h
  | .res g, u, hg, h => by
    simp only [AVR] at h ⊢
    rw [hg g (by simp [AV.has])]; exact h
  | .ptr g o, u, hg, h => by
    simp only [AVR] at h ⊢
    rw [hg g (by simp [AV.has])]; exact h
  | .fn f l, u, hg, h => by
    simp only [AVR] at h ⊢
    obtain ⟨us, e, hl⟩ := h
    exact ⟨us, e, AVRs.fut hF (fun g h1 => hg g (by simpa [AV.has] using h1)) hl⟩
  | .agg l, u, hg, h => by
    simp only [AVR] at h ⊢
    obtain ⟨us, e, hl⟩ := h
    exact ⟨us, e, AVRs.fut hF (fun g h1 => hg g (by simpa [AV.has] using h1)) hl⟩
  | .tup l, u, hg, h => by
    simp only [AVR] at h ⊢
    obtain ⟨us, e, hl⟩ := h
    exact ⟨us, e, AVRs.fut hF (fun g h1 => hg g (by simpa [AV.has] using h1)) hl⟩
theorem AVRs.fut (hF : Fut S w S' w') : ∀ {l : List AV} {us : List Value}, (∀ g, AV.hasL g l = true → ι' g = ι g) → AVRs ι S w l us → AVRs ι' S' w' l us
  | [], us, _, h => by simpa [AVRs] using h
  | x :: l, us, hg, h => by
    simp only [AVRs] at h ⊢
    obtain ⟨u, r, e, h1, h2⟩ := h
    exact ⟨u, r, e, AVR.fut hF (fun g h3 => hg g (by simp [AV.hasL, h3])) h1, AVRs.fut hF (fun g h3 => hg g (by simp [AV.hasL, h3])) h2⟩
end
theorem AVRs.length : ∀ {l : List AV} {us : List Value}, AVRs ι S w l us → us.length = l.length
  | [], us, h => by simp only [AVRs] at h; rw [h]; rfl
  | x :: l, us, h => by
    simp only [AVRs] at h
    obtain ⟨u, r, e, _, h2⟩ := h
    rw [e, List.length_cons, List.length_cons, AVRs.length h2]
theorem AVRs.get : ∀ {l : List AV} {us : List Value} {i : Nat} {x : AV}, AVRs ι S w l us → l[i]? = some x → ∃ u, us[i]? = some u ∧ AVR ι S w x u
  | [], us, i, x, _, hx => by simp at hx
  | y :: l, us, i, x, h, hx => by
    simp only [AVRs] at h
    obtain ⟨u, r, e, h1, h2⟩ := h
    subst e
    match i, hx with
    | 0, hx => exact ⟨u, rfl, by cases hx; exact h1⟩
    | i + 1, hx =>
      have := AVRs.get h2 (i := i) (x := x) (by simpa using hx)
      simpa using this
theorem AVRs.set : ∀ {l : List AV} {us : List Value} {i : Nat} {x : AV} {u : Value}, AVRs ι S w l us → AVR ι S w x u → AVRs ι S w (l.set i x) (us.set i u)
  | [], us, i, x, u, h, _ => by
    simp only [AVRs] at h
    subst h
    simp [AVRs]
  | y :: l, us, i, x, u, h, hx => by
    simp only [AVRs] at h
    obtain ⟨u0, r, e, h1, h2⟩ := h
    subst e
    match i with
    | 0 => exact ⟨u, r, rfl, hx, h2⟩
    | i + 1 => exact ⟨u0, r.set i u, rfl, h1, AVRs.set h2 hx⟩
theorem AVRs.drop : ∀ {l : List AV} {us : List Value} (n : Nat), AVRs ι S w l us → AVRs ι S w (l.drop n) (us.drop n)
  | l, us, 0, h => by simpa using h
  | [], us, n + 1, h => by
    simp only [AVRs] at h
    subst h
    simp [AVRs]
  | y :: l, us, n + 1, h => by
    simp only [AVRs] at h
    obtain ⟨u, r, e, h1, h2⟩ := h
    subst e
    simpa using AVRs.drop n h2
theorem AVRs.take : ∀ {l : List AV} {us : List Value} (n : Nat), AVRs ι S w l us → AVRs ι S w (l.take n) (us.take n)
  | l, us, 0, h => by simp [AVRs]
  | [], us, n + 1, h => by
    simp only [AVRs] at h
    subst h
    simp [AVRs]
  | y :: l, us, n + 1, h => by
    simp only [AVRs] at h
    obtain ⟨u, r, e, h1, h2⟩ := h
    subst e
    exact ⟨u, r.take n, rfl, h1, AVRs.take n h2⟩
theorem AVRs.append : ∀ {l l' : List AV} {us us' : List Value}, AVRs ι S w l us → AVRs ι S w l' us' → AVRs ι S w (l ++ l') (us ++ us')
  | [], l', us, us', h, h' => by
    simp only [AVRs] at h
    subst h
    simpa using h'
  | y :: l, l', us, us', h, h' => by
    simp only [AVRs] at h
    obtain ⟨u, r, e, h1, h2⟩ := h
    subst e
    exact ⟨u, r ++ us', rfl, h1, AVRs.append h2 h'⟩
end

/-- Memory, as the resources say. -/
structure HeapSim (r : List (Nat × RK)) (ι : Nat → Value) (F : Nat → Bl) (S : Bl) (w : World) : Prop where
  bx : ∀ g T l, look r g = some (.box T l) → ∃ b, ι g = .pointer (some ⟨b, 0, none⟩) ∧ (∀ k, F g k ↔ k = b) ∧ ∃ cs : Array Value, w.heap[b]? = some (.cells cs T (0, 0)) ∧ AVRs ι S w l cs.toList
  ob : ∀ g R, look r g = some (.obj R) → R.H w S (F g) (ι g)
  dis : ∀ g g' x x', look r g = some x → look r g' = some x' → x.live = true → x'.live = true → g ≠ g' → ∀ k, F g k → ¬ F g' k
  out : ∀ g x, look r g = some x → x.live = true → ∀ k, F g k → ¬ S k
  bnd : ∀ k, S k → k < w.heap.size

theorem HeapSim.lt {r : List (Nat × RK)} {ι : Nat → Value} {F : Nat → Bl} {S : Bl} {w : World} (h : HeapSim r ι F S w) {g : Nat} {x : RK} (hg : look r g = some x) (hl : x.live = true) {k : Nat} (hk : F g k) : k < w.heap.size := by
  cases x with
  | dead => cases hl
  | box T l =>
    obtain ⟨b, _, hF, cs, hb, _⟩ := h.bx g T l hg
    rw [(hF k).1 hk]
    exact (Array.getElem?_eq_some_iff.1 hb).1
  | obj R => exact R.bnd (h.ob g R hg) k hk

/-- Where no resource's block turns, and no public one, all stays. -/
theorem HeapSim.step {r : List (Nat × RK)} {ι : Nat → Value} {F : Nat → Bl} {S S' : Bl} {w w' : World} (h : HeapSim r ι F S w) (hF : Fut S w S' w') (hown : ∀ g x, look r g = some x → x.live = true → ∀ k, F g k → w'.heap[k]? = w.heap[k]?)
    (hout : ∀ g x, look r g = some x → x.live = true → ∀ k, F g k → ¬ S' k) (hb : ∀ k, S' k → k < w'.heap.size) : HeapSim r ι F S' w' := by
  refine ⟨fun g T l hg => ?_, fun g R hg => ?_, h.dis, hout, hb⟩
  · obtain ⟨b, h1, h2, cs, h3, h4⟩ := h.bx g T l hg
    exact ⟨b, h1, h2, cs, (hown g _ hg rfl b ((h2 b).2 rfl)).trans h3, h4.fut hF fun _ _ => rfl⟩
  · exact R.fut hF.mono (fun k hk hl => hk.elim (fun hs => hF.same k hs hl) fun hf => hown g _ hg rfl k hf) (h.ob g R hg)

/-- What the proof of one function's call goes by: its place, the world and the public blocks at its begin, the resources that came in (r0), its result and the resources that it leaves. -/
structure Cx where
  P : Program
  f : FuncId
  fn : Func
  N : Nat
  w0 : World
  S0 : Bl
  ι0 : Nat → Value
  F0 : Nat → Bl
  r0 : List (Nat × RK)
  rv : AV
  r1 : List (Nat × RK)
/-- The blocks of what came in. -/
def Dom (r : List (Nat × RK)) (F : Nat → Bl) : Bl := fun k => ∃ g x, look r g = some x ∧ x.live = true ∧ F g k
abbrev Cx.D (C : Cx) : Bl := Dom C.r0 C.F0

structure SimW (C : Cx) (r : List (Nat × RK)) (ι : Nat → Value) (F : Nat → Bl) (S : Bl) (w : World) : Prop where
  hs : HeapSim r ι F S w
  but : But C.D C.w0 w
  own : ∀ g x, look r g = some x → x.live = true → ∀ k, F g k → C.w0.heap.size ≤ k ∨ C.D k
  sb : ∀ k, S k → C.S0 k ∨ C.w0.heap.size ≤ k ∨ C.D k
  fut : Fut C.S0 C.w0 S w
  keep : ∀ g x, look C.r0 g = some x → x.live = true → ι g = C.ι0 g
/-- The world has grown: no resource's block has turned. -/
theorem SimW.step {C : Cx} {r : List (Nat × RK)} {ι : Nat → Value} {F : Nat → Bl} {S S' : Bl} {w w' : World} (h : SimW C r ι F S w) (hb : Below w.heap.size w w') (hm : ∀ k, S k → S' k) (hs : ∀ k, S' k → S k ∨ w.heap.size ≤ k) (hl : ∀ k, S' k → k < w'.heap.size) : SimW C r ι F S' w' := by
  have hF : Fut S w S' w' := ⟨hm, fun k _ hk => hb.block k hk⟩
  refine ⟨h.hs.step hF (fun g x hg hx k hk => hb.block k (h.hs.lt hg hx hk)) (fun g x hg hx k hk hS => ?_) hl, h.but.trans (But.of_below hb), h.own, fun k hk => ?_, h.fut.trans hF h.but.size, h.keep⟩
  · rcases hs k hS with h1 | h1
    · exact h.hs.out g x hg hx k hk h1
    · have := h.hs.lt hg hx hk
      omega
  · rcases hs k hk with h1 | h1
    · exact h.sb k h1
    · have := h.but.size
      exact .inr (.inl (by omega))
theorem SimW.same {C : Cx} {r : List (Nat × RK)} {ι : Nat → Value} {F : Nat → Bl} {S : Bl} {w w' : World} (h : SimW C r ι F S w) (hb : Below w.heap.size w w') : SimW C r ι F S w' :=
  h.step hb (fun _ h => h) (fun _ h => .inl h) (fun k hk => by have := h.hs.bnd k hk; have := hb.size; omega)

def TS (t : List (Nat × AV)) (ι : Nat → Value) (S : Bl) (w : World) (a : Act) : Prop :=
  ∀ n x, look t n = some x → ∃ u, a.tmps[n]? = some u ∧ AVR ι S w x u

structure SimA (C : Cx) (σ : VS) (ι : Nat → Value) (F : Nat → Bl) (S : Bl) (a : Act) (w : World) : Prop where
  sw : SimW C σ.r ι F S w
  ts : TS σ.t ι S w a
  sz : a.tmps.size = C.N
  df : a.defers = []

def Sim (C : Cx) (σ : VS) (a : Act) (w : World) : Prop := ∃ ι F S, SimA C σ ι F S a w

def evalA (t : List (Nat × AV)) : Operand → Option AV
  | .tmp n => look t n
  | .const x => some (.v x)
  | .global g => some (.v (.pointer (some ⟨g, 0, none⟩)))
  | .func f => some (.v (.func (.func f) #[] #[]))
theorem TS.eval {t : List (Nat × AV)} {ι : Nat → Value} {S : Bl} {w : World} {a : Act} (h : TS t ι S w a) {x : Operand} {y : AV} (hx : evalA t x = some y) : AVR ι S w y (a.eval x) := by
  cases x with
  | tmp n =>
    obtain ⟨u, h1, h2⟩ := h n y hx
    have : a.eval (.tmp n) = u := by
      have h1' : (a.tmps.getD n undef) = u := by rw [Array.getD_eq_getD_getElem?, h1]; rfl
      exact h1'
    rw [this]; exact h2
  | const c => cases hx; simp [AVR, Act.eval]
  | global g => cases hx; simp [AVR, Act.eval]
  | func f => cases hx; simp [AVR, Act.eval]
theorem TS.put {t : List (Nat × AV)} {ι ι' : Nat → Value} {S S' : Bl} {w w' : World} {a : Act} (h : TS t ι S w a) (hF : Fut S w S' w') (hι : ∀ n x, look t n = some x → ∀ g, x.has g = true → ι' g = ι g) {d : Nat} {y : AV} {u : Value} (hd : d < a.tmps.size) (hu : AVR ι' S' w' y u) : TS ((d, y) :: t) ι' S' w' (a.put (some d) u) := by
  intro n x hx
  rw [look_cons] at hx
  by_cases e : d = n
  · subst e
    rw [if_pos rfl] at hx
    cases hx
    exact ⟨u, by simp [Act.put, hd], hu⟩
  · rw [if_neg e] at hx
    obtain ⟨u0, h1, h2⟩ := h n x hx
    exact ⟨u0, by simp [Act.put, e, h1], h2.fut hF (hι n x hx)⟩
theorem TS.fut {t : List (Nat × AV)} {ι ι' : Nat → Value} {S S' : Bl} {w w' : World} {a : Act} (h : TS t ι S w a) (hF : Fut S w S' w') (hι : ∀ n x, look t n = some x → ∀ g, x.has g = true → ι' g = ι g) : TS t ι' S' w' a := by
  intro n x hx
  obtain ⟨u0, h1, h2⟩ := h n x hx
  exact ⟨u0, h1, h2.fut hF (hι n x hx)⟩
end Go.Proofs.YtpmeffdcbjakoaaDoor
