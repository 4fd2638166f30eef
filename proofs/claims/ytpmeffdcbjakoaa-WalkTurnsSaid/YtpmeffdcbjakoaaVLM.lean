/- VL, marks: from a place on, the code is walked by hand (where a range over a function lays its mark). -/
import Derived.Test.YtpmeffdcbjakoaaVL14
import Derived.RangeFuncLeaves
import Derived.RegionIn
import Derived.RangeFuncWrites
namespace Go.Proofs.Ytpmeffdcbjakoaa
set_option linter.unusedVariables false
set_option linter.unusedSimpArgs false
open Go.RowKit

/-- What is to be shown of a part of the code: that the rest goes well, or that the function is left. -/
def tailPost (C : Cx) (k : List Item) (n : Nat) : Exit → Act → World → Prop
  | .normal, a, w => Go_ C k a w
  | .exit id, a, w => ∃ k', exitTo id k = some k' ∧ Go_ C k' a w
  | .ret, a, w => LeavesInM Fence.wide n C.P C.fn a.tmps C.R a.defers .returning w
  | _, _, _ => False
theorem go_marks {C : Cx} {c : Code} {k : List Item} {a : Act} {w : World} (n : Nat) (hf : C.P.funcs[C.f]? = some C.fn) (h : c.wpIn Fence.wide n C.P (tailPost C k n) a w) : Go_ C (.code c :: k) a w := fun b cs hb hk => by
  obtain ⟨e, a', w', q, harr⟩ := h { b with roundOf := none } k cs rfl trivial (room_wide _)
  have hf' : C.P.funcs[b.fn]? = some C.fn := by rw [hb]; exact hf
  cases e with
  | normal =>
    obtain ⟨e1, w1, fr, h1, h2, h3, h4⟩ := q b cs hb hk
    exact ⟨e1, w1, fr, h1, Comes.of_steps (StepsIn.steps harr) h2, h3, h4⟩
  | ret =>
    obtain ⟨todo, hs₀⟩ := harr.1 rfl
    obtain ⟨e', w'', fr', hR, hs, hfn, hl⟩ := leaves_stepsInM (F := Fence.wide) a'.defers .returning w' { ({ b with roundOf := none } : Frame).atR a' todo with mode := .returning } cs rfl rfl rfl hf' hk trivial (room_wide _) q
    exact ⟨e', w'', fr', hR, (ComesIn.of_steps hs₀ hs).comes, hfn.trans hb, hl⟩
  | panic chain => exact q.elim
  | exit id =>
    obtain ⟨k', h0, q⟩ := q
    obtain ⟨e1, w1, fr, h1, h2, h3, h4⟩ := q b cs hb hk
    exact ⟨e1, w1, fr, h1, Comes.of_steps (StepsIn.steps (harr.1 k' h0)) h2, h3, h4⟩
  | goto l => exact q.elim
  | outgrown => exact q.elim
theorem go_inBlock {C : Cx} {id : Nat} {k : List Item} {a : Act} {w : World} (h : Go_ C k a w) : Go_ C (.inBlock id :: k) a w := h.step fun _ _ => step_inBlock
theorem go_inLoop {C : Cx} {c : Code} {k : List Item} {a : Act} {w : World} (h : Go_ C (.code c :: .inLoop c :: k) a w) : Go_ C (.inLoop c :: k) a w := h.step fun _ _ => step_inLoop
/-- From here on by hand. -/
theorem run_marks {C : Cx} {c : Code} {k : List Item} {σ : VS} (n : Nat) (hf : C.P.funcs[C.f]? = some C.fn) (h : ∀ ι F S a w, SimA C σ ι F S a w → c.wpIn Fence.wide n C.P (tailPost C k n) a w) : Run C (.code c :: k) σ := .mk fun a w hs => by
  obtain ⟨ι, F, S, hA⟩ := hs
  exact go_marks n hf (h ι F S a w hA)
/-- What is handed back where nothing that the caller had has turned. -/
theorem cxR_of {C : Cx} {σ : VS} {ι : Nat → Value} {F : Nat → Bl} {S : Bl} {a : Act} {w w' : World} {u : Value} (hA : SimA C σ ι F S a w) (h0 : C.r0 = []) (h1 : C.r1 = []) (hv : C.rv = .v u) (hb : Below C.w0.heap.size w w') : C.R (.returned u) w' := by
  obtain ⟨P, f, fn, N, w0, S0, ι0', F0, r0, rv, r1⟩ := C
  dsimp only at h0 h1 hv hb
  subst h0 h1 hv
  have hD : ∀ k, ¬ Cx.D ⟨P, f, fn, N, w0, S0, ι0', F0, [], .v u, []⟩ k := fun k ⟨_, _, h, _⟩ => by cases h
  have hB : But (Cx.D ⟨P, f, fn, N, w0, S0, ι0', F0, [], .v u, []⟩) w0 w' := by
    have h := hA.sw.but
    exact ⟨hb.os.trans h.os, hb.tape.trans h.tape, hb.output.trans h.output, Nat.le_trans h.size hb.size, fun k hk hd => (hb.block k hk).trans (h.block k hk hd)⟩
  exact ⟨ι0', F0, S0, u, rfl, ⟨fun _ _ _ h => (by cases h), fun _ _ h => (by cases h), fun _ _ _ _ h => (by cases h), fun _ _ h => (by cases h), fun k hk => Nat.lt_of_lt_of_le (hA.sw.hs.bnd k (hA.sw.fut.mono k hk)) hb.size⟩, by simp [AVR], ⟨fun _ h => h, fun k _ hk => hB.block k hk (hD k)⟩, fun _ _ _ _ => rfl, hB, fun k hk => .inl hk, fun _ _ h => (by cases h)⟩
/-- A frame's slots, written out. -/
theorem list_cut {l : List Value} {n : Nat} (h : l.length = n + 1) : ∃ x r, l = x :: r ∧ r.length = n := by
  cases l with
  | nil => cases h
  | cons x r => exact ⟨x, r, rfl, by simpa using h⟩
/-- A slice whose row lies below a place. -/
def listB {α : Type} (n : Nat) (E : Enc α) (xs : List α) : Sem where
  R := fun w S v => (listS E xs).R w S v ∧ (0 < xs.length → ∀ ad l c, v = .slice (some ad) l c → ad.block < n)
  one := fun h => (listS E xs).one h.1
  fut := fun hm hw h => ⟨(listS E xs).fut hm hw h.1, h.2⟩
theorem listB_le {α : Type} (n : Nat) (E : Enc α) (xs : List α) : Le (.sem (listB n E xs)) (.sem (listS E xs)) := fun ι S w u h => by
  simp only [AVR] at h ⊢
  exact h.1
theorem listB_of {α : Type} {n : Nat} {E : Enc α} {xs : List α} {w : World} {S : Bl} {v : Value} (h : (listS E xs).R w S v) (hz : E.sz ≠ 0) (hS : ∀ k, S k → k < n) : (listB n E xs).R w S v := by
  refine ⟨h, fun hn ad l c e => ?_⟩
  obtain ⟨A, c', rfl, _, hr⟩ := h
  cases e
  rcases hr with hr | ⟨b, off, hA, hb, _⟩
  · have := E.all_len xs
    rw [hr] at this
    have h2 : xs.length * E.sz ≠ 0 := Nat.mul_ne_zero (by omega) hz
    simp at this
    omega
  · cases hA
    exact hS b hb
/-- As fun_intro; what comes in may be told better, by what came in. -/
theorem fun_pin {P : Program} {f : FuncId} {fn : Func} {c : Code} {args : List AV} {r0 r1 : List (Nat × RK)} {rv : AV} (N : Nat) (hf : P.funcs[f]? = some fn) (hb : fn.body = some c) (hN : fn.ntmps = N)
    (h : ∀ (ι : Nat → Value) (F : Nat → Bl) (S : Bl) (w : World) (vals : List Value), HeapSim r0 ι F S w → AVRs ι S w args vals → ∃ args', AVRs ι S w args' vals ∧ Nat.ble args'.length N = true ∧ Run ⟨P, f, fn, N, w, S, ι, F, r0, rv, r1⟩ [.code c] ⟨argT 0 args', r0⟩) : Fun P f args r0 rv r1 := fun ι F S w vals hh hv => by
  obtain ⟨args', hv', hl, hrun⟩ := h ι F S w vals hh hv
  have hlen := hv'.length
  have hle := Nat.le_of_ble_eq_true hl
  intro cs
  let b : Frame := { (default : Frame) with fn := f, kind := .normal }
  have henter : Frame.enter P f vals.toArray .normal = b.at { tmps := vals.toArray ++ Array.replicate (fn.ntmps - vals.toArray.size) undef, defers := [] } [.code c] := by
    simp [Frame.enter, Frame.at, hf, hb, b]
  have hsim : Sim ⟨P, f, fn, N, w, S, ι, F, r0, rv, r1⟩ ⟨argT 0 args', r0⟩ { tmps := vals.toArray ++ Array.replicate (fn.ntmps - vals.toArray.size) undef, defers := [] } w := by
    refine ⟨ι, F, S, ⟨hh, But.refl _ _, fun g x hg hx k hk => .inr ⟨g, x, hg, hx, hk⟩, fun k hk => .inl hk, Fut.refl _ _, fun _ _ _ _ => rfl⟩, fun n x hx => ?_, ?_, rfl⟩
    · obtain ⟨_, h2⟩ := argT_look hx
      rw [Nat.sub_zero] at h2
      obtain ⟨u, h3, h4⟩ := hv'.get h2
      refine ⟨u, ?_, h4⟩
      have hlt := (List.getElem?_eq_some_iff.1 h3).1
      rw [Array.getElem?_append_left (by simpa using hlt)]
      simpa using h3
    · simp only [Array.size_append, List.size_toArray, Array.size_replicate]
      omega
  obtain ⟨e, w1, fr, h1, h2, h3, h4⟩ := hrun.go _ w hsim b cs rfl rfl
  rw [← henter] at h2
  exact ⟨e, w1, fr, h1, h2, h3, h4⟩
section
variable {C : Cx} {σ : VS} {ι : Nat → Value} {F : Nat → Bl} {S : Bl} {a : Act} {w : World} (hA : SimA C σ ι F S a w) (h0 : C.r0 = [])
include hA h0
/-- A box of one cell, and where it lies. -/
theorem sim_box {g : Nat} {T : TypeId} {x : AV} (hr : look σ.r g = some (.box T [x])) : ∃ b u, ι g = .pointer (some ⟨b, 0, none⟩) ∧ w.heap[b]? = some (.cells #[u] T (0, 0)) ∧ AVR ι S w x u ∧ C.w0.heap.size ≤ b ∧ b < w.heap.size ∧ (¬ S b) ∧ ∀ k, F g k ↔ k = b := by
  obtain ⟨b, e1, e2, cs, e3, e4⟩ := hA.sw.hs.bx g T _ hr
  simp only [AVRs] at e4
  obtain ⟨u, r, e5, e6, rfl⟩ := e4
  have hcs : cs = #[u] := Array.toList_inj.1 e5
  subst hcs
  refine ⟨b, u, e1, e3, e6, ?_, (Array.getElem?_eq_some_iff.1 e3).1, hA.sw.hs.out g _ hr rfl b ((e2 b).2 rfl), e2⟩
  rcases hA.sw.own g _ hr rfl b ((e2 b).2 rfl) with h | ⟨_, _, h, _⟩
  · exact h
  · rw [h0] at h
    cases h
omit h0 in
theorem sim_ptr {n g b : Nat} (ht : look σ.t n = some (.ptr g 0)) (hb : ι g = .pointer (some ⟨b, 0, none⟩)) : a.tmps[n]? = some (.pointer (some ⟨b, 0, none⟩)) := by
  obtain ⟨u, h1, h2⟩ := hA.ts n _ ht
  simp only [AVR, hb] at h2
  obtain ⟨b', h3, rfl⟩ := h2
  rw [h1]
  simp [baseOf] at h3
  rw [h3]
omit h0 in
theorem sim_ne {g g' b b' : Nat} {x x' : RK} (hg : look σ.r g = some x) (hg' : look σ.r g' = some x') (hx : x.live = true) (hx' : x'.live = true) (hne : g ≠ g') (h1 : ∀ k, F g k ↔ k = b) (h2 : ∀ k, F g' k ↔ k = b') : b ≠ b' := fun e => hA.sw.hs.dis g g' x x' hg hg' hx hx' hne b ((h1 b).2 rfl) ((h2 b).2 e)
end
/-- A loop of some rounds. -/
theorem go_rounds {C : Cx} {c : Code} {k : List Item} (N : Nat) (Inv : Nat → Act → World → Prop) (n : Nat) (hf : C.P.funcs[C.f]? = some C.fn) (h : ∀ i, i < N → ∀ a w, Inv i a w → c.wpIn Fence.wide n C.P (fun e a' w' => e = .normal ∧ Inv (i + 1) a' w') a w)
    (h2 : ∀ a w, Inv N a w → Go_ C (.code c :: .inLoop c :: k) a w) {a : Act} {w : World} (h0 : Inv 0 a w) : Go_ C (.code c :: .inLoop c :: k) a w := by
  have key : ∀ m i, i + m = N → ∀ a w, Inv i a w → Go_ C (.code c :: .inLoop c :: k) a w := by
    intro m
    induction m with
    | zero => exact fun i hi a w hI => h2 a w (by rw [← hi]; exact hI)
    | succ m ih =>
      intro i hi a w hI
      refine go_marks n hf (wpIn_mono (h i (by omega) a w hI) ?_)
      rintro e a' w' ⟨rfl, hI'⟩
      exact go_inLoop (ih (i + 1) (by omega) a' w' hI')
  exact key N 0 (by omega) a w h0
def markD (D : Nat) : Deferred := { target := .collected D, args := #[] }
theorem marks_leave {F : Fence} {n : Nat} {P : Program} {fn : Func} {tmps : Array Value} {R : Ending → World → Prop} (B : Nat) : ∀ (ds : List Nat) (w : World), ds.Nodup → (∀ D ∈ ds, B ≤ D ∧ w.heap[D]? = some (.deferred (some []))) →
    (∀ w', Below B w w' → w'.heap.size = w.heap.size → LeavesInM F n P fn tmps R [] .returning w') → LeavesInM F n P fn tmps R (ds.map markD) .returning w
  | [], w, _, _, h => h w (Below.refl _ _) rfl
  | D :: ds, w, hn, hd, h => by
    obtain ⟨hB, hD⟩ := hd D (by simp)
    obtain ⟨hn1, hn2⟩ := List.nodup_cons.1 hn
    have hg := grownBy_putObj' w D (.deferred none)
    refine ⟨by simp, .inl ⟨D, _, rfl, run_takeDeferred hD, marks_leave B ds _ hn2 (fun D' hD' => ?_) fun w' hb hs => h w' ?_ (by rw [hs]; simp)⟩⟩
    · obtain ⟨h1, h2⟩ := hd D' (by simp [hD'])
      exact ⟨h1, (World.putObj_heap_other (fun e => hn1 (by rw [← e]; exact hD'))).trans h2⟩
    · exact ((Below.refl B w).grown hg (by have := (Array.getElem?_eq_some_iff.1 hD).1; omega) (fun k e => by cases e; exact hB)).trans hb
end Go.Proofs.Ytpmeffdcbjakoaa
