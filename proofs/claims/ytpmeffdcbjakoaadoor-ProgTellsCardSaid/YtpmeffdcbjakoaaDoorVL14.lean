/- VL, part 14: what is made is left as it is from here on. -/
import Derived.Test.YtpmeffdcbjakoaaDoorVL13
namespace Go.Proofs.YtpmeffdcbjakoaaDoor
set_option linter.unusedVariables false
set_option linter.unusedSimpArgs false
open Go.RowKit

/-- Where g stands, that says what it reads as. -/
def sinkA (g : Nat) (p : Sem) : AV → AV
  | .res i => bif Nat.beq i g then .sem p else .res i
  | x => x
section
variable {C : Cx} {k : List Item} {t : List (Nat × AV)} {r : List (Nat × RK)}
theorem sink_R {ι : Nat → Value} {S : Bl} {w : World} {g : Nat} {p : Sem} (hp : p.R w S (ι g)) : ∀ {l : List AV} {us : List Value}, AVRs ι S w l us → AVRs ι S w (l.map (sinkA g p)) us
  | [], us, h => h
  | x :: l, us, h => by
    simp only [AVRs, List.map_cons] at h ⊢
    obtain ⟨u, r, e, h1, h2⟩ := h
    refine ⟨u, r, e, ?_, sink_R hp h2⟩
    cases x <;> simp only [sinkA] <;> try exact h1
    rename_i i
    cases hb : Nat.beq i g with
    | false => exact h1
    | true =>
      have := Nat.eq_of_beq_eq_true hb
      subst this
      simp only [AVR] at h1
      rw [cond_true]
      simp only [AVR]
      rw [h1.1]
      exact hp
/-- A row that a box names is left as it is. -/
theorem run_freezeIn (g g1 : Nat) {T : TypeId} {l : List AV} {α : Type} {e : TypeId} {E : Enc α} {xs : List α} (hg : look r g = some (.box T l)) (hg1 : look r g1 = some (.obj (ownS e E xs))) (hne : Nat.beq g g1 = false) (h : Run C k ⟨t, (g, .box T (l.map (sinkA g1 (listS E xs)))) :: (g1, .dead) :: r⟩) : Run C k ⟨t, r⟩ := .mk fun a w hs => by
  obtain ⟨ι, F, S, hA⟩ := hs
  have hne' : g ≠ g1 := fun e => by subst e; simp at hne
  have hd := hA.sw.drop g1 hg1 rfl
  have hF : Fut S w (fun k => S k ∨ F g1 k) w := ⟨fun k hk => .inl hk, fun _ _ _ => rfl⟩
  have hg' : look ((g1, RK.dead) :: r) g = some (.box T l) := by rw [look_cons, if_neg (Ne.symm hne')]; exact hg
  obtain ⟨b, h1, h2, cs, h3, h4⟩ := hd.hs.bx g T l hg'
  have hp : (listS E xs).R w (fun k => S k ∨ F g1 k) (ι g1) := ownS_list (hA.sw.hs.ob g1 _ hg1) (fun k hk => .inl hk) (fun k hk => .inr hk)
  obtain ⟨hw, _⟩ := hd.turn (x' := .box T (l.map (sinkA g1 (listS E xs)))) hg' rfl (But.refl _ _) (fun T' l' e => by cases e; exact ⟨b, h1, h2, cs, h3, sink_R hp h4⟩) (fun R' e => by cases e)
  exact h.go a w ⟨ι, F, _, hw, hA.ts.fut hF fun _ _ _ _ _ => rfl, hA.sz, hA.df⟩
/-- A box is left as it is. -/
theorem run_pub (n g : Nat) {T : TypeId} {l : List AV} (hx : look t n = some (.ptr g 0)) (hg : look r g = some (.box T l)) (hl : AV.leaves l = true) (h : Run C k ⟨(n, .sem (adrS l)) :: t, (g, .dead) :: r⟩) : Run C k ⟨t, r⟩ := .mk fun a w hs => by
  obtain ⟨ι, F, S, hA⟩ := hs
  have hF : Fut S w (fun k => S k ∨ F g k) w := ⟨fun k hk => .inl hk, fun _ _ _ => rfl⟩
  refine h.go a w ⟨ι, F, _, hA.sw.drop g hg rfl, fun m z hz => ?_, hA.sz, hA.df⟩
  rw [look_cons] at hz
  by_cases hm : n = m
  · subst hm
    rw [if_pos rfl] at hz
    cases hz
    obtain ⟨u, h1, h2⟩ := hA.ts n _ hx
    simp only [AVR] at h2
    obtain ⟨b', hb', rfl⟩ := h2
    obtain ⟨b, e1, e2, cs, e3, e4⟩ := hA.sw.hs.bx g T l hg
    rw [e1] at hb'
    obtain rfl : b = b' := by simpa [baseOf] using hb'
    refine ⟨_, h1, ?_⟩
    simp only [AVR]
    refine ⟨b, 0, rfl, .inr ((e2 b).2 rfl), cs.toList, (e4.leaf_any hl).fut hF fun _ _ => rfl, fun j u hu => ?_⟩
    rw [Addr.add_lit, Nat.zero_add, cell_of_row w b _ cs T (0, 0) e3, ← Array.getElem?_toList]
    exact hu
  · rw [if_neg hm] at hz
    obtain ⟨u, h1, h2⟩ := hA.ts m z hz
    exact ⟨u, h1, h2.fut hF fun _ _ => rfl⟩
/-- nil in a box, as a row of the call's own. -/
theorem run_ownB (g i g' : Nat) {T : TypeId} {l : List AV} {α : Type} (e : TypeId) (E : Enc α) (hg : look r g = some (.box T l)) (hi : l[i]? = some (.v (.slice none 0 0))) (hne : Nat.beq g g' = false) (hl : AV.hasL g' l = false) (hf : freshR g' r = true) (hft : freshT g' t = true) (h0 : look C.r0 g' = none) (h : Run C k ⟨t, (g, .box T (l.set i (.res g'))) :: (g', .obj (ownS e E [])) :: r⟩) : Run C k ⟨t, r⟩ := .mk fun a w hs => by
  obtain ⟨ι, F, S, hA⟩ := hs
  have hne' : g ≠ g' := fun e => by subst e; simp at hne
  have hw := hA.sw.add (x := .obj (ownS e E [])) (v := .slice none 0 0) (G := fun _ => False) hf h0 (fun T l he => by cases he) (fun R he => by cases he; exact ownS_nil e E w S) (fun k hk => hk.elim) (fun k hk => hk.elim) (fun _ _ _ _ _ _ _ hk => hk)
  have hg' : look ((g', RK.obj (ownS e E [])) :: r) g = some (.box T l) := by rw [look_cons, if_neg (Ne.symm hne')]; exact hg
  obtain ⟨b, h1, h2, cs, h3, h4⟩ := hw.hs.bx g T l hg'
  obtain ⟨u, hu1, hu2⟩ := h4.get hi
  simp only [AVR] at hu2
  subst hu2
  have hset : cs.toList.set i (.slice none 0 0) = cs.toList := by
    apply List.ext_getElem?
    intro j
    rw [List.getElem?_set]
    by_cases e : i = j
    · subst e
      rw [if_pos rfl, if_pos (List.getElem?_eq_some_iff.1 hu1).1, hu1]
    · rw [if_neg e]
  have h5 := h4.set (i := i) (x := .res g') (u := .slice none 0 0) (by simp [AVR, newI_same, Value.oneCell'])
  rw [hset] at h5
  obtain ⟨hw2, _⟩ := hw.turn (x' := .box T (l.set i (.res g'))) hg' rfl (But.refl _ _) (fun T' l' e => by cases e; exact ⟨b, h1, h2, cs, h3, h5⟩) (fun R' e => by cases e)
  exact h.go a w ⟨_, _, _, hw2, hA.ts.fut (Fut.refl _ _) fun n x hx g hg => newI_other fun e => (by subst e; rw [freshT_look hft hx] at hg; cases hg), hA.sz, hA.df⟩
theorem runL_ownB {ops : Array Oper} {ls : List Oper} (g i g' : Nat) {T : TypeId} {l : List AV} {α : Type} (e : TypeId) (E : Enc α) (hg : look r g = some (.box T l)) (hi : l[i]? = some (.v (.slice none 0 0))) (hne : Nat.beq g g' = false) (hl : AV.hasL g' l = false) (hf : freshR g' r = true) (hft : freshT g' t = true) (h0 : look C.r0 g' = none) (h : RunL C ops ls ⟨t, (g, .box T (l.set i (.res g'))) :: (g', .obj (ownS e E [])) :: r⟩ k) : RunL C ops ls ⟨t, r⟩ k := .mk fun a w hs => by
  obtain ⟨ι, F, S, hA⟩ := hs
  have hne' : g ≠ g' := fun e => by subst e; simp at hne
  have hw := hA.sw.add (x := .obj (ownS e E [])) (v := .slice none 0 0) (G := fun _ => False) hf h0 (fun T l he => by cases he) (fun R he => by cases he; exact ownS_nil e E w S) (fun k hk => hk.elim) (fun k hk => hk.elim) (fun _ _ _ _ _ _ _ hk => hk)
  have hg' : look ((g', RK.obj (ownS e E [])) :: r) g = some (.box T l) := by rw [look_cons, if_neg (Ne.symm hne')]; exact hg
  obtain ⟨b, h1, h2, cs, h3, h4⟩ := hw.hs.bx g T l hg'
  obtain ⟨u, hu1, hu2⟩ := h4.get hi
  simp only [AVR] at hu2
  subst hu2
  have hset : cs.toList.set i (.slice none 0 0) = cs.toList := by
    apply List.ext_getElem?
    intro j
    rw [List.getElem?_set]
    by_cases e : i = j
    · subst e
      rw [if_pos rfl, if_pos (List.getElem?_eq_some_iff.1 hu1).1, hu1]
    · rw [if_neg e]
  have h5 := h4.set (i := i) (x := .res g') (u := .slice none 0 0) (by simp [AVR, newI_same, Value.oneCell'])
  rw [hset] at h5
  obtain ⟨hw2, _⟩ := hw.turn (x' := .box T (l.set i (.res g'))) hg' rfl (But.refl _ _) (fun T' l' e => by cases e; exact ⟨b, h1, h2, cs, h3, h5⟩) (fun R' e => by cases e)
  exact h.go a w ⟨_, _, _, hw2, hA.ts.fut (Fut.refl _ _) fun n x hx g hg => newI_other fun e => (by subst e; rw [freshT_look hft hx] at hg; cases hg), hA.sz, hA.df⟩
end
/-- A body that ends. -/
theorem run_end {C : Cx} {σ : VS} (m : Nat → Nat) (l : List AV) (hf : C.P.funcs[C.f]? = some C.fn) (hl : ResA C.P σ C.fn.results.toList l) (hrv : oneA l = C.rv.ren m) (hk : KeepM m C.r0) (hr : WkR σ.r m C.r1) (hn : nodupB (idsM m C.r1) = true) : Run C [] σ := .mk fun a w hs => by
  obtain ⟨ι, F, S, hA⟩ := hs
  obtain ⟨us, h1, h2⟩ := resA_run hA.sw.hs hA.ts hl
  have key : ∃ u, (results C.fn a.tmps).run C.P w = .ok u w ∧ AVR ι S w (oneA l) u := by
    have hm : (C.fn.results.mapM (resF a.tmps)).run C.P w = Result.ok us.toArray w := by
      rw [Array.mapM_eq_mapM_toList]
      simp only [Sem.run_map, h1, Result.andThen_ok]
    refine ⟨_, by
      have he : results C.fn a.tmps = (do let vs ← C.fn.results.mapM (resF a.tmps); pure (if h : vs.size = 1 then vs[0] else .tuple vs)) := by
        unfold results
        congr 1
      rw [he, Sem.run_bind, hm, Result.andThen_ok]
      rfl, ?_⟩
    have hlen := h2.length
    match l, us, h2, hlen with
    | [x], [u], h2, _ =>
      simp only [AVRs] at h2
      obtain ⟨u', r, e, h3, _⟩ := h2
      cases e
      simpa [oneA] using h3
    | [], [], h2, _ => exact ⟨[], by simp, h2⟩
    | x :: y :: l, u :: v :: us, h2, _ => exact ⟨u :: v :: us, by simp, h2⟩
    | [x], [], _, h => simp at h
    | [x], _ :: _ :: _, _, h => simp at h
    | [], _ :: _, _, h => simp at h
    | _ :: _ :: _, [], _, h => simp at h
    | _ :: _ :: _, [_], _, h => simp at h
  obtain ⟨u, h3, h4⟩ := key
  intro b cs hbf hbk
  refine ⟨.returned u, w, { b.at a [] with mode := .returning }, ?_, .one step_end, hbf, rfl, hA.df, hbk, C.fn, by show C.P.funcs[b.fn]? = _; rw [hbf]; exact hf, h3⟩
  rw [hrv] at h4
  refine ⟨fun g => ι (m g), fun g => F (m g), S, u, rfl, hA.sw.hs.ren hr hn, AVR.ren.1 h4, hA.sw.fut, fun g x hg hx => ?_, hA.sw.but, hA.sw.sb, fun g x hg hx => hA.sw.own _ _ (hr.look hg) (by rw [RK.live_ren]; exact hx)⟩
  show ι (m g) = C.ι0 g
  rw [hk.look hg]; exact hA.sw.keep g x hg hx
/-- A contract without resources, as a walk: all that was there may be read. -/
theorem Fun.calls {P : Program} {f : FuncId} {l : List AV} {u : Value} (h : Fun P f l [] (.v u) []) {w : World} {vals : List Value} (hv : AVRs ι0 (fun k => k < w.heap.size) w l vals) : Calls P f vals.toArray w fun e w' => e = .returned u ∧ Below w.heap.size w w' :=
  (h ι0 (fun _ _ => False) (fun k => k < w.heap.size) w vals ⟨fun _ _ _ h => (by cases h), fun _ _ h => (by cases h), fun _ _ _ _ h => (by cases h), fun _ _ h => (by cases h), fun _ h => h⟩ hv).mono fun e w' hr => by
    obtain ⟨ι', F', S', u', rfl, h1, h2, h3, h4, h5, h6, h7⟩ := hr
    simp only [AVR] at h2
    subst h2
    exact ⟨rfl, h5.os, h5.tape, h5.output, h5.size, fun k hk => h5.block k hk (fun ⟨_, _, h, _⟩ => by cases h)⟩
end Go.Proofs.YtpmeffdcbjakoaaDoor
