/- Rows within rows: a resource of many rows; an outer row whose elements are slices that it owns. -/
import Derived.Test.YtjkidecaciomgaaBC
namespace Go.Proofs.Ytjkidecaciomgaa
set_option linter.unusedVariables false
set_option linter.unusedSimpArgs false
set_option maxRecDepth 100000
open Go.RowKit

/-- A resource that has other blocks from here on. -/
theorem SimW.reown {C : Cx} {r : List (Nat × RK)} {ι : Nat → Value} {F : Nat → Bl} {S : Bl} {w : World} (h : SimW C r ι F S w) {g : Nat} {R : Res} {G : Bl} (hob : R.H w S G (ι g))
    (hG : ∀ k, G k → C.w0.heap.size ≤ k ∨ C.D k) (hS : ∀ k, G k → ¬ S k) (hd : ∀ g' y, look r g' = some y → y.live = true → g' ≠ g → ∀ k, F g' k → ¬ G k) :
    SimW C ((g, .obj R) :: r) ι (newF F g G) S w := by
  refine ⟨⟨fun n T l hn => ?_, fun n R' hn => ?_, fun n n' y y' hn hn' hy hy' hne k hk => ?_, fun n y hn hy k hk => ?_, h.hs.bnd⟩, h.but, fun n y hn hy k hk => ?_, h.sb, h.fut, h.keep⟩
  · rw [look_cons] at hn
    by_cases e : g = n
    · rw [if_pos e] at hn
      cases hn
    · rw [if_neg e] at hn
      rw [newF_other (fun e' => e e'.symm)]
      exact h.hs.bx n T l hn
  · rw [look_cons] at hn
    by_cases e : g = n
    · subst e
      rw [if_pos rfl] at hn
      cases hn
      rw [newF_same]
      exact hob
    · rw [if_neg e] at hn
      rw [newF_other (fun e' => e e'.symm)]
      exact h.hs.ob n R' hn
  · rw [look_cons] at hn hn'
    by_cases e : g = n
    · subst e
      rw [if_neg hne] at hn'
      rw [newF_same] at hk
      rw [newF_other (Ne.symm hne)]
      exact fun hk' => hd n' y' hn' hy' (Ne.symm hne) k hk' hk
    · rw [if_neg e] at hn
      rw [newF_other (Ne.symm e)] at hk
      by_cases e' : g = n'
      · subst e'
        rw [newF_same]
        exact hd n y hn hy (Ne.symm e) k hk
      · rw [if_neg e'] at hn'
        rw [newF_other (Ne.symm e')]
        exact h.hs.dis n n' y y' hn hn' hy hy' hne k hk
  · rw [look_cons] at hn
    by_cases e : g = n
    · subst e
      rw [newF_same] at hk
      exact hS k hk
    · rw [if_neg e] at hn
      rw [newF_other (Ne.symm e)] at hk
      exact h.hs.out n y hn hy k hk
  · rw [look_cons] at hn
    by_cases e : g = n
    · subst e
      rw [newF_same] at hk
      exact hG k hk
    · rw [if_neg e] at hn
      rw [newF_other (Ne.symm e)] at hk
      exact h.own n y hn hy k hk
/-- A resource is let go: its blocks are nobody's. -/
theorem SimW.leak {C : Cx} {r : List (Nat × RK)} {ι : Nat → Value} {F : Nat → Bl} {S : Bl} {w : World} (h : SimW C r ι F S w) (g : Nat) : SimW C ((g, .dead) :: r) ι F S w := by
  have key : ∀ n y, look ((g, RK.dead) :: r) n = some y → y.live = true → n ≠ g ∧ look r n = some y := fun n y hn hy => by
    rw [look_cons] at hn
    by_cases e : g = n
    · rw [if_pos e] at hn; cases hn; cases hy
    · rw [if_neg e] at hn; exact ⟨Ne.symm e, hn⟩
  exact ⟨⟨fun n T l hn => h.hs.bx n T l (key n _ hn rfl).2, fun n R hn => h.hs.ob n R (key n _ hn rfl).2, fun n n' y y' hn hn' hy hy' hne => h.hs.dis n n' y y' (key n y hn hy).2 (key n' y' hn' hy').2 hy hy' hne, fun n y hn hy => h.hs.out n y (key n y hn hy).2 hy, h.hs.bnd⟩, h.but, fun n y hn hy => h.own n y (key n y hn hy).2 hy, h.sb, h.fut, h.keep⟩
/-- A slice's value. -/
structure SlV where
  A : Option Addr
  n : Nat
  c : Nat
def SlV.v (s : SlV) : Value := .slice s.A s.n s.c
section
variable {β : Type} {e : TypeId} {E : Enc β} {w w' : World} {S S' : Bl}
def manyH (e : TypeId) (E : Enc β) (w : World) (S : Bl) : List (SlV × List β) → Bl → Prop
  | [], F => ∀ k, ¬ F k
  | p :: ps, F => ∃ F1 F2, (∀ k, F k ↔ F1 k ∨ F2 k) ∧ (∀ k, F1 k → ¬ F2 k) ∧ (ownS e E p.2).H w S F1 p.1.v ∧ manyH e E w S ps F2
theorem manyH.lt : ∀ {ps : List (SlV × List β)} {F : Bl}, manyH e E w S ps F → ∀ k, F k → k < w.heap.size
  | [], F, h, k, hk => absurd hk (h k)
  | p :: ps, F, ⟨F1, F2, h1, _, h3, h4⟩, k, hk => by
    rcases (h1 k).1 hk with hk | hk
    · exact (ownS e E p.2).bnd h3 k hk
    · exact h4.lt k hk
theorem manyH.fut (hm : ∀ k, S k → S' k) : ∀ {ps : List (SlV × List β)} {F : Bl}, (∀ k, S k ∨ F k → k < w.heap.size → w'.heap[k]? = w.heap[k]?) → manyH e E w S ps F → manyH e E w' S' ps F
  | [], F, _, h => h
  | p :: ps, F, hw, ⟨F1, F2, h1, h2, h3, h4⟩ => by
    refine ⟨F1, F2, h1, h2, (ownS e E p.2).fut hm (fun k hk => hw k (hk.imp id fun hk => (h1 k).2 (.inl hk))) h3, h4.fut hm fun k hk => hw k (hk.imp id fun hk => (h1 k).2 (.inr hk))⟩
/-- One of the rows, and what turns it. -/
theorem manyH.at : ∀ {ps : List (SlV × List β)} {F : Bl} {i : Nat} {p : SlV × List β}, manyH e E w S ps F → ps[i]? = some p →
    ∃ Fi, (∀ k, Fi k → F k) ∧ (ownS e E p.2).H w S Fi p.1.v ∧ ∀ (w' : World) (q : SlV × List β), (∀ k, S k ∨ ¬ Fi k → k < w.heap.size → w'.heap[k]? = w.heap[k]?) → (ownS e E q.2).H w' S Fi q.1.v → manyH e E w' S (ps.set i q) F
  | p :: ps, F, 0, p', ⟨F1, F2, h1, h2, h3, h4⟩, hi => by
    simp at hi
    subst hi
    refine ⟨F1, fun k hk => (h1 k).2 (.inl hk), h3, fun w' q hw hq => ⟨F1, F2, h1, h2, hq, h4.fut (fun _ h => h) fun k hk hl => hw k (hk.imp id fun hk hk1 => h2 k hk1 hk) hl⟩⟩
  | p :: ps, F, i + 1, p', ⟨F1, F2, h1, h2, h3, h4⟩, hi => by
    simp at hi
    obtain ⟨Fi, g1, g2, g3⟩ := h4.at hi
    refine ⟨Fi, fun k hk => (h1 k).2 (.inr (g1 k hk)), g2, fun w' q hw hq => ⟨F1, F2, h1, h2, (ownS e E p.2).fut (fun _ h => h) (fun k hk hl => hw k (hk.imp id fun hk hk1 => h2 k hk (g1 k hk1)) hl) h3, g3 w' q hw hq⟩⟩
  | [], _, _, _, _, hi => by simp at hi
def manyR (e : TypeId) (E : Enc β) (ps : List (SlV × List β)) : Res where
  H := fun w S F v => v = .pointer none ∧ manyH e E w S ps F
  one := fun h => by rw [h.1]; rfl
  bnd := fun h => h.2.lt
  fut := fun hm hw h => ⟨h.1, h.2.fut hm hw⟩
end
/-- Values as they are. -/
def valE : Enc SlV where
  sz := 1
  f := fun s => [.v s.v]
  len := fun _ => rfl
  leaf := fun _ => rfl
/-- An outer row whose elements are slices of rows that it owns. -/
def nestR {β : Type} (T e : TypeId) (E : Enc β) (ls : List (List β)) : Res where
  H := fun w S F v => ∃ (ps : List (SlV × List β)) (F1 F2 : Bl), (∀ k, F k ↔ F1 k ∨ F2 k) ∧ (∀ k, F1 k → ¬ F2 k) ∧ (ownS T valE (ps.map (·.1))).H w S F1 v ∧ manyH e E w S ps F2 ∧ ps.map (·.2) = ls
  one := fun ⟨_, _, _, _, _, h, _⟩ => Res.one _ h
  bnd := fun ⟨_, _, _, h0, _, h1, h2, _⟩ k hk => by
    rcases (h0 k).1 hk with hk | hk
    · exact Res.bnd _ h1 k hk
    · exact h2.lt k hk
  fut := fun hm hw ⟨ps, F1, F2, h0, h1, h2, h3, h4⟩ => ⟨ps, F1, F2, h0, h1, Res.fut _ hm (fun k hk => hw k (hk.imp id fun hk => (h0 k).2 (.inl hk))) h2, h3.fut hm (fun k hk => hw k (hk.imp id fun hk => (h0 k).2 (.inr hk))), h4⟩
section
variable {C : Cx} {k : List Item} {t : List (Nat × AV)} {r : List (Nat × RK)} {β : Type} {e : TypeId} {E : Enc β}
/-- No rows yet. -/
theorem run_many0 (h : Nat) (e : TypeId) (E : Enc β) (hf : freshR h r = true) (hft : freshT h t = true) (h0 : look C.r0 h = none) (hk : Run C k ⟨t, (h, .obj (manyR e E [])) :: r⟩) : Run C k ⟨t, r⟩ := .mk fun a w hs => by
  obtain ⟨ι, F, S, hA⟩ := hs
  have hw := hA.sw.add (x := .obj (manyR e E [])) (v := .pointer none) (G := fun _ => False) hf h0 (fun T l he => by cases he) (fun R he => by cases he; exact ⟨rfl, fun _ h => h⟩) (fun k hk => hk.elim) (fun k hk => hk.elim) (fun _ _ _ _ _ _ _ hk => hk)
  refine hk.go a w ⟨_, _, S, hw, fun m z hz => ?_, hA.sz, hA.df⟩
  obtain ⟨u, h1, h2⟩ := hA.ts m z hz
  exact ⟨u, h1, h2.fut (Fut.refl _ _) fun i hi => newI_other fun e => by subst e; rw [freshT_look hft hz] at hi; cases hi⟩
theorem manyH_snoc {w : World} {S : Bl} {p : SlV × List β} {F3 : Bl} (hp : (ownS e E p.2).H w S F3 p.1.v) : ∀ {ps : List (SlV × List β)} {F : Bl}, manyH e E w S ps F → (∀ k, F3 k → ¬ F k) → manyH e E w S (ps ++ [p]) fun k => F k ∨ F3 k
  | [], F, h, hd => ⟨F3, fun _ => False, fun k => ⟨fun hk => .inl (hk.resolve_left (h k)), fun hk => .inr (hk.resolve_right id)⟩, fun k _ hk => hk, hp, fun _ hk => hk⟩
  | q :: ps, F, ⟨F1, F2, h1, h2, h3, h4⟩, hd => by
    refine ⟨F1, fun k => F2 k ∨ F3 k, fun k => by show F k ∨ F3 k ↔ F1 k ∨ F2 k ∨ F3 k; rw [h1]; exact or_assoc, fun k hk hk2 => ?_, h3, manyH_snoc hp h4 fun k hk hk2 => hd k hk ((h1 k).2 (.inr hk2))⟩
    rcases hk2 with hk2 | hk2
    · exact h2 k hk hk2
    · exact hd k hk2 ((h1 k).2 (.inl hk))
/-- A row of the call's own, known by its value, joins the many. -/
theorem run_sinkM (g2 h : Nat) {ps : List (SlV × List β)} {u : SlV} {ks : List β} (hg2 : look r g2 = some (.obj (atS u.v (ownS e E ks)))) (hh : look r h = some (.obj (manyR e E ps))) (hne : Nat.beq g2 h = false) (hk : Run C k ⟨t, (h, .obj (manyR e E (ps ++ [(u, ks)]))) :: (g2, .dead) :: r⟩) : Run C k ⟨t, r⟩ := .mk fun a w hs => by
  obtain ⟨ι, F, S, hA⟩ := hs
  have hne' : g2 ≠ h := fun e => by subst e; simp at hne
  obtain ⟨hu, hR2⟩ := hA.sw.hs.ob g2 _ hg2
  obtain ⟨hv, hM⟩ := hA.sw.hs.ob h _ hh
  have hdis := hA.sw.hs.dis g2 h _ _ hg2 hh rfl rfl hne'
  have hl := hA.sw.leak g2
  rw [hu] at hR2
  have hw := hl.reown (g := h) (R := manyR e E (ps ++ [(u, ks)])) (G := fun k => F h k ∨ F g2 k) ⟨hv, manyH_snoc (p := (u, ks)) hR2 hM hdis⟩ (fun k hk => hk.elim (fun hk => hA.sw.own h _ hh rfl k hk) (fun hk => hA.sw.own g2 _ hg2 rfl k hk)) (fun k hk => hk.elim (fun hk => hA.sw.hs.out h _ hh rfl k hk) (fun hk => hA.sw.hs.out g2 _ hg2 rfl k hk)) (fun g' y hg' hy hn k hk hk2 => by
    rw [look_cons] at hg'
    by_cases e : g2 = g'
    · rw [if_pos e] at hg'; cases hg'; cases hy
    · rw [if_neg e] at hg'
      rcases hk2 with hk2 | hk2
      · exact hA.sw.hs.dis g' h _ _ hg' hh hy rfl hn k hk hk2
      · exact hA.sw.hs.dis g' g2 _ _ hg' hg2 hy rfl (Ne.symm e) k hk hk2)
  exact hk.go a w ⟨ι, _, S, hw, hA.ts, hA.sz, hA.df⟩
/-- The outer row and the many become one. -/
theorem run_pack (g h : Nat) {T : TypeId} {ps : List (SlV × List β)} {us : List SlV} {ls : List (List β)} (hg : look r g = some (.obj (ownS T valE us))) (hh : look r h = some (.obj (manyR e E ps))) (hne : Nat.beq h g = false) (hu : ps.map (·.1) = us) (hls : ps.map (·.2) = ls) (hk : Run C k ⟨t, (g, .obj (nestR T e E ls)) :: (h, .dead) :: r⟩) : Run C k ⟨t, r⟩ := .mk fun a w hs => by
  obtain ⟨ι, F, S, hA⟩ := hs
  have hne' : h ≠ g := fun e => by subst e; simp at hne
  have hR := hA.sw.hs.ob g _ hg
  obtain ⟨hv, hM⟩ := hA.sw.hs.ob h _ hh
  have hdis := hA.sw.hs.dis g h _ _ hg hh rfl rfl (Ne.symm hne')
  have hl := hA.sw.leak h
  subst hu
  have hw := hl.reown (g := g) (R := nestR T e E ls) (G := fun k => F g k ∨ F h k) ⟨ps, F g, F h, fun _ => Iff.rfl, hdis, hR, hM, hls⟩ (fun k hk => hk.elim (fun hk => hA.sw.own g _ hg rfl k hk) (fun hk => hA.sw.own h _ hh rfl k hk)) (fun k hk => hk.elim (fun hk => hA.sw.hs.out g _ hg rfl k hk) (fun hk => hA.sw.hs.out h _ hh rfl k hk)) (fun g' y hg' hy hn k hk hk2 => by
    rw [look_cons] at hg'
    by_cases e : h = g'
    · rw [if_pos e] at hg'; cases hg'; cases hy
    · rw [if_neg e] at hg'
      rcases hk2 with hk2 | hk2
      · exact hA.sw.hs.dis g' g _ _ hg' hg hy rfl hn k hk hk2
      · exact hA.sw.hs.dis g' h _ _ hg' hh hy rfl (Ne.symm e) k hk hk2)
  exact hk.go a w ⟨ι, _, S, hw, hA.ts, hA.sz, hA.df⟩
/-- The outer row and the many, apart. -/
theorem run_open (g h : Nat) {T : TypeId} {ls : List (List β)} (hg : look r g = some (.obj (nestR T e E ls))) (hf : freshR h r = true) (hft : freshT h t = true) (h0 : look C.r0 h = none) (hne : Nat.beq h g = false) (hk : ∀ ps : List (SlV × List β), ps.map (·.2) = ls → Run C k ⟨t, (h, .obj (manyR e E ps)) :: (g, .obj (ownS T valE (ps.map (·.1)))) :: r⟩) : Run C k ⟨t, r⟩ := .mk fun a w hs => by
  obtain ⟨ι, F, S, hA⟩ := hs
  have hne' : h ≠ g := fun e => by subst e; simp at hne
  obtain ⟨ps, F1, F2, q0, q1, q2, q3, q4⟩ := hA.sw.hs.ob g _ hg
  have hw1 := hA.sw.reown (g := g) (R := ownS T valE (ps.map (·.1))) (G := F1) q2 (fun k hk => hA.sw.own g _ hg rfl k ((q0 k).2 (.inl hk))) (fun k hk => hA.sw.hs.out g _ hg rfl k ((q0 k).2 (.inl hk))) (fun g' y hg' hy hn k hk hk2 => hA.sw.hs.dis g' g _ _ hg' hg hy rfl hn k hk ((q0 k).2 (.inl hk2)))
  have hf1 : freshR h ((g, RK.obj (ownS T valE (ps.map (·.1)))) :: r) = true := by
    simp only [freshR, RK.has, hf]
    rfl
  have hw2 := hw1.add (g := h) (x := .obj (manyR e E ps)) (v := .pointer none) (G := F2) hf1 h0 (fun T l he => by cases he) (fun R he => by cases he; exact ⟨rfl, q3⟩) (fun k hk => hA.sw.own g _ hg rfl k ((q0 k).2 (.inr hk))) (fun k hk => hA.sw.hs.out g _ hg rfl k ((q0 k).2 (.inr hk))) (fun g' y hg' hy hn k hk hk2 => by
    rw [look_cons] at hg'
    by_cases e : g = g'
    · subst e
      rw [newF_same] at hk
      exact q1 k hk hk2
    · rw [if_neg e] at hg'
      rw [newF_other (Ne.symm e)] at hk
      exact hA.sw.hs.dis g' g _ _ hg' hg hy rfl (Ne.symm e) k hk ((q0 k).2 (.inr hk2)))
  refine (hk ps q4).go a w ⟨_, _, S, hw2, fun m z hz => ?_, hA.sz, hA.df⟩
  obtain ⟨u, h1, h2⟩ := hA.ts m z hz
  exact ⟨u, h1, h2.fut (Fut.refl _ _) fun i hi => newI_other fun e => by subst e; rw [freshT_look hft hz] at hi; cases hi⟩
/-- How the elements look. -/
theorem many_form {w : World} {S : Bl} : ∀ {ps : List (SlV × List β)} {F : Bl}, manyH e E w S ps F → ∀ p ∈ ps, (p.1 = ⟨none, 0, 0⟩ ∧ p.2 = []) ∨ ∃ b cap, p.1 = ⟨some ⟨b, 0, none⟩, p.2.length, cap⟩
  | q :: ps, F, ⟨F1, F2, h1, h2, ⟨⟨us, h3, h5⟩, h6⟩, h4⟩, p, hp => by
    rcases List.mem_cons.1 hp with rfl | hp
    · obtain ⟨⟨A, n, c⟩, l⟩ := p
      rcases h3.2 with ⟨h7, h8⟩ | ⟨b, cap, cur, h7, _⟩
      · simp only [SlV.v, Value.slice.injEq] at h7
        obtain ⟨rfl, rfl, rfl⟩ := h7
        exact .inl ⟨rfl, List.eq_nil_of_length_eq_zero h8⟩
      · simp only [SlV.v, Value.slice.injEq] at h7
        obtain ⟨rfl, rfl, rfl⟩ := h7
        exact .inr ⟨b, _, rfl⟩
    · exact many_form h4 p hp
  | [], _, _, p, hp => by simp at hp
theorem run_form (h : Nat) {ps : List (SlV × List β)} (hh : look r h = some (.obj (manyR e E ps))) (hk : (∀ p ∈ ps, (p.1 = ⟨none, 0, 0⟩ ∧ p.2 = []) ∨ ∃ b cap, p.1 = ⟨some ⟨b, 0, none⟩, p.2.length, cap⟩) → Run C k ⟨t, r⟩) : Run C k ⟨t, r⟩ := .mk fun a w hs => by
  obtain ⟨ι, F, S, hA⟩ := hs
  exact (hk (many_form (hA.sw.hs.ob h _ hh).2)).go a w ⟨ι, F, S, hA⟩
/-- A row by its name, that is a slice. -/
theorem runL_nameS {ops : Array Oper} {l : List Oper} (n g : Nat) {ks : List β} (hx : look t n = some (.res g)) (hg : look r g = some (.obj (ownS e E ks))) (h : ∀ s : SlV, s.n = ks.length → RunL C ops l ⟨(n, .v s.v) :: t, (g, .obj (atS s.v (ownS e E ks))) :: r⟩ k) : RunL C ops l ⟨t, r⟩ k := .mk fun a w hs => by
  have hs' := hs
  obtain ⟨ι, F, S, hA⟩ := hs'
  obtain ⟨⟨us, h3, h5⟩, h6⟩ := hA.sw.hs.ob g _ hg
  have hf : ∃ s : SlV, ι g = s.v ∧ s.n = ks.length := by
    rcases h3.2 with ⟨h7, h8⟩ | ⟨b, cap, cur, h7, _⟩
    · exact ⟨⟨none, 0, 0⟩, h7, h8.symm⟩
    · exact ⟨⟨_, _, _⟩, h7, rfl⟩
  obtain ⟨s, hs1, hs2⟩ := hf
  obtain ⟨hw, _⟩ := hA.sw.turn (x' := .obj (atS s.v (ownS e E ks))) hg rfl (But.refl _ _) (fun _ _ e => by cases e) (fun R' e => by cases e; exact ⟨hs1, hA.sw.hs.ob g _ hg⟩)
  refine (h s hs2).go a w ⟨ι, F, S, hw, fun m z hz => ?_, hA.sz, hA.df⟩
  rw [look_cons] at hz
  by_cases hm : n = m
  · subst hm
    rw [if_pos rfl] at hz
    cases hz
    obtain ⟨u, h1, h2⟩ := hA.ts n _ hx
    simp only [AVR] at h2
    exact ⟨u, h1, by simp only [AVR]; rw [h2.1, hs1]⟩
  · rw [if_neg hm] at hz
    exact hA.ts m z hz
end
end Go.Proofs.Ytjkidecaciomgaa
