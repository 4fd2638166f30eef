/- Nodes with rows of their own: arena.Forest's Node and All, told with what is laid for it. -/
import Derived.Test.YtjkidecaciomgaaNe3
import Derived.Test.YtjkidecaciomgaaBD
namespace Go.Proofs.Ytjkidecaciomgaa
set_option linter.unusedVariables false
set_option linter.unusedSimpArgs false
set_option maxRecDepth 100000
open Go.RowKit

def nodeF (x : Nd) (y : AV) : List AV := [.v (.int .i64 x.kind), .v (.int .i64 x.parent), .v (.int .i64 x.host), .v (.int .i64 x.shadow), .v (.int .i64 x.mode), .v (.bool x.slot), .v (.string x.name), .v (.string x.want), y]
/-- A node whose kids' slice is told as it is. -/
def nodeV : Enc (SlV × Nd) where
  sz := 9
  f := fun p => nodeF p.2 (.v p.1.v)
  len := fun _ => rfl
  leaf := fun _ => rfl
def kidsP (ss : List SlV) (l : List Nd) : List (SlV × List Int) := ss.zip (l.map Nd.kids)
/-- Nodes in a row of the call's own, with kids in rows of its own. -/
def nestNd (T e : TypeId) (l : List Nd) : Res where
  H := fun w S F v => ∃ (ss : List SlV) (F1 F2 : Bl), ss.length = l.length ∧ (∀ k, F k ↔ F1 k ∨ F2 k) ∧ (∀ k, F1 k → ¬ F2 k) ∧ (ownS T nodeV (ss.zip l)).H w S F1 v ∧ manyH e intE w S (kidsP ss l) F2
  one := fun ⟨_, _, _, _, _, _, h, _⟩ => Res.one _ h
  bnd := fun ⟨_, _, _, _, h0, _, h1, h2⟩ k hk => by
    rcases (h0 k).1 hk with hk | hk
    · exact Res.bnd _ h1 k hk
    · exact h2.lt k hk
  fut := fun hm hw ⟨ss, F1, F2, hl, h0, h1, h2, h3⟩ => ⟨ss, F1, F2, hl, h0, h1, Res.fut _ hm (fun k hk => hw k (hk.imp id fun hk => (h0 k).2 (.inl hk))) h2, h3.fut hm (fun k hk => hw k (hk.imp id fun hk => (h0 k).2 (.inr hk)))⟩
theorem AVRs.setAt {ι : Nat → Value} {S : Bl} {w : World} {y : AV} : ∀ {l : List AV} {us : List Value} {i : Nat}, AVRs ι S w l us → (∀ v, us[i]? = some v → AVR ι S w y v) → AVRs ι S w (l.set i y) us
  | [], us, i, h, _ => by simpa using h
  | x :: l, us, 0, h, hy => by
    obtain ⟨u, r, rfl, h1, h2⟩ := h
    exact ⟨u, r, rfl, hy u rfl, h2⟩
  | x :: l, us, i + 1, h, hy => by
    obtain ⟨u, r, rfl, h1, h2⟩ := h
    exact ⟨u, r, rfl, h1, h2.setAt fun v hv => hy v (by simpa using hv)⟩
section
variable {C : Cx} {k : List Item} {t : List (Nat × AV)} {r : List (Nat × RK)} {β : Type} {e T : TypeId} {E : Enc β}
/-- A row within a struct's value, by its name. -/
theorem runL_nameA {ops : Array Oper} {l : List Oper} (n g i : Nat) {ks : List β} {la : List AV} (hx : look t n = some (.agg la)) (hi : la[i]? = some (.res g)) (hg : look r g = some (.obj (ownS e E ks))) (h : ∀ s : SlV, s.n = ks.length → RunL C ops l ⟨(n, .agg (la.set i (.v s.v))) :: t, (g, .obj (atS s.v (ownS e E ks))) :: r⟩ k) : RunL C ops l ⟨t, r⟩ k := .mk fun a w hs => by
  have hs' := hs
  obtain ⟨ι, F, S, hA⟩ := hs'
  obtain ⟨⟨us, h3, h5⟩, h6⟩ := hA.sw.hs.ob g _ hg
  have hf : ∃ s : SlV, ι g = s.v ∧ s.n = ks.length := by
    rcases h3.2 with ⟨h7, h8⟩ | ⟨b, cap, cur, h7, _⟩
    · exact ⟨⟨none, 0, 0⟩, h7, h8.symm⟩
    · exact ⟨⟨_, _, _⟩, h7, rfl⟩
  obtain ⟨s, hs1, hs2⟩ := hf
  obtain ⟨hw, _⟩ := hA.sw.turn (x' := .obj (atS s.v (ownS e E ks))) hg rfl (But.refl _ _) (fun _ _ e => by cases e) (fun R' e => by cases e; exact ⟨hs1, hA.sw.hs.ob g _ hg⟩)
  refine (h s hs2).go a w ⟨ι, F, S, hw, fun m z hz => ?_, hA.sz, hA.df⟩
  rw [look_cons] at hz
  by_cases hm : n = m
  · subst hm
    rw [if_pos rfl] at hz
    cases hz
    obtain ⟨u, h1, h2⟩ := hA.ts n _ hx
    simp only [AVR] at h2 ⊢
    obtain ⟨us', hu, hav⟩ := h2
    refine ⟨u, h1, us', hu, hav.setAt fun v hv => ?_⟩
    obtain ⟨v', hv', hR⟩ := hav.get hi
    rw [hv'] at hv
    cases hv
    simp only [AVR] at hR ⊢
    rw [hR.1, hs1]
  · rw [if_neg hm] at hz
    exact hA.ts m z hz
theorem run_packNd (g h : Nat) {ss : List SlV} {l : List Nd} (hg : look r g = some (.obj (ownS T nodeV (ss.zip l)))) (hh : look r h = some (.obj (manyR e intE (kidsP ss l)))) (hne : Nat.beq h g = false) (hl : ss.length = l.length) (hk : Run C k ⟨t, (g, .obj (nestNd T e l)) :: (h, .dead) :: r⟩) : Run C k ⟨t, r⟩ := .mk fun a w hs => by
  obtain ⟨ι, F, S, hA⟩ := hs
  have hne' : h ≠ g := fun e => by subst e; simp at hne
  have hR := hA.sw.hs.ob g _ hg
  obtain ⟨hv, hM⟩ := hA.sw.hs.ob h _ hh
  have hdis := hA.sw.hs.dis g h _ _ hg hh rfl rfl (Ne.symm hne')
  have hlk := hA.sw.leak h
  have hw := hlk.reown (g := g) (R := nestNd T e l) (G := fun k => F g k ∨ F h k) ⟨ss, F g, F h, hl, fun _ => Iff.rfl, hdis, hR, hM⟩ (fun k hk => hk.elim (fun hk => hA.sw.own g _ hg rfl k hk) (fun hk => hA.sw.own h _ hh rfl k hk)) (fun k hk => hk.elim (fun hk => hA.sw.hs.out g _ hg rfl k hk) (fun hk => hA.sw.hs.out h _ hh rfl k hk)) (fun g' y hg' hy hn k hk hk2 => by
    rw [look_cons] at hg'
    by_cases e : h = g'
    · rw [if_pos e] at hg'; cases hg'; cases hy
    · rw [if_neg e] at hg'
      rcases hk2 with hk2 | hk2
      · exact hA.sw.hs.dis g' g _ _ hg' hg hy rfl hn k hk hk2
      · exact hA.sw.hs.dis g' h _ _ hg' hh hy rfl (Ne.symm e) k hk hk2)
  exact hk.go a w ⟨ι, _, S, hw, hA.ts, hA.sz, hA.df⟩
theorem run_openNd (g h : Nat) {l : List Nd} (hg : look r g = some (.obj (nestNd T e l))) (hf : freshR h r = true) (hft : freshT h t = true) (h0 : look C.r0 h = none) (hne : Nat.beq h g = false) (hk : ∀ ss : List SlV, ss.length = l.length → Run C k ⟨t, (h, .obj (manyR e intE (kidsP ss l))) :: (g, .obj (ownS T nodeV (ss.zip l))) :: r⟩) : Run C k ⟨t, r⟩ := .mk fun a w hs => by
  obtain ⟨ι, F, S, hA⟩ := hs
  have hne' : h ≠ g := fun e => by subst e; simp at hne
  obtain ⟨ss, F1, F2, ql, q0, q1, q2, q3⟩ := hA.sw.hs.ob g _ hg
  have hw1 := hA.sw.reown (g := g) (R := ownS T nodeV (ss.zip l)) (G := F1) q2 (fun k hk => hA.sw.own g _ hg rfl k ((q0 k).2 (.inl hk))) (fun k hk => hA.sw.hs.out g _ hg rfl k ((q0 k).2 (.inl hk))) (fun g' y hg' hy hn k hk hk2 => hA.sw.hs.dis g' g _ _ hg' hg hy rfl hn k hk ((q0 k).2 (.inl hk2)))
  have hf1 : freshR h ((g, RK.obj (ownS T nodeV (ss.zip l))) :: r) = true := by
    simp only [freshR, RK.has, hf]
    rfl
  have hw2 := hw1.add (g := h) (x := .obj (manyR e intE (kidsP ss l))) (v := .pointer none) (G := F2) hf1 h0 (fun T l he => by cases he) (fun R he => by cases he; exact ⟨rfl, q3⟩) (fun k hk => hA.sw.own g _ hg rfl k ((q0 k).2 (.inr hk))) (fun k hk => hA.sw.hs.out g _ hg rfl k ((q0 k).2 (.inr hk))) (fun g' y hg' hy hn k hk hk2 => by
    rw [look_cons] at hg'
    by_cases e : g = g'
    · subst e
      rw [newF_same] at hk
      exact q1 k hk hk2
    · rw [if_neg e] at hg'
      rw [newF_other (Ne.symm e)] at hk
      exact hA.sw.hs.dis g' g _ _ hg' hg hy rfl (Ne.symm e) k hk ((q0 k).2 (.inr hk2)))
  refine (hk ss ql).go a w ⟨_, _, S, hw2, fun m z hz => ?_, hA.sz, hA.df⟩
  obtain ⟨u, h1, h2⟩ := hA.ts m z hz
  exact ⟨u, h1, h2.fut (Fut.refl _ _) fun i hi => newI_other fun e => by subst e; rw [freshT_look hft hz] at hi; cases hi⟩
end
theorem many_all {e : TypeId} {w : World} {S S' : Bl} (hS : ∀ k, S k → S' k) : ∀ {ss : List SlV} {l : List Nd} {F : Bl} {us : List Value}, ss.length = l.length → manyH e intE w S (kidsP ss l) F → (∀ k, F k → S' k) → AVRs ι0 S w (nodeV.all (ss.zip l)) us → AVRs ι0 S' w (nodeE.all l) us
  | [], [], _, us, _, _, _, h => h
  | s :: ss, x :: l, F, us, hl, ⟨F1, F2, h1, h2, h3, h4⟩, hF, h => by
    have e1 : nodeV.all ((s, x) :: ss.zip l) = nodeF x (.v s.v) ++ nodeV.all (ss.zip l) := rfl
    have e2 : nodeE.all (x :: l) = nodeL x ++ nodeE.all l := rfl
    rw [List.zip_cons_cons, e1] at h
    rw [e2]
    obtain ⟨_, _, rfl, r0, _, _, rfl, r1, _, _, rfl, r2, _, _, rfl, r3, _, _, rfl, r4, _, _, rfl, r5, _, _, rfl, r6, _, _, rfl, r7, u8, us', rfl, r8, hr⟩ := h
    simp only [AVR] at r8
    subst r8
    refine ⟨_, _, rfl, r0, _, _, rfl, r1, _, _, rfl, r2, _, _, rfl, r3, _, _, rfl, r4, _, _, rfl, r5, _, _, rfl, r6, _, _, rfl, r7, s.v, us', rfl, ?_, many_all hS (by simpa using hl) h4 (fun k hk => hF k ((h1 k).2 (.inr hk))) hr⟩
    simp only [AVR]
    exact ownS_list h3 hS fun k hk => hF k ((h1 k).2 (.inl hk))
  | [], _ :: _, _, _, hl, _, _, _ => by simp at hl
  | _ :: _, [], _, _, hl, _, _, _ => by simp at hl
theorem nestNd_list {T e : TypeId} {w : World} {S S' F : Bl} {v : Value} {l : List Nd} (h : (nestNd T e l).H w S F v) (hS : ∀ k, S k → S' k) (hF : ∀ k, F k → S' k) : (listS nodeE l).R w S' v := by
  obtain ⟨ss, F1, F2, ql, q0, q1, ⟨⟨us, h1, h2⟩, h3⟩, q3⟩ := h
  have hzl : (ss.zip l).length = l.length := by rw [List.length_zip]; omega
  rw [hzl] at h1
  rcases h1.2 with ⟨hv0, h0⟩ | ⟨b, cap, cur, hv, hbase, hh, hn, hcap, hsz, htk⟩
  · have : l = [] := List.eq_nil_of_length_eq_zero h0
    subst this
    exact ⟨none, 0, hv0, by simp, .inl rfl⟩
  · exact ⟨some ⟨b, 0, none⟩, cap, hv, hn, .inr ⟨b, 0, rfl, hF b ((q0 b).2 (.inl ((h3 b).2 (by rw [hv]; rfl)))), us, many_all hS ql q3 (fun k hk => hF k ((q0 k).2 (.inr hk))) h2, fun j u hu => h1.cells (g := b) (by rw [hv]; rfl) j u hu⟩⟩
/-- A contract on what is public serves one resource, if it may be read so. -/
theorem lendR {P : Program} {f : FuncId} {R : Res} {la la' : List AV} {u : Value} (hh : Fun P f la [] (.v u) []) (hle : ∀ (ι : Nat → Value) (F : Nat → Bl) (S : Bl) (w : World) (vals : List Value), R.H w S (F 0) (ι 0) → AVRs ι S w la' vals → AVRs ι (fun k => S k ∨ F 0 k) w la vals) : Fun P f la' [(0, .obj R)] (.v u) [(0, .obj R)] := fun ι F S w vals hs hv => by
  have l0 : look [(0, RK.obj R)] 0 = some (.obj R) := rfl
  have ho0 := hs.ob 0 _ l0
  have hbnd : ∀ k, S k ∨ F 0 k → k < w.heap.size := fun k hk => hk.elim (hs.bnd k) fun hk => hs.lt l0 rfl hk
  refine (hh ι F (fun k => S k ∨ F 0 k) w vals ⟨fun _ _ _ h => (by cases h), fun _ _ h => (by cases h), fun _ _ _ _ h => (by cases h), fun _ _ h => (by cases h), hbnd⟩ (hle ι F S w vals ho0 hv)).mono fun e w' hh2 => ?_
  obtain ⟨ι', F', S', u', rfl, h1, h2, h3, h4, h5, h6, h7⟩ := hh2
  have hb : Below w.heap.size w w' := ⟨h5.os, h5.tape, h5.output, h5.size, fun k hk => h5.block k hk (fun ⟨_, _, h, _⟩ => by cases h)⟩
  have hF' : Fut S w S w' := ⟨fun _ h => h, fun k _ hk => hb.block k hk⟩
  simp only [AVR] at h2
  subst h2
  refine ⟨ι, F, S, u', rfl, hs.step hF' (fun g x hg hx k hk => hb.block k (hs.lt hg hx hk)) hs.out (fun k hk => Nat.lt_of_lt_of_le (hs.bnd k hk) hb.size), by simp [AVR], hF', fun _ _ _ _ => rfl, But.of_below hb, fun k hk => .inl hk, fun g x hg hx k hk => .inr ⟨g, x, hg, hx, hk⟩⟩
theorem lendNd {P : Program} {f : FuncId} {T e : TypeId} {l : List Nd} {bs : List AV} {u : Value} (hb : ∀ ι S S' w vs, (∀ k, S k → S' k) → AVRs ι S w bs vs → AVRs ι S' w bs vs) (hh : Fun P f (.sem (listS nodeE l) :: bs) [] (.v u) []) : Fun P f (.res 0 :: bs) [(0, .obj (nestNd T e l))] (.v u) [(0, .obj (nestNd T e l))] := lendR hh fun ι F S w vals ho hv => by
  simp only [AVRs, AVR] at hv
  obtain ⟨p, vs, rfl, ⟨rfl, _⟩, hvs⟩ := hv
  exact ⟨_, vs, rfl, by simpa [AVR] using nestNd_list ho (fun k hk => .inl hk) (fun k hk => .inr hk), hb _ _ _ _ _ (fun k hk => .inl hk) hvs⟩
theorem lendOne {P : Program} {f : FuncId} {e : TypeId} {x : Nd} {bs : List AV} {u : Value} (hb : ∀ ι S S' w vs, (∀ k, S k → S' k) → AVRs ι S w bs vs → AVRs ι S' w bs vs) (hh : Fun P f (.agg (nodeL x) :: bs) [] (.v u) []) : Fun P f (.agg (nodeF x (.res 0)) :: bs) [(0, .obj (ownS e intE x.kids))] (.v u) [(0, .obj (ownS e intE x.kids))] := lendR hh fun ι F S w vals ho hv => by
  simp only [AVRs, AVR, nodeF] at hv
  obtain ⟨p, vs, rfl, ⟨us, rfl, _, _, rfl, r0, _, _, rfl, r1, _, _, rfl, r2, _, _, rfl, r3, _, _, rfl, r4, _, _, rfl, r5, _, _, rfl, r6, _, _, rfl, r7, u8, us', rfl, ⟨r8, _⟩, rfl⟩, hvs⟩ := hv
  subst r0 r1 r2 r3 r4 r5 r6 r7 r8
  refine ⟨_, vs, rfl, ?_, hb _ _ _ _ _ (fun k hk => .inl hk) hvs⟩
  simp only [AVR, AVRs, nodeL]
  exact ⟨_, rfl, _, _, rfl, rfl, _, _, rfl, rfl, _, _, rfl, rfl, _, _, rfl, rfl, _, _, rfl, rfl, _, _, rfl, rfl, _, _, rfl, rfl, _, _, rfl, rfl, _, _, rfl, ownS_list ho (fun k hk => .inl hk) (fun k hk => .inr hk), rfl⟩
theorem mono_sem {p : Sem} (ι : Nat → Value) (S S' : Bl) (w : World) (vs : List Value) (hS : ∀ k, S k → S' k) (h : AVRs ι S w [.sem p] vs) : AVRs ι S' w [.sem p] vs := h.fut ⟨hS, fun _ _ _ => rfl⟩ fun _ _ => rfl
theorem mono_node {x : Nd} (ι : Nat → Value) (S S' : Bl) (w : World) (vs : List Value) (hS : ∀ k, S k → S' k) (h : AVRs ι S w [.agg (nodeL x)] vs) : AVRs ι S' w [.agg (nodeL x)] vs := h.fut ⟨hS, fun _ _ _ => rfl⟩ fun _ _ => rfl
end Go.Proofs.Ytjkidecaciomgaa
