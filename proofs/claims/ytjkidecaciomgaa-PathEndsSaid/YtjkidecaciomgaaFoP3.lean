/- What the laws of law 14 ask, plain. -/
import Derived.Test.YtjkidecaciomgaaFoP2
namespace Go.Proofs.Ytjkidecaciomgaa
set_option linter.unusedVariables false
set_option linter.unusedSimpArgs false
set_option maxRecDepth 100000
open Go.RowKit

theorem ev_in {l : List Nd} (h : WF l) {target : Int} {n0 : Nd} (ht : nodeAt l target = some n0) {a : Int} (ha : rootM l target ∈ ch l upX a) : evP l target false a = 0 ∨ rootM l target ∈ ch l upX (evP l target false a) := by
  obtain ⟨r, hr, hr0⟩ := root_some h ht
  generalize hR : rootM l target = R at *
  cases hn : nodeAt l a with
  | none => exact .inl (by rw [evP, hn])
  | some n =>
    have hup := up_step h hn
    have hroot : n.parent ≠ 0 → R ∈ ch l upX n.parent := fun hp => by
      rw [hup, show upX n = n.parent by simp [upX, hp]] at ha
      rcases List.mem_cons.1 ha with e | e
      · rw [e, hn] at hr
        cases hr
        exact absurd hr0 hp
      · exact e
    by_cases h0 : ofM l a = 0
    · have e : evP l target false a = if n.kind ≠ 3 then n.parent else if R = a then 0 else n.host := by rw [evP, hn, hR]; simp [h0]
      rw [e]
      by_cases hk : n.kind ≠ 3
      · rw [if_pos hk]
        by_cases hp : n.parent = 0
        · exact .inl hp
        · exact .inr (hroot hp)
      · rw [if_neg hk]
        by_cases he : R = a
        · rw [if_pos he]; exact .inl rfl
        · rw [if_neg he]
          right
          have hp := h.root hn (by simp [rootedB]; omega)
          rw [hup, show upX n = n.host by simp [upX, hp]] at ha
          exact (List.mem_cons.1 ha).resolve_left he
    · right
      obtain ⟨n', p, hn', hk, hp, hs, hm, _⟩ := of_ok h h0
      rw [hn] at hn'
      cases hn'
      have e : evP l target false a = ofM l a := by rw [evP, hn]; simp [h0]
      rw [e]
      have hp0 : n.parent ≠ 0 := fun e => by rw [e, nodeAt_zero] at hp; cases hp
      obtain ⟨y, hy, hyh⟩ := ((h.shad hp).resolve_left hs).2
      have hpn := nodeAt_some hp
      have hyk : y.kind = 3 := ((h.host hy).resolve_left (by rw [hyh]; omega)).1
      have hyp : y.parent = 0 := h.root hy (by simp [rootedB, hyk])
      refine up_trans h ?_ (par_up h hm)
      rw [up_step h hy, show upX y = n.parent by simp [upX, hyp, hyh]]
      exact List.mem_cons_of_mem _ (hroot hp0)
section
variable {l : List Nd} {target related : Int} {comp : Bool}
theorem way_tg {xs : List St} {t f a : Int} (h : Way l target related comp t f a xs) : ∀ s ∈ xs, s.target = 0 ∨ s.target = s.node := by
  induction h with
  | stop _ _ _ => intro s hs; cases hs
  | done => intro s hs; cases hs
  | same _ _ _ ih =>
    intro s hs
    rcases List.mem_cons.1 hs with rfl | hs
    · exact .inl rfl
    · exact ih s hs
  | turn _ _ _ _ ih =>
    intro s hs
    rcases List.mem_cons.1 hs with rfl | hs
    · exact .inr rfl
    · exact ih s hs
theorem way_in (hw : WF l) {n0 : Nd} (ht : nodeAt l target = some n0) {xs : List St} {t f a : Int} (h : Way l target related false t f a xs) (ha : a = 0 ∨ rootM l target ∈ ch l upX a) : ∀ s ∈ xs, rootM l target ∈ ch l upX s.node := by
  induction h with
  | stop _ _ _ => intro s hs; cases hs
  | done => intro s hs; cases hs
  | same h0 _ _ ih =>
    intro s hs
    rcases List.mem_cons.1 hs with rfl | hs
    · exact ha.resolve_left h0
    · exact ih (ev_in hw ht (ha.resolve_left h0)) s hs
  | turn h0 _ _ _ ih =>
    intro s hs
    rcases List.mem_cons.1 hs with rfl | hs
    · exact ha.resolve_left h0
    · exact ih (ev_in hw ht (ha.resolve_left h0)) s hs
structure UpOk (l : List Nd) (target : Int) (comp : Bool) (xs : List St) : Prop where
  hd : ∀ s, xs[0]? = some s → s.node = target ∧ s.target = target ∧ s.cs = false
  nx : ∀ i s s', xs[i]? = some s → xs[i + 1]? = some s' → s'.node = evP l target comp s.node
  nd : (xs.map St.node).Nodup
  rt : comp = false → ∀ s ∈ xs, rootM l target ∈ ch l upX s.node
  tg : ∀ s ∈ xs, s.target = 0 ∨ s.target = s.node
theorem path_up (h : WF l) (target related : Int) (comp : Bool) : UpOk l target comp (pathM l target related comp) := by
  have hp := path_ok h target related comp
  have hn := ok_nodes hp
  have hnd : ((pathM l target related comp).map St.node).Nodup := by
    rw [hn]
    exact way_nodup (ev_zero l target comp) _ _ (ev_ends h target comp target)
  generalize pathM l target related comp = xs at *
  have hnx : ∀ i s s', xs[i]? = some s → xs[i + 1]? = some s' → s'.node = evP l target comp s.node := fun i s s' h1 h2 => by
    have hl := (List.getElem?_eq_some_iff.1 h2).1
    have h3 := wayN_at (f := evP l target comp) xs.length target i (by rw [← hn, List.length_map]; exact hl)
    rw [← hn, List.getElem?_map, List.getElem?_map, h1, h2] at h3
    exact Option.some.inj h3
  refine ⟨?_, hnx, hnd, ?_, ?_⟩
  · intro s hs
    cases hp with
    | none _ => cases hs
    | nil _ _ _ => cases hs
    | some _ _ _ => cases hs; exact ⟨rfl, rfl, rfl⟩
  · intro hc s hs
    subst hc
    cases hp with
    | none _ => cases hs
    | nil _ _ _ => cases hs
    | some hy _ hw =>
      obtain ⟨y, hy⟩ := hy
      rcases List.mem_cons.1 hs with rfl | hs
      · exact root_up h hy
      · exact way_in h hy hw (ev_in h hy (root_up h hy)) s hs
  · intro s hs
    cases hp with
    | none _ => cases hs
    | nil _ _ _ => cases hs
    | some _ _ hw =>
      rcases List.mem_cons.1 hs with rfl | hs
      · exact .inr rfl
      · exact way_tg hw s hs
/-- What is told is never hidden. -/
def Hid (l : List Nd) : Int → List St → Prop
  | _, [] => True
  | told, s :: xs => hiddenM l (if s.target ≠ 0 then s.target else told) s.node = false ∧ (s.related ≠ 0 → hiddenM l s.related s.node = false) ∧ Hid l (if s.target ≠ 0 then s.target else told) xs
theorem rel_seen (h : WF l) (related a : Int) (h0 : aimM l related a ≠ 0) : hiddenM l (aimM l related a) a = false := by
  cases hx : nodeAt l related with
  | none => exact absurd (aim_none h hx) h0
  | some x => exact aim_seen h hx a
theorem way_hid (h : WF l) {xs : List St} {t f a : Int} (hw : Way l target related comp t f a xs) : Hid l t xs := by
  induction hw with
  | stop _ _ _ => trivial
  | done => trivial
  | @same t f a xs h0 h1 _ ih =>
    refine ⟨?_, fun hr => rel_seen h related a hr, ?_⟩
    · show hiddenM l (if (0 : Int) ≠ 0 then _ else t) a = false
      rw [if_neg (by simp)]
      exact hid_root h h1
    · show Hid l (if (0 : Int) ≠ 0 then _ else t) xs
      rw [if_neg (by simp)]
      exact ih
  | @turn t f a xs h0 h1 _ _ ih =>
    refine ⟨?_, fun hr => rel_seen h related a hr, ?_⟩
    · show hiddenM l (if a ≠ 0 then a else t) a = false
      rw [if_pos h0]
      exact hid_self h a
    · show Hid l (if a ≠ 0 then a else t) xs
      rw [if_pos h0]
      exact ih
theorem path_hid (h : WF l) (target related : Int) (comp : Bool) : Hid l 0 (pathM l target related comp) := by
  have hp := path_ok h target related comp
  generalize pathM l target related comp = xs at *
  cases hp with
  | none _ => trivial
  | nil _ _ _ => trivial
  | @some xs hy _ hw =>
    obtain ⟨y, hy⟩ := hy
    have h0 : target ≠ 0 := by have := nodeAt_some hy; omega
    refine ⟨?_, fun hr => rel_seen h related target hr, ?_⟩
    · show hiddenM l (if target ≠ 0 then target else 0) target = false
      rw [if_pos h0]
      exact hid_self h target
    · show Hid l (if target ≠ 0 then target else 0) xs
      rw [if_pos h0]
      exact way_hid h hw
end
/-- A step with nobody related. -/
def noRel (s : St) : St := { s with related := 0 }
section
variable {l : List Nd} {target related : Int} {comp : Bool}
theorem way_ends (h : WF l) {xs : List St} {t f a : Int} (hw : Way l target 0 comp t f a xs) : (∀ s ∈ xs, s.related = 0) ∧ ∀ s, xs.getLast? = some s → evP l target comp s.node = 0 := by
  induction hw with
  | stop h0 _ h2 => rw [aim_none h nodeAt_zero] at h2; exact absurd h2 h0
  | done => exact ⟨fun s hs => (by cases hs), fun s hs => (by cases hs)⟩
  | @same t f a xs h0 _ hw ih =>
    refine ⟨fun s hs => ?_, fun s hs => ?_⟩
    · rcases List.mem_cons.1 hs with rfl | hs
      · exact aim_none h nodeAt_zero
      · exact ih.1 s hs
    · cases xs with
      | nil =>
        have hs : some (stM l a 0 (aimM l 0 a) (decide (ofM l f ≠ 0))) = some s := hs
        cases hs
        generalize hE : evP l target comp a = e at hw
        show evP l target comp a = 0
        rw [hE]
        cases hw with
        | stop h0 _ h2 => rw [aim_none h nodeAt_zero] at h2; exact absurd h2 h0
        | done => rfl
      | cons x xs => exact ih.2 s (by rw [List.getLast?_cons_cons] at hs; exact hs)
  | @turn t f a xs h0 _ _ hw ih =>
    refine ⟨fun s hs => ?_, fun s hs => ?_⟩
    · rcases List.mem_cons.1 hs with rfl | hs
      · exact aim_none h nodeAt_zero
      · exact ih.1 s hs
    · cases xs with
      | nil =>
        have hs : some (stM l a a (aimM l 0 a) (decide (ofM l f ≠ 0))) = some s := hs
        cases hs
        generalize hE : evP l target comp a = e at hw
        show evP l target comp a = 0
        rw [hE]
        cases hw with
        | stop h0 _ h2 => rw [aim_none h nodeAt_zero] at h2; exact absurd h2 h0
        | done => rfl
      | cons x xs => exact ih.2 s (by rw [List.getLast?_cons_cons] at hs; exact hs)
theorem way_pre (h : WF l) {xs : List St} {t f a : Int} (hw : Way l target related comp t f a xs) : ∀ {ys : List St}, Way l target 0 comp t f a ys → ∃ zs, ys = xs.map noRel ++ zs := by
  have hn : ∀ b, aimM l 0 b = 0 := fun b => aim_none h nodeAt_zero
  induction hw with
  | stop _ _ _ => exact fun {ys} _ => ⟨ys, rfl⟩
  | done => exact fun {ys} _ => ⟨ys, rfl⟩
  | @same t f a xs h0 h1 hw ih =>
    intro ys hy
    cases hy with
    | stop _ h1' _ => exact absurd h1 h1'
    | done => exact absurd rfl h0
    | same _ _ hy =>
      obtain ⟨zs, e⟩ := ih hy
      exact ⟨zs, by rw [e, hn]; rfl⟩
    | turn _ h1' _ _ => exact absurd h1 h1'
  | @turn t f a xs h0 h1 h2 hw ih =>
    intro ys hy
    cases hy with
    | stop _ _ h2' => rw [hn] at h2'; exact absurd h2' h0
    | done => exact absurd rfl h0
    | same _ h1' _ => exact absurd h1' h1
    | turn _ _ _ hy =>
      obtain ⟨zs, e⟩ := ih hy
      exact ⟨zs, by rw [e, hn]; rfl⟩
theorem path_ends (h : WF l) {target : Int} {n0 : Nd} (ht : nodeAt l target = some n0) (related : Int) (comp : Bool) : (∃ s xs, pathM l target 0 comp = s :: xs) ∧ (∀ s ∈ pathM l target 0 comp, s.related = 0) ∧ (∀ s, (pathM l target 0 comp).getLast? = some s → evP l target comp s.node = 0) ∧ ∃ zs, pathM l target 0 comp = (pathM l target related comp).map noRel ++ zs := by
  have hp := path_ok h target 0 comp
  have hq := path_ok h target related comp
  have h0 : target ≠ 0 := by have := nodeAt_some ht; omega
  have hn : ∀ b, aimM l 0 b = 0 := fun b => aim_none h nodeAt_zero
  generalize pathM l target 0 comp = p at *
  generalize pathM l target related comp = q at *
  cases hp with
  | none e => rw [ht] at e; cases e
  | nil _ e _ => rw [hn] at e; exact absurd e.symm h0
  | @some xs _ _ hw =>
    obtain ⟨e1, e2⟩ := way_ends h hw
    refine ⟨⟨_, _, rfl⟩, fun s hs => ?_, fun s hs => ?_, ?_⟩
    · rcases List.mem_cons.1 hs with rfl | hs
      · exact hn target
      · exact e1 s hs
    · cases xs with
      | nil =>
        have hs : some (stM l target target (aimM l 0 target) false) = some s := hs
        cases hs
        generalize hE : evP l target comp target = e at hw
        show evP l target comp target = 0
        rw [hE]
        cases hw with
        | stop h0 _ h2 => rw [hn] at h2; exact absurd h2 h0
        | done => rfl
      | cons x xs => exact e2 s (by rw [List.getLast?_cons_cons] at hs; exact hs)
    · cases hq with
      | none e => rw [ht] at e; cases e
      | nil _ _ _ => exact ⟨_, rfl⟩
      | some _ _ hw' =>
        obtain ⟨zs, e⟩ := way_pre h hw' hw
        exact ⟨zs, by rw [e, hn]; rfl⟩
end
end Go.Proofs.Ytjkidecaciomgaa
