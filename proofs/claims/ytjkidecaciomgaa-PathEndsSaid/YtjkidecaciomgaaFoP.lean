/- The parent for an event, plain: every way ends, and no node comes twice. -/
import Derived.Test.YtjkidecaciomgaaSl2
namespace Go.Proofs.Ytjkidecaciomgaa
set_option linter.unusedVariables false
set_option linter.unusedSimpArgs false
set_option maxRecDepth 100000
open Go.RowKit

/-- What a node's slot is. -/
theorem of_ok {l : List Nd} (h : WF l) {id : Int} (h0 : ofM l id ≠ 0) : ∃ n p, nodeAt l id = some n ∧ n.kind = 2 ∧ nodeAt l n.parent = some p ∧ p.shadow ≠ 0 ∧ p.shadow ∈ ch l Nd.parent (ofM l id) ∧ (nodeR l (ofM l id)).slot = true := by
  cases hn : nodeAt l id with
  | none =>
    exfalso
    apply h0
    rw [ofM, nodeR_none hn, show nd0.parent = 0 from rfl, nodeAt_zero]
  | some n =>
    have ho : ofM l id = match nodeAt l n.parent with
      | none => 0
      | some p => if n.kind ≠ 2 ∨ p.shadow = 0 then 0 else ((slotsM l p.shadow).find? (named1 l n.want)).getD 0 := by
      unfold ofM
      rw [nodeR_some hn]
      cases nodeAt l n.parent <;> rfl
    cases hp : nodeAt l n.parent with
    | none => rw [hp] at ho; exact absurd ho h0
    | some p =>
      rw [hp] at ho
      dsimp only at ho
      by_cases hc : n.kind ≠ 2 ∨ p.shadow = 0
      · rw [if_pos hc] at ho; exact absurd ho h0
      · rw [if_neg hc] at ho
        have hk : n.kind = 2 := Classical.byContradiction fun e => hc (.inl e)
        have hs : p.shadow ≠ 0 := fun e => hc (.inr e)
        cases hf : (slotsM l p.shadow).find? (named1 l n.want) with
        | none => rw [hf] at ho; exact absurd ho h0
        | some s =>
          rw [hf] at ho
          have hm := List.mem_of_find?_eq_some hf
          have es : ofM l id = s := ho
          rw [slotsM, List.mem_filter] at hm
          refine ⟨n, p, rfl, hk, hp, hs, by rw [es]; exact (ord_mem h _ _).1 hm.1, ?_⟩
          rw [es]
          have := hm.2
          rw [delB, Bool.not_not, Bool.and_eq_true] at this
          exact this.2
theorem of_kind {l : List Nd} (h : WF l) {id : Int} {n : Nd} (hn : nodeAt l id = some n) (hk : n.kind ≠ 2) : ofM l id = 0 := Classical.byContradiction fun h0 => by
  obtain ⟨m, _, hm, hk2, _⟩ := of_ok h h0
  rw [hn] at hm
  cases hm
  exact hk hk2
def evP (l : List Nd) (first : Int) (comp : Bool) (id : Int) : Int :=
  match nodeAt l id with
  | none => 0
  | some n => if ofM l id ≠ 0 then ofM l id else if n.kind ≠ 3 then n.parent else if comp = false ∧ rootM l first = id then 0 else n.host
section
variable {l : List Nd} (h : WF l) (first : Int) (comp : Bool)
include h
theorem ev_up {id : Int} {n : Nd} (hn : nodeAt l id = some n) (h0 : ofM l id = 0) : evP l first comp id = upX n ∨ evP l first comp id = 0 := by
  have e : evP l first comp id = if ofM l id ≠ 0 then ofM l id else if n.kind ≠ 3 then n.parent else if comp = false ∧ rootM l first = id then 0 else n.host := by rw [evP, hn]
  rw [if_neg (by rw [h0]; simp)] at e
  by_cases hk : n.kind ≠ 3
  · rw [if_pos hk] at e
    rw [e]
    by_cases hp : n.parent = 0
    · exact .inr hp
    · exact .inl (by simp [upX, hp])
  · rw [if_neg hk] at e
    split at e
    · exact .inr e
    · have hp := h.root hn (by simp [rootedB]; omega)
      exact .inl (by rw [e]; simp [upX, hp])
end
def itF (f : Int → Int) : Nat → Int → Int
  | 0, a => a
  | n + 1, a => itF f n (f a)
theorem itF_add (f : Int → Int) : ∀ (m n : Nat) (a : Int), itF f (m + n) a = itF f n (itF f m a)
  | 0, n, a => by rw [Nat.zero_add]; rfl
  | m + 1, n, a => by
    rw [show m + 1 + n = (m + n) + 1 by omega]
    exact itF_add f m n (f a)
def Rch (f : Int → Int) (a b : Int) : Prop := ∃ k, itF f k a = b
theorem Rch.refl {f : Int → Int} (a : Int) : Rch f a a := ⟨0, rfl⟩
theorem Rch.one {f : Int → Int} (a : Int) : Rch f a (f a) := ⟨1, rfl⟩
theorem Rch.trans {f : Int → Int} {a b c : Int} (h1 : Rch f a b) (h2 : Rch f b c) : Rch f a c := by
  obtain ⟨m, e1⟩ := h1
  obtain ⟨n, e2⟩ := h2
  exact ⟨m + n, by rw [itF_add, e1, e2]⟩
section
variable {l : List Nd} (h : WF l) (first : Int) (comp : Bool)
include h
/-- From a node one comes to what is above it, or to an end. -/
theorem ev_reach : ∀ (d : Nat) {id : Int} {n : Nd}, nodeAt l id = some n → 129 ≤ (ch l upX id).length + d → Rch (evP l first comp) id (upX n) ∨ Rch (evP l first comp) id 0
  | 0, id, n, hn, hd => by
    have := ch_len (desc_up h) id
    have := h.len
    omega
  | d + 1, id, n, hn, hd => by
    by_cases h0 : ofM l id = 0
    · rcases ev_up h first comp hn h0 with e | e
      · exact .inl (e ▸ Rch.one _)
      · exact .inr (e ▸ Rch.one _)
    · obtain ⟨n', p, hn', hk, hp, hs, hsr, _⟩ := of_ok h h0
      rw [hn] at hn'
      cases hn'
      have hpar : n.parent ≠ 0 := fun e => by rw [e, nodeAt_zero] at hp; cases hp
      have hux : upX n = n.parent := by simp [upX, hpar]
      obtain ⟨y, hy, hyh⟩ := ((h.shad hp).resolve_left hs).2
      have hpn := nodeAt_some hp
      have hyk : y.kind = 3 := ((h.host hy).resolve_left (by rw [hyh]; omega)).1
      have hyp : y.parent = 0 := h.root hy (by simp [rootedB, hyk])
      have hyu : upX y = n.parent := by simp [upX, hyp, hyh]
      have hlen : (ch l upX id).length = (ch l upX n.parent).length + 1 := by rw [up_step h hn, hux, List.length_cons]
      have hlen2 : (ch l upX p.shadow).length = (ch l upX n.parent).length + 1 := by rw [up_step h hy, hyu, List.length_cons]
      have hfs : evP l first comp id = ofM l id := by rw [evP, hn]; simp [h0]
      -- from anywhere in the shadow tree to its root
      have hin : ∀ c, p.shadow ∈ ch l Nd.parent c → Rch (evP l first comp) c p.shadow ∨ Rch (evP l first comp) c 0 := by
        refine desc_induct (desc_par h) (p := fun c => p.shadow ∈ ch l Nd.parent c → Rch (evP l first comp) c p.shadow ∨ Rch (evP l first comp) c 0) (fun c hc hm => ?_) fun c x hc ih hm => ?_
        · rw [ch_none hc] at hm; cases hm
        · by_cases e : p.shadow = c
          · exact .inl (e ▸ Rch.refl _)
          · rw [par_step h hc] at hm
            rcases List.mem_cons.1 hm with e' | hm
            · exact absurd e' e
            · have hcp : x.parent ≠ 0 := fun e0 => by rw [e0, ch_none nodeAt_zero] at hm; cases hm
              have hcu : upX x = x.parent := by simp [upX, hcp]
              have hle := up_le h (par_up h hm)
              have hcl : (ch l upX c).length = (ch l upX x.parent).length + 1 := by rw [up_step h hc, hcu, List.length_cons]
              have hge : (ch l upX p.shadow).length ≤ (ch l upX x.parent).length := by
                rcases hle with e2 | e2
                · rw [e2]; exact Nat.le_refl _
                · omega
              rcases ev_reach d hc (by omega) with h1 | h1
              · rw [hcu] at h1
                rcases ih hm with h2 | h2
                · exact .inl (h1.trans h2)
                · exact .inr (h1.trans h2)
              · exact .inr h1
      have h1 : Rch (evP l first comp) id (ofM l id) := hfs ▸ Rch.one _
      rcases hin _ hsr with h2 | h2
      · rcases ev_up h first comp hy (of_kind h hy (by omega)) with e | e
        · left
          rw [hux, ← hyu, ← e]
          exact (h1.trans h2).trans (Rch.one _)
        · right
          rw [← e]
          exact (h1.trans h2).trans (Rch.one _)
      · exact .inr (h1.trans h2)
/-- Every way ends. -/
theorem ev_ends (id : Int) : Rch (evP l first comp) id 0 := by
  refine desc_induct (desc_up h) (p := fun id => Rch (evP l first comp) id 0) (fun id hn => ?_) (fun id n hn ih => ?_) id
  · have : evP l first comp id = 0 := by rw [evP, hn]
    exact this ▸ Rch.one _
  · rcases ev_reach h first comp 129 hn (by omega) with h1 | h1
    · exact h1.trans ih
    · exact h1
end
/-- How many steps there are to the end. -/
theorem least_step {f : Int → Int} {a : Int} (h : Rch f a 0) : ∃ k, itF f k a = 0 ∧ ∀ j, j < k → itF f j a ≠ 0 := by
  obtain ⟨k, hk⟩ := h
  induction k using Nat.strongRecOn with
  | _ k ih =>
    by_cases hj : ∃ j, j < k ∧ itF f j a = 0
    · obtain ⟨j, hlt, hj⟩ := hj
      exact ih j hlt hj
    · exact ⟨k, hk, fun j hlt e => hj ⟨j, hlt, e⟩⟩
/-- The nodes on the way. -/
def wayN (f : Int → Int) : Nat → Int → List Int
  | 0, _ => []
  | n + 1, a => if a = 0 then [] else a :: wayN f n (f a)
theorem way_end {f : Int → Int} : ∀ (n : Nat) (a : Int), itF f n a = 0 → f 0 = 0 → wayN f (n + 1) a = wayN f n a
  | 0, a, h, hf => by
    have : a = 0 := h
    show (if a = 0 then [] else a :: wayN f 0 (f a)) = []
    rw [if_pos this]
  | n + 1, a, h, hf => by
    have e : ∀ m b, wayN f (m + 1) b = if b = 0 then [] else b :: wayN f m (f b) := fun _ _ => rfl
    rw [e (n + 1) a]
    refine Eq.trans ?_ (e n a).symm
    by_cases ha : a = 0
    · rw [if_pos ha, if_pos ha]
    · rw [if_neg ha, if_neg ha, way_end n (f a) h hf]
theorem way_nodup {f : Int → Int} (hf : f 0 = 0) : ∀ (n : Nat) (a : Int), Rch f a 0 → (wayN f n a).Nodup := by
  have hmem : ∀ (n : Nat) (a b : Int), b ∈ wayN f n a → Rch f a b ∧ b ≠ 0 := by
    intro n
    induction n with
    | zero => intro a b hb; cases hb
    | succ n ih =>
      intro a b hb
      rw [wayN] at hb
      by_cases ha : a = 0
      · rw [if_pos ha] at hb; cases hb
      · rw [if_neg ha] at hb
        rcases List.mem_cons.1 hb with rfl | hb
        · exact ⟨Rch.refl _, ha⟩
        · obtain ⟨h1, h2⟩ := ih _ _ hb
          exact ⟨(Rch.one _).trans h1, h2⟩
  intro n
  induction n with
  | zero => intro a _; simp [wayN]
  | succ n ih =>
    intro a hr
    rw [wayN]
    by_cases ha : a = 0
    · rw [if_pos ha]; simp
    · rw [if_neg ha, List.nodup_cons]
      obtain ⟨k, hk, hmin⟩ := least_step hr
      have hk0 : k ≠ 0 := fun e => ha (by rw [e] at hk; exact hk)
      refine ⟨fun hm => ?_, ih _ ⟨k - 1, by
        obtain ⟨m, rfl⟩ : ∃ m, k = m + 1 := ⟨k - 1, by omega⟩
        exact hk⟩⟩
      obtain ⟨⟨j, hj⟩, _⟩ := hmem _ _ _ hm
      -- f^(j+1) a = a: then it never ends
      have hcyc : itF f (j + 1) a = a := hj
      have hall : ∀ q, itF f (q * (j + 1)) a = a := fun q => by
        induction q with
        | zero => rw [Nat.zero_mul]; rfl
        | succ q ihq => rw [Nat.add_mul, Nat.one_mul, itF_add, ihq, hcyc]
      have hbig : ∀ m, itF f (k + m) a = 0 := fun m => by
        rw [itF_add, hk]
        induction m with
        | zero => rfl
        | succ m ihm => show itF f m (f 0) = 0; rw [hf]; exact ihm
      have h1 := hall k
      have h2 := hbig (k * (j + 1) - k)
      rw [show k + (k * (j + 1) - k) = k * (j + 1) by
        have : k ≤ k * (j + 1) := Nat.le_mul_of_pos_right k (by omega)
        omega] at h2
      exact ha (h1.symm.trans h2)
end Go.Proofs.Ytjkidecaciomgaa
