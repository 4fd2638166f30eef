/- Tree order, plain: no node twice, just those below, each behind its parent. -/
import Derived.Test.YtjkidecaciomgaaFoS
import Derived.Test.YtjkidecaciomgaaKi2
namespace Go.Proofs.Ytjkidecaciomgaa
set_option linter.unusedVariables false
set_option linter.unusedSimpArgs false
set_option maxRecDepth 100000
open Go.RowKit

section
variable {l : List Nd} (h : WF l)
include h
theorem par_trans {a b c : Int} (h1 : a ∈ ch l Nd.parent b) (h2 : b ∈ ch l Nd.parent c) : a ∈ ch l Nd.parent c := by
  refine desc_induct (desc_par h) (p := fun c => b ∈ ch l Nd.parent c → a ∈ ch l Nd.parent c) (fun id hx hm => ?_) (fun id x hx ih hm => ?_) c h2
  · rw [ch_none hx] at hm; cases hm
  · rw [par_step h hx] at hm
    rcases List.mem_cons.1 hm with rfl | hm
    · exact h1
    · rw [par_step h hx]
      exact List.mem_cons_of_mem _ (ih hm)
theorem par_self {a : Int} {x : Nd} (hx : nodeAt l a = some x) : a ∈ ch l Nd.parent a := by rw [par_step h hx]; exact List.mem_cons_self
theorem par_le {a b : Int} (h1 : a ∈ ch l Nd.parent b) : a = b ∨ (ch l Nd.parent a).length < (ch l Nd.parent b).length := by
  refine desc_induct (desc_par h) (p := fun b => a ∈ ch l Nd.parent b → a = b ∨ (ch l Nd.parent a).length < (ch l Nd.parent b).length) (fun id hx hm => ?_) (fun id x hx ih hm => ?_) b h1
  · rw [ch_none hx] at hm; cases hm
  · rw [par_step h hx] at hm ⊢
    rcases List.mem_cons.1 hm with rfl | hm
    · exact .inl rfl
    · rcases ih hm with e | e
      · rw [← e, List.length_cons]; exact .inr (by omega)
      · rw [List.length_cons]; exact .inr (by omega)
/-- Those above a node stand at different heights. -/
theorem par_same {a b c : Int} (h1 : a ∈ ch l Nd.parent c) (h2 : b ∈ ch l Nd.parent c) (he : (ch l Nd.parent a).length = (ch l Nd.parent b).length) : a = b := by
  refine desc_induct (desc_par h) (p := fun c => a ∈ ch l Nd.parent c → b ∈ ch l Nd.parent c → a = b) (fun id hx hm => ?_) (fun id x hx ih hm hm2 => ?_) c h1 h2
  · rw [ch_none hx] at hm; cases hm
  · have h3 := par_le h hm
    have h4 := par_le h hm2
    rw [par_step h hx] at hm hm2
    rcases List.mem_cons.1 hm with e | hm'
    · rcases h4 with e' | e'
      · rw [e, e']
      · rw [← e] at e'; omega
    · rcases List.mem_cons.1 hm2 with e' | hm2'
      · rcases h3 with e | e
        · rw [e, e']
        · rw [← e'] at e; omega
      · exact ih hm' hm2'
theorem kid_par {p c : Int} {x : Nd} (hp : nodeAt l p = some x) (hc : c ∈ x.kids) : p ∈ ch l Nd.parent c := by
  obtain ⟨y, hy, e⟩ := h.kid hp hc
  rw [par_step h hy, e]
  exact List.mem_cons_of_mem _ (par_self h hp)
theorem ord_up : ∀ (n : Nat) (id : Int) {c : Int}, c ∈ ordN l n id → id ∈ ch l Nd.parent c
  | 0, id, c, hm => by simp [ordN] at hm
  | n + 1, id, c, hm => by
    rw [ordN] at hm
    cases hx : nodeAt l id with
    | none => rw [hx] at hm; cases hm
    | some x =>
      rw [hx] at hm
      rcases List.mem_cons.1 hm with rfl | hm
      · exact par_self h hx
      · obtain ⟨k, hk, hck⟩ := List.mem_flatMap.1 hm
        exact par_trans h (kid_par h hx hk) (ord_up n k hck)
theorem ord_self {n : Nat} {id : Int} {x : Nd} (hx : nodeAt l id = some x) : id ∈ ordN l (n + 1) id := by
  have _ := h.len
  rw [ordN, hx]; exact List.mem_cons_self
theorem ord_kid : ∀ (n : Nat) (id : Int) {p c : Int} {x : Nd}, 129 ≤ (ch l Nd.parent id).length + n → p ∈ ordN l n id → nodeAt l p = some x → c ∈ x.kids → c ∈ ordN l n id
  | 0, id, p, c, x, hn, hp, hx, hc => by simp [ordN] at hp
  | n + 1, id, p, c, x, hn, hp, hx, hc => by
    rw [ordN] at hp ⊢
    cases hy : nodeAt l id with
    | none => rw [hy] at hp; cases hp
    | some y =>
      rw [hy] at hp
      simp only at hp ⊢
      rcases List.mem_cons.1 hp with rfl | hp
      · rw [hx] at hy
        cases hy
        have h1 := kid_chain h hx hc
        have h2 := ch_len (desc_par h) c
        have h3 := h.len
        obtain ⟨z, hz, _⟩ := h.kid hx hc
        obtain ⟨m, rfl⟩ : ∃ m, n = m + 1 := ⟨n - 1, by omega⟩
        exact List.mem_cons_of_mem _ (List.mem_flatMap.2 ⟨c, hc, ord_self h hz⟩)
      · obtain ⟨k, hk, hpk⟩ := List.mem_flatMap.1 hp
        have h1 := kid_chain h hy hk
        exact List.mem_cons_of_mem _ (List.mem_flatMap.2 ⟨k, hk, ord_kid n k (by omega) hpk hx hc⟩)
theorem ord_mem (id c : Int) : c ∈ orderM l id ↔ id ∈ ch l Nd.parent c := by
  refine ⟨ord_up h 129 id, fun hm => ?_⟩
  refine desc_induct (desc_par h) (p := fun c => id ∈ ch l Nd.parent c → c ∈ orderM l id) (fun c hx hm => ?_) (fun c x hx ih hm => ?_) c hm
  · rw [ch_none hx] at hm; cases hm
  · rw [par_step h hx] at hm
    rcases List.mem_cons.1 hm with rfl | hm
    · exact ord_self h hx
    · have h1 := ih hm
      by_cases hp : x.parent = 0
      · rw [hp, ch_none nodeAt_zero] at hm; cases hm
      · obtain ⟨y, hy, hk⟩ := (h.par hx).resolve_left hp
        exact ord_kid h 129 id (by omega) h1 hy hk
theorem ord_nodup : ∀ (n : Nat) (id : Int), (ordN l n id).Nodup
  | 0, id => by simp [ordN]
  | n + 1, id => by
    rw [ordN]
    cases hx : nodeAt l id with
    | none => simp
    | some x =>
      simp only
      rw [List.nodup_cons]
      constructor
      · intro hm
        obtain ⟨k, hk, hik⟩ := List.mem_flatMap.1 hm
        have h1 := ord_up h n k hik
        have h2 := kid_chain h hx hk
        rcases par_le h h1 with e | e
        · rw [e] at h2; omega
        · omega
      · rw [List.Nodup, List.pairwise_flatMap]
        refine ⟨fun k _ => ord_nodup n k, ?_⟩
        refine List.Pairwise.imp_of_mem ?_ (h.nod hx)
        intro a b ha hb hne c hca d hdb e
        subst e
        have h1 := kid_chain h hx ha
        have h2 := kid_chain h hx hb
        exact hne (par_same h (ord_up h n a hca) (ord_up h n b hdb) (by omega))
theorem ord_in {id c : Int} (hm : c ∈ orderM l id) : 1 ≤ c ∧ c ≤ l.length := by
  have h1 := (ord_mem h id c).1 hm
  cases hx : nodeAt l c with
  | none => rw [ch_none hx] at h1; cases h1
  | some x => have := nodeAt_some hx; omega
theorem ord_len (id : Int) : (orderM l id).length ≤ l.length := nodup_len _ _ (ord_nodup h 129 id) fun c hc => ord_in h hc
end
/-- Each is behind its parent. -/
def Beh (l : List Nd) : List Int → List Int → Prop
  | _, [] => True
  | q, c :: t => (∃ x, nodeAt l c = some x ∧ x.parent ∈ q) ∧ Beh l (c :: q) t
theorem Beh.mono {l : List Nd} : ∀ {xs q q' : List Int}, (∀ c ∈ q, c ∈ q') → Beh l q xs → Beh l q' xs
  | [], _, _, _, _ => trivial
  | c :: t, q, q', hq, ⟨⟨x, hx, hp⟩, ht⟩ => ⟨⟨x, hx, hq _ hp⟩, ht.mono fun d hd => by
    rcases List.mem_cons.1 hd with rfl | hd
    · exact List.mem_cons_self
    · exact List.mem_cons_of_mem _ (hq d hd)⟩
theorem Beh.append {l : List Nd} : ∀ {xs ys q : List Int}, Beh l q xs → Beh l q ys → Beh l q (xs ++ ys)
  | [], _, _, _, h => h
  | c :: t, ys, q, ⟨hc, ht⟩, h => ⟨hc, ht.append (h.mono fun d hd => List.mem_cons_of_mem _ hd)⟩
theorem ord_beh {l : List Nd} (h : WF l) : ∀ (n : Nat) (id : Int) (q : List Int), (∀ x, nodeAt l id = some x → x.parent ∈ q) → Beh l q (ordN l n id)
  | 0, id, q, _ => trivial
  | n + 1, id, q, hq => by
    rw [ordN]
    cases hx : nodeAt l id with
    | none => exact trivial
    | some x =>
      refine ⟨⟨x, hx, hq x hx⟩, ?_⟩
      have : ∀ ks : List Int, (∀ k ∈ ks, k ∈ x.kids) → Beh l (id :: q) (ks.flatMap (ordN l n)) := by
        intro ks
        induction ks with
        | nil => intro _; exact trivial
        | cons k ks ih =>
          intro hk
          rw [List.flatMap_cons]
          refine Beh.append (ord_beh h n k _ fun y hy => ?_) (ih fun c hc => hk c (List.mem_cons_of_mem _ hc))
          obtain ⟨z, hz, e⟩ := h.kid hx (hk k List.mem_cons_self)
          rw [hy] at hz
          cases hz
          rw [e]
          exact List.mem_cons_self
      exact this x.kids fun _ hk => hk
theorem Beh.at {l : List Nd} : ∀ {xs q : List Int} {i : Nat} {c : Int}, Beh l q xs → xs[i]? = some c → ∃ x, nodeAt l c = some x ∧ (x.parent ∈ q ∨ x.parent ∈ xs.take i)
  | [], _, _, _, _, h => by simp at h
  | c :: t, q, 0, d, ⟨⟨x, hx, hp⟩, _⟩, h => by
    simp at h
    subst h
    exact ⟨x, hx, .inl hp⟩
  | c :: t, q, i + 1, d, ⟨_, ht⟩, h => by
    obtain ⟨x, hx, hp⟩ := ht.at (i := i) (by simpa using h)
    refine ⟨x, hx, ?_⟩
    rw [List.take_succ_cons]
    rcases hp with hp | hp
    · rcases List.mem_cons.1 hp with e | hp
      · exact .inr (by rw [e]; exact List.mem_cons_self)
      · exact .inl hp
    · exact .inr (List.mem_cons_of_mem _ hp)
theorem order_p {l : List Nd} (h : WF l) (id : Int) : Fun Try.prog 54 [forA l, .v (.int .i64 id)] [] (.sem (listS intE (orderM l id))) [] :=
  order_k h id (by have := ord_len h id; have := h.len; omega)
end Go.Proofs.Ytjkidecaciomgaa
