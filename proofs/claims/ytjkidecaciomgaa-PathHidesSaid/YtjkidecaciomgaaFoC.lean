/- Chains: a node, the one above, and so on. -/
import Derived.Test.YtjkidecaciomgaaFoA
namespace Go.Proofs.Ytjkidecaciomgaa
set_option linter.unusedVariables false
set_option linter.unusedSimpArgs false
set_option maxRecDepth 100000
open Go.RowKit

def chN (l : List Nd) (s : Nd → Int) : Nat → Int → List Int
  | 0, _ => []
  | n + 1, id => match nodeAt l id with
    | none => []
    | some x => id :: chN l s n (s x)
/-- The whole chain. -/
def ch (l : List Nd) (s : Nd → Int) (id : Int) : List Int := chN l s 129 id
/-- It goes down. -/
def Desc (l : List Nd) (s : Nd → Int) : Prop := ∃ rk : Int → Nat, ∀ b x, nodeAt l b = some x → s x ≠ 0 → rk (s x) < rk b
theorem desc_up {l : List Nd} (h : WF l) : Desc l upX := h.ups.rank
theorem desc_par {l : List Nd} (h : WF l) : Desc l Nd.parent := by
  obtain ⟨rk, hrk⟩ := h.ups.rank
  refine ⟨rk, fun b x hb hn => ?_⟩
  have : upX x = x.parent := by simp [upX, hn]
  have h1 := hrk b x hb (by rw [this]; exact hn)
  rwa [this] at h1
section
variable {l : List Nd} {s : Nd → Int}
theorem chN_none {n : Nat} {id : Int} (h : nodeAt l id = none) : chN l s n id = [] := by cases n <;> simp [chN, h]
theorem chN_in : ∀ {n : Nat} {id c : Int}, c ∈ chN l s n id → 1 ≤ c ∧ c ≤ l.length
  | 0, id, c, h => by simp [chN] at h
  | n + 1, id, c, h => by
    rw [chN] at h
    cases hx : nodeAt l id with
    | none => rw [hx] at h; cases h
    | some x =>
      rw [hx] at h
      rcases List.mem_cons.1 h with rfl | h
      · have := nodeAt_some hx
        omega
      · exact chN_in h
theorem chN_rank {rk : Int → Nat} (hrk : ∀ b x, nodeAt l b = some x → s x ≠ 0 → rk (s x) < rk b) : ∀ {n : Nat} {id c : Int}, c ∈ chN l s n id → rk c ≤ rk id
  | 0, id, c, h => by simp [chN] at h
  | n + 1, id, c, h => by
    rw [chN] at h
    cases hx : nodeAt l id with
    | none => rw [hx] at h; cases h
    | some x =>
      rw [hx] at h
      rcases List.mem_cons.1 h with rfl | h
      · exact Nat.le_refl _
      · by_cases h0 : s x = 0
        · rw [h0, chN_none nodeAt_zero] at h
          cases h
        · have := chN_rank hrk h
          have := hrk id x hx h0
          omega
theorem chN_nodup (hd : Desc l s) : ∀ (n : Nat) (id : Int), (chN l s n id).Nodup := by
  obtain ⟨rk, hrk⟩ := hd
  intro n
  induction n with
  | zero => intro id; simp [chN]
  | succ n ih =>
    intro id
    rw [chN]
    cases hx : nodeAt l id with
    | none => simp
    | some x =>
      simp only
      rw [List.nodup_cons]
      refine ⟨fun hm => ?_, ih _⟩
      by_cases h0 : s x = 0
      · rw [h0, chN_none nodeAt_zero] at hm
        cases hm
      · have := chN_rank hrk hm
        have := hrk id x hx h0
        omega
theorem chN_len (hd : Desc l s) (n : Nat) (id : Int) : (chN l s n id).length ≤ l.length := nodup_len _ _ (chN_nodup hd n id) fun c hc => chN_in hc
theorem chN_more : ∀ (n : Nat) (id : Int), (chN l s n id).length < n → chN l s (n + 1) id = chN l s n id
  | 0, id, h => by simp at h
  | n + 1, id, h => by
    rw [chN, chN]
    rw [chN] at h
    cases hx : nodeAt l id with
    | none => rfl
    | some x =>
      rw [hx] at h
      simp only [List.length_cons] at h ⊢
      rw [chN_more n _ (by omega)]
theorem ch_step (hd : Desc l s) (hl : l.length ≤ 128) {id : Int} {x : Nd} (hx : nodeAt l id = some x) : ch l s id = id :: ch l s (s x) := by
  have h1 := chN_more (l := l) (s := s) 129 id (by have := chN_len hd 129 id; omega)
  unfold ch
  rw [← h1, chN, hx]
theorem ch_none {id : Int} (hx : nodeAt l id = none) : ch l s id = [] := chN_none hx
theorem ch_len (hd : Desc l s) (id : Int) : (ch l s id).length ≤ l.length := chN_len hd _ _
theorem ch_in {id c : Int} (h : c ∈ ch l s id) : 1 ≤ c ∧ c ≤ l.length := chN_in h
theorem ch_nodup (hd : Desc l s) (id : Int) : (ch l s id).Nodup := chN_nodup hd _ _
end
/-- Who is above, is in the chain. -/
theorem mem_over {l : List Nd} (h : WF l) (a b : Int) : a ∈ ch l upX b ↔ Abv l a b := by
  constructor
  · obtain ⟨rk, hrk⟩ := h.ups.rank
    have key : ∀ n b, rk b = n → a ∈ ch l upX b → Abv l a b := by
      intro n
      induction n using Nat.strongRecOn with
      | _ n ih =>
        intro b hb hm
        cases hx : nodeAt l b with
        | none => rw [ch_none hx] at hm; cases hm
        | some x =>
          rw [ch_step (desc_up h) h.len hx] at hm
          rcases List.mem_cons.1 hm with e | hm
          · exact .here hx e.symm
          · by_cases h0 : upX x = 0
            · rw [h0, ch_none nodeAt_zero] at hm
              cases hm
            · exact .up hx (ih _ (hb ▸ hrk b x hx h0) _ rfl hm)
    exact key _ b rfl
  · intro ha
    induction ha with
    | here hx e => rw [ch_step (desc_up h) h.len hx, e]; exact List.mem_cons_self
    | up hx _ ih => rw [ch_step (desc_up h) h.len hx]; exact List.mem_cons_of_mem _ ih
end Go.Proofs.Ytjkidecaciomgaa
