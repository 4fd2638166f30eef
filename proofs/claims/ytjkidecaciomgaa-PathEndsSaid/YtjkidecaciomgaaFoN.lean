/- The forest: Tie and Put leave it as it should be. -/
import Derived.Test.YtjkidecaciomgaaFoM
namespace Go.Proofs.Ytjkidecaciomgaa
set_option linter.unusedVariables false
set_option linter.unusedSimpArgs false
set_option maxRecDepth 100000
open Go.RowKit

theorem nodeAt_zero' {l : List Nd} {x : Nd} (h : nodeAt l 0 = some x) : False := by rw [nodeAt_zero] at h; cases h
theorem abv_self {l : List Nd} {b : Int} {x : Nd} (h : nodeAt l b = some x) : Abv l b b := .here h rfl
theorem wf_tie {l : List Nd} (h : WF l) (host root : Int) : WF (tieM l host root).1 := by
  unfold tieM
  split
  · rename_i hx r eh er
    split
    · exact h
    · split
      · exact h
      · split
        · exact h
        · rename_i k1 k2 k3
          simp only [not_or, Decidable.not_not] at k1 k2
          have k3' : ¬ Abv l root host := fun h => k3 (aboveB_true.2 h)
          have hne : host ≠ root := fun e => by subst e; rw [eh] at er; cases er; omega
          have hh1 := nodeAt_some eh
          have hr1 := nodeAt_some er
          let G : Int → Nd → Nd := fun b x => { x with shadow := if b = host then root else x.shadow, host := if b = root then host else x.host }
          have er' : nodeAt (setN l host { hx with shadow := root }) root = some r := by rw [nodeAt_setN eh, if_neg (Ne.symm hne)]; exact er
          have hg : ∀ b, nodeAt (setN (setN l host { hx with shadow := root }) root { r with host := host }) b = (nodeAt l b).map (G b) := fun b => by
            rw [nodeAt_setN er', nodeAt_setN eh]
            by_cases e1 : b = root
            · subst e1
              rw [if_pos rfl, er]
              simp [G, Ne.symm hne]
            · rw [if_neg e1]
              by_cases e2 : b = host
              · subst e2
                rw [if_pos rfl, eh]
                simp [G, hne]
              · rw [if_neg e2]
                cases nodeAt l b <;> simp [G, e1, e2]
          generalize hl' : setN (setN l host { hx with shadow := root }) root { r with host := host } = l' at hg ⊢
          have hlen : l'.length = l.length := by rw [← hl', len_setN, len_setN]
          clear hl' er'
          have hz : ∀ {b x}, nodeAt l' b = some x → ∃ y, nodeAt l b = some y ∧ x = G b y := fun {b x} hb => by
            rw [hg] at hb
            cases hb' : nodeAt l b with
            | none => rw [hb'] at hb; cases hb
            | some y => rw [hb'] at hb; cases hb; exact ⟨y, rfl, rfl⟩
          have hold : ∀ {b x}, nodeAt l b = some x → nodeAt l' b = some (G b x) := fun {b x} hb => by rw [hg, hb]; rfl
          have hroot0 : r.parent = 0 := h.root er (by simp [rootedB, k1.2])
          have hup : ∀ b y, nodeAt l b = some y → b ≠ root → upX (G b y) = upX y := fun b y hy e => by simp [upX, G, e]
          have hupr : upX (G root r) = host := by simp [upX, G, hroot0]
          obtain ⟨rk, hrk⟩ := h.ups.rank
          refine ⟨by rw [hlen]; exact h.len, ⟨fun {b x} hb => ?_, ⟨fun b => rk b + (open Classical in if Abv l root b then rk host + 1 else 0), fun b x hb hn => ?_⟩⟩, fun {b x} hb => ?_, fun {p x c} hb hc => ?_, fun {p x} hb => ?_, fun {b x} hb => ?_, fun {b x} hb => ?_, fun {b x} hb hr => ?_, fun {b x} hb => ?_⟩
          all_goals obtain ⟨y, hy, rfl⟩ := hz hb
          · by_cases e : b = root
            · subst e
              rw [er] at hy
              cases hy
              rw [hupr]
              exact .inr ⟨_, hold eh⟩
            · rw [hup b y hy e]
              exact (h.ups.there hy).imp_right fun ⟨z, hz⟩ => ⟨_, hold hz⟩
          · by_cases e : b = root
            · subst e
              rw [er] at hy
              cases hy
              rw [hupr]
              simp only
              rw [if_neg k3', if_pos (abv_self er)]
              omega
            · rw [hup b y hy e] at hn ⊢
              have h1 := hrk b y hy hn
              simp only
              by_cases ha : Abv l root (upX y)
              · rw [if_pos ha, if_pos (Abv.up hy ha)]
                omega
              · rw [if_neg ha]
                omega
          · exact (h.par hy).imp_right fun ⟨z, hz, hm⟩ => ⟨_, hold hz, hm⟩
          · obtain ⟨z, hz, hm⟩ := h.kid hy hc
            exact ⟨_, hold hz, hm⟩
          · have h0 := h.nod hy
            exact h0
          · by_cases e : b = root
            · subst e
              rw [er] at hy
              cases hy
              refine .inr ⟨k1.2, G host hx, ?_, ?_⟩
              · have e3 : (G b r).host = host := by simp [G]
                rw [e3]
                exact hold eh
              · simp [G]
            · rcases h.host hy with h0 | ⟨h1, z, hz, hm⟩
              · exact .inl (by simp [G, e, h0])
              · refine .inr ⟨h1, G y.host z, ?_, ?_⟩
                · have e3 : (G b y).host = y.host := by simp [G, e]
                  rw [e3]
                  exact hold hz
                · have : y.host ≠ host := fun e' => by
                    rw [e', eh] at hz
                    cases hz
                    have := nodeAt_some hy
                    omega
                  simp [G, this, hm]
          · by_cases e : b = host
            · subst e
              rw [eh] at hy
              cases hy
              refine .inr ⟨k1.1, G root r, ?_, ?_⟩
              · have e3 : (G b hx).shadow = root := by simp [G]
                rw [e3]
                exact hold er
              · simp [G]
            · rcases h.shad hy with h0 | ⟨h1, z, hz, hm⟩
              · exact .inl (by simp [G, e, h0])
              · refine .inr ⟨h1, G y.shadow z, ?_, ?_⟩
                · have e3 : (G b y).shadow = y.shadow := by simp [G, e]
                  rw [e3]
                  exact hold hz
                · have : y.shadow ≠ root := fun e' => by
                    rw [e', er] at hz
                    cases hz
                    have := nodeAt_some hy
                    omega
                  simp [G, this, hm]
          · have h0 := h.root hy hr
            exact h0
          · have h0 := h.size hy
            exact h0
  · exact h
theorem nodup_of_take {ks : List Int} (h : ∀ i, i < ks.length → ks.getD i 0 ∉ ks.take i) : ks.Nodup := by
  rw [List.Nodup, List.pairwise_iff_getElem]
  intro i j hi hj hij e
  have h1 := h j hj
  rw [List.getD_eq_getElem?_getD, List.getElem?_eq_getElem hj] at h1
  refine h1 ?_
  rw [Option.getD_some, List.mem_iff_getElem?]
  exact ⟨i, by rw [List.getElem?_take, if_pos hij, List.getElem?_eq_getElem (by omega), e]⟩
theorem putOk_spec {l : List Nd} {p k : Int} (h : putOk l p k = true) : ∃ x, nodeAt l k = some x ∧ rootedB x = false ∧ ¬ Abv l k p ∧ (x.parent = 0 ∨ x.parent = p) := by
  unfold putOk at h
  cases hx : nodeAt l k with
  | none => rw [hx] at h; cases h
  | some x =>
    rw [hx] at h
    simp only [Bool.and_eq_true, Bool.not_eq_true', Bool.or_eq_true, beq_iff_eq] at h
    exact ⟨x, rfl, h.1, fun ha => by rw [aboveB_true.2 ha] at h; exact absurd h.2.1 (by simp), h.2.2⟩
theorem put_nodes {l : List Nd} (h : WF l) {p : Int} {px : Nd} (hp : nodeAt l p = some px) (ks : List Int) (b : Int) : nodeAt (setKids (parAll (parAll l px.kids 0) ks p) p ks) b = (nodeAt l b).map (putN p ks b) := by
  rw [nodeAt_setKids, nodeAt_parAll, nodeAt_parAll]
  cases hb : nodeAt l b with
  | none => rfl
  | some x =>
    have hk : b ∈ px.kids ↔ x.parent = p := by
      constructor
      · intro hm
        obtain ⟨y, hy, e⟩ := h.kid hp hm
        rw [hb] at hy
        cases hy
        exact e
      · intro e
        have hp1 := nodeAt_some hp
        rcases h.par hb with h0 | ⟨y, hy, hm⟩
        · omega
        · rw [e, hp] at hy
          cases hy
          exact hm
    have hk2 : (if b ∈ px.kids then { x with parent := 0 } else x) = { x with parent := if x.parent = p then 0 else x.parent } := by
      by_cases e : x.parent = p
      · rw [if_pos (hk.2 e), if_pos e]
      · rw [if_neg fun h => e (hk.1 h), if_neg e]
    simp only [Option.map_some, putN, hk2]
    by_cases e1 : b ∈ ks
    · simp only [if_pos e1]
      by_cases e3 : b = p
      · simp only [if_pos e3]
      · simp only [if_neg e3]
    · simp only [if_neg e1]
      by_cases e3 : b = p
      · simp only [if_pos e3]
      · simp only [if_neg e3]
theorem wf_put {l : List Nd} (h : WF l) (p : Int) (ks : List Int) : WF (putM l p ks).1 := by
  unfold putM
  cases hp : nodeAt l p with
  | none => exact h
  | some px =>
    simp only
    split
    · exact h
    · split
      · exact h
      · rename_i k1 k2
        simp only [Bool.not_eq_false, List.all_eq_true, List.mem_range] at k1 k2
        have hnd : ks.Nodup := nodup_of_take fun i hi => by
          have := k1 i hi
          simp only [argOk, Bool.and_eq_true, Bool.not_eq_true', decide_eq_false_iff_not] at this
          exact this.2
        have hks : ∀ k, k ∈ ks → ∃ x, nodeAt l k = some x ∧ rootedB x = false ∧ ¬ Abv l k p ∧ (x.parent = 0 ∨ x.parent = p) := fun k hk => putOk_spec (k2 k hk)
        have hp1 := nodeAt_some hp
        have hg := put_nodes h hp ks
        generalize hl' : setKids (parAll (parAll l px.kids 0) ks p) p ks = l' at hg ⊢
        have hlen : l'.length = l.length := by rw [← hl', len_setKids, len_parAll, len_parAll]
        clear hl' k1 k2
        have hz : ∀ {b x}, nodeAt l' b = some x → ∃ y, nodeAt l b = some y ∧ x = putN p ks b y := fun {b x} hb => by
          rw [hg] at hb
          cases hb' : nodeAt l b with
          | none => rw [hb'] at hb; cases hb
          | some y => rw [hb'] at hb; cases hb; exact ⟨y, rfl, rfl⟩
        have hold : ∀ {b x}, nodeAt l b = some x → nodeAt l' b = some (putN p ks b x) := fun {b x} hb => by rw [hg, hb]; rfl
        have hupk : ∀ b y, b ∈ ks → upX (putN p ks b y) = p := fun b y e => by simp [upX, putN, e]; omega
        have hupp : ∀ b y, nodeAt l b = some y → b ∉ ks → y.parent = p → upX (putN p ks b y) = 0 := fun b y hy e e2 => by
          have : y.host = 0 := (h.host hy).resolve_right fun ⟨h3, _⟩ => by
            have := h.root hy (by simp [rootedB, h3])
            omega
          simp [upX, putN, e, e2, this]
        have hupo : ∀ b y, b ∉ ks → y.parent ≠ p → upX (putN p ks b y) = upX y := fun b y e e2 => by simp [upX, putN, e, e2]
        obtain ⟨rk, hrk⟩ := h.ups.rank
        refine ⟨by rw [hlen]; exact h.len, ⟨fun {b x} hb => ?_, ⟨fun b => rk b + (open Classical in if ∃ k, k ∈ ks ∧ Abv l k b then rk p + 1 else 0), fun b x hb hn => ?_⟩⟩, fun {b x} hb => ?_, fun {q x c} hb hc => ?_, fun {q x} hb => ?_, fun {b x} hb => ?_, fun {b x} hb => ?_, fun {b x} hb hr => ?_, fun {b x} hb => ?_⟩
        all_goals obtain ⟨y, hy, rfl⟩ := hz hb
        · by_cases e : b ∈ ks
          · rw [hupk b y e]
            exact .inr ⟨_, hold hp⟩
          · by_cases e2 : y.parent = p
            · exact .inl (hupp b y hy e e2)
            · rw [hupo b y e e2]
              exact (h.ups.there hy).imp_right fun ⟨z, hz⟩ => ⟨_, hold hz⟩
        · by_cases e : b ∈ ks
          · rw [hupk b y e]
            simp only
            rw [if_neg, if_pos ⟨b, e, abv_self hy⟩]
            · omega
            · rintro ⟨k, hk, ha⟩
              obtain ⟨_, _, _, h3, _⟩ := hks k hk
              exact h3 ha
          · by_cases e2 : y.parent = p
            · exact absurd (hupp b y hy e e2) hn
            · rw [hupo b y e e2] at hn ⊢
              have h1 := hrk b y hy hn
              simp only
              by_cases ha : ∃ k, k ∈ ks ∧ Abv l k (upX y)
              · obtain ⟨k, hk, ha⟩ := ha
                rw [if_pos ⟨k, hk, ha⟩, if_pos ⟨k, hk, Abv.up hy ha⟩]
                omega
              · rw [if_neg ha]
                omega
        · by_cases e : b ∈ ks
          · refine .inr ⟨putN p ks p px, ?_, ?_⟩
            · have e3 : (putN p ks b y).parent = p := by simp [putN, e]
              rw [e3]
              exact hold hp
            · simp [putN, e]
          · by_cases e2 : y.parent = p
            · exact .inl (by simp [putN, e, e2])
            · rcases h.par hy with h0 | ⟨z, hz, hm⟩
              · exact .inl (by simp [putN, e, e2, h0])
              · refine .inr ⟨putN p ks y.parent z, ?_, ?_⟩
                · have e3 : (putN p ks b y).parent = y.parent := by simp [putN, e, e2]
                  rw [e3]
                  exact hold hz
                · simp [putN, e2, hm]
        · by_cases e : q = p
          · have hc' : c ∈ ks := by simpa [putN, e] using hc
            obtain ⟨z, hz, _⟩ := hks c hc'
            exact ⟨_, hold hz, by simp [putN, hc', e]⟩
          · have hc' : c ∈ y.kids := by simpa [putN, e] using hc
            obtain ⟨z, hz, hm⟩ := h.kid hy hc'
            have hq := nodeAt_some hy
            have hnk : c ∉ ks := fun hk => by
              obtain ⟨z', hz', _, _, h4⟩ := hks c hk
              rw [hz] at hz'
              cases hz'
              rcases h4 with h4 | h4 <;> omega
            exact ⟨_, hold hz, by simp [putN, hnk, hm, e]⟩
        · by_cases e : q = p
          · simp only [putN, if_pos e]; exact hnd
          · simp only [putN, if_neg e]; exact h.nod hy
        · exact (h.host hy).imp_right fun ⟨e, z, hz, hm⟩ => ⟨e, _, hold hz, hm⟩
        · exact (h.shad hy).imp_right fun ⟨e, z, hz, hm⟩ => ⟨e, _, hold hz, hm⟩
        · have hr' : rootedB y = true := hr
          have h0 := h.root hy hr'
          have hnk : b ∉ ks := fun hk => by
            obtain ⟨z', hz', h2, _, _⟩ := hks b hk
            rw [hy] at hz'
            cases hz'
            rw [hr'] at h2
            cases h2
          simp only [putN, if_neg hnk, h0]
          split <;> rfl
        · have h0 := h.size hy
          exact h0
end Go.Proofs.Ytjkidecaciomgaa
