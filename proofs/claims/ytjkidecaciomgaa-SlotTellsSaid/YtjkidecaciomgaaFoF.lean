/- What is assigned, and what is shown at last, plain. -/
import Derived.Test.YtjkidecaciomgaaSl3
namespace Go.Proofs.Ytjkidecaciomgaa
set_option linter.unusedVariables false
set_option linter.unusedSimpArgs false
set_option maxRecDepth 100000
open Go.RowKit

section
variable {l : List Nd} (h : WF l)
include h
theorem root_eq {a s : Int} {x : Nd} (hm : a ∈ ch l Nd.parent s) (hx : nodeAt l a = some x) (h0 : x.parent = 0) : rootM l s = a := by
  obtain ⟨y, hy⟩ := (up_there h (par_up h hm)).2
  obtain ⟨r, hr, hr0⟩ := root_some h hy
  refine par_same h (root_mem h hy) hm ?_
  rw [par_step h hr, par_step h hx, hr0, h0]
  simp
theorem root_par {a s : Int} (hm : a ∈ ch l Nd.parent s) : rootM l s = rootM l a := by
  obtain ⟨⟨x, hx⟩, _⟩ := up_there h (par_up h hm)
  obtain ⟨r, hr, hr0⟩ := root_some h hx
  exact root_eq h (par_trans h (root_mem h hx) hm) hr hr0
theorem host_par {a s : Int} (hm : a ∈ ch l Nd.parent s) : hostM l s = hostM l a := by rw [hostM, hostM, root_par h hm]
/-- Who is assigned to a slot. -/
theorem asg_mem {s c : Int} : c ∈ assignedM l s ↔ s ≠ 0 ∧ ofM l c = s ∧ (∃ x, nodeAt l c = some x) ∨ c ∈ assignedM l s ∧ s = 0 := by
  constructor
  · intro hm
    by_cases h0 : s = 0
    · exact .inr ⟨hm, h0⟩
    · refine .inl ⟨h0, ?_⟩
      unfold assignedM at hm
      cases hx : nodeAt l (hostM l s) with
      | none => rw [hx] at hm; cases hm
      | some p =>
        rw [hx] at hm
        have h1 := (List.mem_filter.1 hm).2
        rw [delC, Bool.not_not, Bool.and_eq_true, beq_iff_eq] at h1
        exact ⟨h1.2, Option.isSome_iff_exists.1 h1.1⟩
  · rintro (⟨h0, ho, hx⟩ | hm)
    · have hne : ofM l c ≠ 0 := by rw [ho]; exact h0
      obtain ⟨n, p, hn, hk, hp, hs, hr, _⟩ := of_ok h hne
      rw [ho] at hr
      obtain ⟨y, hy, hyh⟩ := ((h.shad hp).resolve_left hs).2
      have hpn := nodeAt_some hp
      have hyk : y.kind = 3 := ((h.host hy).resolve_left (by rw [hyh]; omega)).1
      have hyp : y.parent = 0 := h.root hy (by simp [rootedB, hyk])
      have hh : hostM l s = n.parent := by rw [hostM, root_eq h hr hy hyp, nodeR_some hy, hyh]
      unfold assignedM
      rw [hh, hp]
      have hp0 : n.parent ≠ 0 := by omega
      obtain ⟨z, hz, hzk⟩ := (h.par hn).resolve_left hp0
      rw [hp] at hz
      cases hz
      exact List.mem_filter.2 ⟨hzk, by rw [delC, hn, ho]; simp⟩
    · exact hm.1
theorem asg_zero : assignedM l 0 = [] := by
  have : nodeAt l (hostM l 0) = none := by rw [host_none h nodeAt_zero, nodeAt_zero]
  rw [assignedM, this]
theorem asg_iff {s c : Int} : c ∈ assignedM l s ↔ s ≠ 0 ∧ ofM l c = s := by
  rw [asg_mem h]
  constructor
  · rintro (⟨h0, ho, _⟩ | ⟨hm, h0⟩)
    · exact ⟨h0, ho⟩
    · rw [h0, asg_zero h] at hm; cases hm
  · rintro ⟨h0, ho⟩
    obtain ⟨n, _, hn, _⟩ := of_ok h (by rw [ho]; exact h0 : ofM l c ≠ 0)
    exact .inl ⟨h0, ho, n, hn⟩
theorem asg_kid {s c : Int} (hm : c ∈ assignedM l s) : ∃ p n, nodeAt l (hostM l s) = some p ∧ c ∈ p.kids ∧ nodeAt l c = some n ∧ n.parent = hostM l s ∧ n.kind = 2 := by
  have hk := (asg_iff h).1 hm
  unfold assignedM at hm
  cases hx : nodeAt l (hostM l s) with
  | none => rw [hx] at hm; cases hm
  | some p =>
    rw [hx] at hm
    have h1 := (List.mem_filter.1 hm).1
    obtain ⟨n, hn, e⟩ := h.kid hx h1
    obtain ⟨n', _, hn', hk2, _⟩ := of_ok h (by rw [hk.2]; exact hk.1 : ofM l c ≠ 0)
    rw [hn] at hn'
    cases hn'
    exact ⟨p, n, rfl, h1, hn, e, hk2⟩
theorem asg_nodup (s : Int) : (assignedM l s).Nodup := by
  unfold assignedM
  cases hx : nodeAt l (hostM l s) with
  | none => simp
  | some p => exact List.Nodup.sublist List.filter_sublist (h.nod hx)
end
theorem nodup_pair : ∀ {ys : List Int}, ys.Nodup → ys.Pairwise fun a b => ys.idxOf a < ys.idxOf b
  | [], _ => .nil
  | y :: ys, hn => by
    rw [List.nodup_cons] at hn
    refine List.pairwise_cons.2 ⟨fun b hb => ?_, List.Pairwise.imp_of_mem (fun {a b} ha hb hab => ?_) (nodup_pair hn.2)⟩
    · have : b ≠ y := fun e => hn.1 (e ▸ hb)
      rw [List.idxOf_cons, List.idxOf_cons, beq_self_eq_true, beq_eq_false_iff_ne.2 (Ne.symm this)]
      exact Nat.succ_pos _
    · have h1 : a ≠ y := fun e => hn.1 (e ▸ ha)
      have h2 : b ≠ y := fun e => hn.1 (e ▸ hb)
      rw [List.idxOf_cons, List.idxOf_cons, beq_eq_false_iff_ne.2 (Ne.symm h1), beq_eq_false_iff_ne.2 (Ne.symm h2)]
      exact Nat.succ_lt_succ hab
/-- What is put in a slot's place, once. -/
def onceM (l : List Nd) (s : Int) : List Int := if assignedM l s = [] then (nodeR l s).kids.filter fun x => !(delK l x) else assignedM l s
def shownB (l : List Nd) (c : Int) : Bool := (nodeR l c).slot && decide ((nodeR l (rootM l c)).kind = 3)
/-- All that comes up where a node is shown. -/
def visN (l : List Nd) : Nat → Int → List Int
  | 0, c => [c]
  | n + 1, c => c :: if shownB l c then (onceM l c).flatMap (visN l n) else []
/-- What is there at last. -/
def expN (l : List Nd) : Nat → Int → List Int
  | 0, c => [c]
  | n + 1, c => if shownB l c then (onceM l c).flatMap (expN l n) else [c]
section
variable {l : List Nd} (h : WF l)
include h
theorem once_kid {c e : Int} (hm : e ∈ onceM l c) : e ∈ assignedM l c ∨ ∃ x, nodeAt l c = some x ∧ e ∈ x.kids ∧ (nodeR l e).kind = 2 ∧ ∃ y, nodeAt l e = some y ∧ y.parent = c := by
  unfold onceM at hm
  split at hm
  · right
    obtain ⟨h1, h2⟩ := List.mem_filter.1 hm
    cases hx : nodeAt l c with
    | none => rw [nodeR_none hx] at h1; cases h1
    | some x =>
      rw [nodeR_some hx] at h1
      rw [delK, Bool.not_not, Bool.and_eq_true, beq_iff_eq] at h2
      exact ⟨x, rfl, h1, h2.2, h.kid hx h1⟩
  · exact .inl hm
theorem once_there {c e : Int} (hm : e ∈ onceM l c) : ∃ y, nodeAt l e = some y := by
  rcases once_kid h hm with hm | ⟨x, hx, hk, _, y, hy, _⟩
  · obtain ⟨_, n, _, _, hn, _⟩ := asg_kid h hm
    exact ⟨n, hn⟩
  · exact ⟨y, hy⟩
theorem once_elem {c e : Int} (hm : e ∈ onceM l c) : (nodeR l e).kind = 2 := by
  rcases once_kid h hm with hm | ⟨x, hx, hk, hk2, y, hy, _⟩
  · obtain ⟨_, n, _, _, hn, _, hk⟩ := asg_kid h hm
    rw [nodeR_some hn]; exact hk
  · exact hk2
theorem once_nodup (c : Int) : (onceM l c).Nodup := by
  unfold onceM
  split
  · cases hx : nodeAt l c with
    | none => rw [nodeR_none hx]; exact List.nodup_nil
    | some x => rw [nodeR_some hx]; exact List.Nodup.sublist List.filter_sublist (h.nod hx)
  · exact asg_nodup h c
/-- How deep a node's tree lies. -/
theorem asg_deep {s c : Int} (hm : c ∈ assignedM l s) : (hs l s).length = (hs l c).length + 1 ∧ rootM l c = rootM l (hostM l s) := by
  obtain ⟨p, n, hp, hk, hn, hnp, _⟩ := asg_kid h hm
  have hpar : hostM l s ∈ ch l Nd.parent c := kid_par h hp hk
  have h1 := host_par h hpar
  have hsx : ∃ x, nodeAt l s = some x := by
    cases hx : nodeAt l s with
    | some x => exact ⟨x, rfl⟩
    | none => rw [host_none h hx, nodeAt_zero] at hp; cases hp
  obtain ⟨x, hx⟩ := hsx
  rw [hs_step h hx, hs_step h hn, hs_step h hp, h1]
  exact ⟨by simp, root_par h hpar⟩
theorem hs_par {a c : Int} (hm : a ∈ ch l Nd.parent c) : (hs l c).length = (hs l a).length := by
  obtain ⟨⟨x, hx⟩, ⟨y, hy⟩⟩ := up_there h (par_up h hm)
  rw [hs_step h hx, hs_step h hy, host_par h hm]
  simp
theorem vis_there : ∀ (n : Nat) {c d : Int}, (∃ x, nodeAt l c = some x) → d ∈ visN l n c → ∃ y, nodeAt l d = some y
  | 0, c, d, hc, hm => by rw [visN, List.mem_singleton] at hm; rw [hm]; exact hc
  | n + 1, c, d, hc, hm => by
    rw [visN] at hm
    rcases List.mem_cons.1 hm with rfl | hm
    · exact hc
    · split at hm
      · obtain ⟨e, he, hm⟩ := List.mem_flatMap.1 hm
        exact vis_there n (once_there h he) hm
      · cases hm
theorem vis_deep : ∀ (n : Nat) {c d : Int}, d ∈ visN l n c → (hs l d).length ≤ (hs l c).length
  | 0, c, d, hm => by rw [visN, List.mem_singleton] at hm; rw [hm]; exact Nat.le_refl _
  | n + 1, c, d, hm => by
    rw [visN] at hm
    rcases List.mem_cons.1 hm with rfl | hm
    · exact Nat.le_refl _
    · split at hm
      · obtain ⟨e, he, hm⟩ := List.mem_flatMap.1 hm
        have h1 := vis_deep n hm
        rcases once_kid h he with he | ⟨x, hx, hk, _⟩
        · have := (asg_deep h he).1; omega
        · have := hs_par h (kid_par h hx hk); omega
      · cases hm
theorem vis_way : ∀ (n : Nat) {c d : Int}, (∃ x, nodeAt l c = some x) → d ∈ visN l n c → c ∈ ch l Nd.parent d ∨ ∃ s k m, c ∈ ch l Nd.parent s ∧ k ∈ assignedM l s ∧ d ∈ visN l m k
  | 0, c, d, ⟨x, hx⟩, hm => by rw [visN, List.mem_singleton] at hm; rw [hm]; exact .inl (par_self h hx)
  | n + 1, c, d, ⟨x, hx⟩, hm => by
    rw [visN] at hm
    rcases List.mem_cons.1 hm with rfl | hm
    · exact .inl (par_self h hx)
    · split at hm
      · obtain ⟨e, he, hm⟩ := List.mem_flatMap.1 hm
        rcases once_kid h he with he | ⟨x', hx', hk, _, y, hy, _⟩
        · exact .inr ⟨c, e, n, par_self h hx, he, hm⟩
        · have hp := kid_par h hx' hk
          rcases vis_way n ⟨y, hy⟩ hm with h1 | ⟨s, k, m, h1, h2, h3⟩
          · exact .inl (par_trans h hp h1)
          · exact .inr ⟨s, k, m, par_trans h hp h1, h2, h3⟩
      · cases hm
theorem par_total {a b d : Int} (h1 : a ∈ ch l Nd.parent d) (h2 : b ∈ ch l Nd.parent d) : a ∈ ch l Nd.parent b ∨ b ∈ ch l Nd.parent a := by
  refine desc_induct (desc_par h) (p := fun d => a ∈ ch l Nd.parent d → b ∈ ch l Nd.parent d → a ∈ ch l Nd.parent b ∨ b ∈ ch l Nd.parent a) (fun id hx hm => ?_) (fun id x hx ih hm hm2 => ?_) d h1 h2
  · rw [ch_none hx] at hm; cases hm
  · have e1 := hm
    have e2 := hm2
    rw [par_step h hx] at hm hm2
    rcases List.mem_cons.1 hm with e | hm
    · right; rw [e]; exact e2
    · rcases List.mem_cons.1 hm2 with e | hm2
      · left; rw [e]; exact e1
      · exact ih hm hm2
/-- Nodes of one tree, neither above the other: nothing comes up at both. -/
theorem vis_apart : ∀ (N : Nat) {c1 c2 d : Int} {n1 n2 : Nat}, (hs l c1).length ≤ N → (∃ x, nodeAt l c1 = some x) → (∃ x, nodeAt l c2 = some x) → rootM l c1 = rootM l c2 → c1 ∉ ch l Nd.parent c2 → c2 ∉ ch l Nd.parent c1 → d ∈ visN l n1 c1 → d ∈ visN l n2 c2 → False
  | 0, c1, c2, d, n1, n2, hN, ⟨x, hx⟩, _, _, _, _, _, _ => by rw [hs_step h hx] at hN; simp at hN
  | N + 1, c1, c2, d, n1, n2, hN, hx1, hx2, hr, ha, hb, h1, h2 => by
    have hh : hostM l c1 = hostM l c2 := by rw [hostM, hostM, hr]
    have hl : (hs l c1).length = (hs l c2).length := by
      obtain ⟨x1, e1⟩ := hx1
      obtain ⟨x2, e2⟩ := hx2
      rw [hs_step h e1, hs_step h e2, hh]
      simp
    rcases vis_way h n1 hx1 h1 with p1 | ⟨s1, k1, m1, p1, q1, r1⟩
    · rcases vis_way h n2 hx2 h2 with p2 | ⟨s2, k2, m2, p2, q2, r2⟩
      · exact (par_total h p1 p2).elim ha hb
      · have e1 := hs_par h p1
        have e2 := hs_par h p2
        have e3 := (asg_deep h q2).1
        have e4 := vis_deep h m2 r2
        omega
    · rcases vis_way h n2 hx2 h2 with p2 | ⟨s2, k2, m2, p2, q2, r2⟩
      · have e1 := hs_par h p1
        have e2 := hs_par h p2
        have e3 := (asg_deep h q1).1
        have e4 := vis_deep h m1 r1
        omega
      · obtain ⟨w1, y1, hw1, hk1, hy1, hyp1, _⟩ := asg_kid h q1
        obtain ⟨w2, y2, hw2, hk2, hy2, hyp2, _⟩ := asg_kid h q2
        have o1 := (asg_iff h).1 q1
        have o2 := (asg_iff h).1 q2
        have hne : k1 ≠ k2 := fun e => by
          have : s1 = s2 := by rw [← o1.2, ← o2.2, e]
          rw [← this] at p2
          exact (par_total h p1 p2).elim ha hb
        have hho : hostM l s1 = hostM l s2 := by rw [host_par h p1, host_par h p2, hh]
        have c1' := par_step h hy1
        have c2' := par_step h hy2
        rw [hyp1] at c1'
        rw [hyp2, ← hho] at c2'
        have d1 := (asg_deep h q1)
        have d2 := (asg_deep h q2)
        have e1 := hs_par h p1
        have hlen : (ch l Nd.parent k1).length = (ch l Nd.parent k2).length := by rw [c1', c2']; simp
        refine vis_apart N (by omega) ⟨y1, hy1⟩ ⟨y2, hy2⟩ (by rw [d1.2, d2.2, hho]) (fun e => ?_) (fun e => ?_) r1 r2
        · exact hne (par_same h e (par_self h hy2) hlen)
        · exact hne (par_same h (par_self h hy1) e hlen)
theorem vis_nodup : ∀ (n : Nat) {c : Int}, (∃ x, nodeAt l c = some x) → (visN l n c).Nodup
  | 0, c, _ => by rw [visN]; simp
  | n + 1, c, ⟨x, hx⟩ => by
    rw [visN, List.nodup_cons]
    by_cases hsh : shownB l c = true
    · rw [if_pos hsh]
      constructor
      · intro hm
        obtain ⟨e, he, hm⟩ := List.mem_flatMap.1 hm
        rcases once_kid h he with he' | ⟨x', hx', hk, _, y, hy, hyp⟩
        · have := (asg_deep h he').1
          have := vis_deep h n hm
          omega
        · have hch := kid_chain h hx' hk
          have hdp := hs_par h (kid_par h hx' hk)
          rcases vis_way h n ⟨y, hy⟩ hm with p | ⟨s, k, m, p, q, r⟩
          · rcases par_le h p with e' | e'
            · rw [e'] at hch; omega
            · omega
          · have e1 := hs_par h p
            have e2 := (asg_deep h q).1
            have e3 := vis_deep h m r
            omega
      · rw [List.Nodup, List.pairwise_flatMap]
        refine ⟨fun e he => vis_nodup n (once_there h he), ?_⟩
        refine List.Pairwise.imp_of_mem ?_ (once_nodup h c)
        intro a b ha hb hne u hu v hv e
        subst e
        -- both have the same parent
        have hsame : ∃ ya yb : Nd, nodeAt l a = some ya ∧ nodeAt l b = some yb ∧ ya.parent = yb.parent ∧ rootM l a = rootM l b := by
          unfold onceM at ha hb
          by_cases hz : assignedM l c = []
          · have ha' : a ∈ onceM l c := by unfold onceM; exact ha
            have hb' : b ∈ onceM l c := by unfold onceM; exact hb
            rcases once_kid h ha' with e | ⟨xa, hxa, hka, _, ya, hya, hpa⟩
            · rw [hz] at e; cases e
            · rcases once_kid h hb' with e | ⟨xb, hxb, hkb, _, yb, hyb, hpb⟩
              · rw [hz] at e; cases e
              · exact ⟨ya, yb, hya, hyb, by rw [hpa, hpb], by rw [root_par h (kid_par h hxa hka), root_par h (kid_par h hxb hkb)]⟩
          · rw [if_neg hz] at ha hb
            obtain ⟨_, ya, _, _, hya, hpa, _⟩ := asg_kid h ha
            obtain ⟨_, yb, _, _, hyb, hpb, _⟩ := asg_kid h hb
            exact ⟨ya, yb, hya, hyb, by rw [hpa, hpb], by rw [(asg_deep h ha).2, (asg_deep h hb).2]⟩
        obtain ⟨ya, yb, hya, hyb, hpp, hrr⟩ := hsame
        have hlen : (ch l Nd.parent a).length = (ch l Nd.parent b).length := by rw [par_step h hya, par_step h hyb, hpp]; simp
        exact vis_apart h _ (Nat.le_refl _) ⟨ya, hya⟩ ⟨yb, hyb⟩ hrr (fun e => hne (par_same h e (par_self h hyb) hlen)) (fun e => hne (par_same h (par_self h hya) e hlen)) hu hv
    · rw [if_neg hsh]
      exact ⟨by simp, List.nodup_nil⟩
theorem vis_len (n : Nat) {c : Int} (hc : ∃ x, nodeAt l c = some x) : (visN l n c).length ≤ l.length := nodup_len _ _ (vis_nodup h n hc) fun d hd => by
  obtain ⟨y, hy⟩ := vis_there h n hc hd
  have := nodeAt_some hy
  omega
end
theorem flat_le {f g : Int → List Int} : ∀ (xs : List Int), (∀ x ∈ xs, (f x).length ≤ (g x).length) → (xs.flatMap f).length ≤ (xs.flatMap g).length
  | [], _ => Nat.le_refl _
  | x :: xs, h => by
    have h1 := h x (by simp)
    have h2 := flat_le xs fun y hy => h y (by simp [hy])
    simp only [List.flatMap_cons, List.length_append]
    omega
theorem exp_le (l : List Nd) : ∀ (n : Nat) (c : Int), (expN l n c).length ≤ (visN l n c).length
  | 0, c => by simp [expN, visN]
  | n + 1, c => by
    rw [expN, visN]
    split
    · have := flat_le (f := expN l n) (g := visN l n) (onceM l c) fun x _ => exp_le l n x
      simp only [List.length_cons]
      omega
    · simp
theorem exp_len {l : List Nd} (h : WF l) (n : Nat) {c : Int} (hc : ∃ x, nodeAt l c = some x) : (expN l n c).length ≤ 128 := by
  have h1 := exp_le l n c
  have h2 := vis_len h n hc
  have h3 := h.len
  omega
/-- How far it goes. -/
def deepM (l : List Nd) (c : Int) : Nat := (hs l c).length * 200 + (150 - (ch l Nd.parent c).length)
theorem deep_once {l : List Nd} (h : WF l) {c e : Int} (hm : e ∈ onceM l c) : deepM l e < deepM l c := by
  have hlc := ch_len (desc_par h) c
  have hle := ch_len (desc_par h) e
  have hlen := h.len
  unfold deepM
  rcases once_kid h hm with hm | ⟨x, hx, hk, _⟩
  · have := (asg_deep h hm).1
    omega
  · have h1 := hs_par h (kid_par h hx hk)
    have h2 := kid_chain h hx hk
    omega
theorem deep_max {l : List Nd} (h : WF l) (c : Int) : deepM l c < 30000 := by
  have h1 := hs_le h c
  have h2 := h.len
  unfold deepM
  omega
end Go.Proofs.Ytjkidecaciomgaa
