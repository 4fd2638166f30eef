/- Along a path, plain: what is around a node, and what of it is not around another. -/
import Derived.Test.YtjkidecaciomgaaBP
namespace Go.Proofs.Ytjkidecaciomgaa
set_option linter.unusedVariables false
set_option linter.unusedSimpArgs false
set_option maxRecDepth 100000
open Go.RowKit

section
variable {l : List Nd} (h : WF l)
include h
theorem root_eq2 {a s : Int} {x : Nd} (hm : a ∈ ch l Nd.parent s) (hx : nodeAt l a = some x) (h0 : x.parent = 0) : rootM l s = a := by
  obtain ⟨y, hy⟩ := (up_there h (par_up h hm)).2
  obtain ⟨r, hr, hr0⟩ := root_some h hy
  refine par_same h (root_mem h hy) hm ?_
  rw [par_step h hr, par_step h hx, hr0, h0]
  simp
theorem root_par2 {a s : Int} (hm : a ∈ ch l Nd.parent s) : rootM l s = rootM l a := by
  obtain ⟨⟨x, hx⟩, _⟩ := up_there h (par_up h hm)
  obtain ⟨r, hr, hr0⟩ := root_some h hx
  exact root_eq2 h (par_trans h (root_mem h hx) hm) hr hr0
theorem closed_top {r : Int} (hc : isClosed l r = true) : ∃ y, nodeAt l r = some y ∧ y.kind = 3 ∧ y.mode = 2 ∧ y.parent = 0 := by
  rw [isClosed, Bool.and_eq_true, decide_eq_true_eq, decide_eq_true_eq] at hc
  cases hr : nodeAt l r with
  | none => rw [nodeR_none hr] at hc; exact absurd hc.1 (by decide)
  | some y =>
    rw [nodeR_some hr] at hc
    exact ⟨y, rfl, hc.1, hc.2, h.root hr (by simp [rootedB, hc.1])⟩
end
/-- A step that goes into a shadow tree: of a node below P, whose shadow tree's root is s. -/
structure PushK (l : List Nd) (x y P s : Int) : Prop where
  kx : ∃ n, nodeAt l x = some n ∧ n.kind = 2
  ks : ∃ n, nodeAt l s = some n ∧ n.kind = 3 ∧ upX n = P ∧ n.parent = 0
  eP : ∃ n, nodeAt l P = some n
  cx : ch l upX x = x :: ch l upX P
  cs : ch l upX s = s :: ch l upX P
  cy : ch l upX y = ch l Nd.parent y ++ ch l upX P
  sy : s ∈ ch l Nd.parent y
  rt : rootM l y = s
/-- A step of a path. -/
def Stp (l : List Nd) (x y : Int) : Prop :=
  (ofM l x = 0 ∧ ch l upX x = x :: ch l upX y ∧ ∃ n, nodeAt l x = some n ∧ upX n = y ∧ ∃ m, nodeAt l y = some m) ∨ (ofM l x ≠ 0 ∧ ∃ P s, PushK l x y P s)
section
variable {l : List Nd} (h : WF l)
include h
theorem stp_ev (first : Int) (comp : Bool) {x : Int} {n : Nd} (hn : nodeAt l x = some n) (hy : evP l first comp x ≠ 0) : Stp l x (evP l first comp x) := by
  obtain ⟨m, hm⟩ := (ev_there h first comp x).resolve_left hy
  by_cases h0 : ofM l x = 0
  · left
    have e := (ev_up h first comp hn h0).resolve_right hy
    exact ⟨h0, by rw [e]; exact up_step h hn, n, hn, e.symm, m, hm⟩
  · right
    obtain ⟨n', p, hn', hk, hp, hs, hsr, _⟩ := of_ok h h0
    rw [hn] at hn'
    cases hn'
    have hpar : n.parent ≠ 0 := fun e => by rw [e, nodeAt_zero] at hp; cases hp
    have hux : upX n = n.parent := by simp [upX, hpar]
    obtain ⟨z, hz, hzh⟩ := ((h.shad hp).resolve_left hs).2
    have hpn := nodeAt_some hp
    have hzk : z.kind = 3 := ((h.host hz).resolve_left (by rw [hzh]; omega)).1
    have hzp : z.parent = 0 := h.root hz (by simp [rootedB, hzk])
    have hzu : upX z = n.parent := by simp [upX, hzp, hzh]
    have hfs : evP l first comp x = ofM l x := by rw [evP, hn]; simp [h0]
    have hrt : rootM l (ofM l x) = p.shadow := root_eq2 h hsr hz hzp
    rw [hfs]
    refine ⟨h0, n.parent, p.shadow, ⟨n, hn, hk⟩, ⟨z, hz, hzk, hzu, hzp⟩, ⟨p, hp⟩, by rw [up_step h hn, hux], by rw [up_step h hz, hzu], ?_, hsr, hrt⟩
    rw [up_split h, hostM, hrt, nodeR_some hz, hzh]
end
section
variable {l : List Nd} {x y P s : Int} (h : WF l) (k : PushK l x y P s)
include h k
theorem PushK.ne : s ≠ x := fun e => by
  have _ := h.len
  obtain ⟨n, h1, h2⟩ := k.kx
  obtain ⟨m, h3, h4, _⟩ := k.ks
  rw [e, h1] at h3
  cases h3
  omega
theorem PushK.out : s ∉ ch l upX P := fun e => by
  have := ch_nodup (desc_up h) s
  rw [k.cs, List.nodup_cons] at this
  exact this.1 e
theorem PushK.outx : s ∉ ch l upX x := fun e => by
  rw [k.cx] at e
  rcases List.mem_cons.1 e with e | e
  · exact k.ne h e
  · exact k.out h e
theorem PushK.into {c : Int} (hc : c ∈ ch l Nd.parent y) : s ∈ ch l upX c := by
  obtain ⟨⟨n, hn⟩, _⟩ := up_there h (par_up h hc)
  have := root_up h hn
  rwa [← root_par2 h hc, k.rt] at this
theorem PushK.self : P ∈ ch l upX x := by
  obtain ⟨n, hn⟩ := k.eP
  rw [k.cx]
  exact List.mem_cons_of_mem _ (up_self h hn)
theorem PushK.open' : isClosed l x = false := by
  have _ := h.len
  obtain ⟨n, h1, h2⟩ := k.kx
  rw [isClosed, nodeR_some h1, h2]
  rfl
theorem PushK.sup : s ∈ ch l upX y := by
  have _ := h.len
  rw [k.cy]
  exact List.mem_append_left _ k.sy
end
section
variable {l : List Nd} {x y : Int} (h : WF l) (hs : Stp l x y)
include h hs
theorem stp_keep {r : Int} (hr : r ∈ ch l upX x) (hne : r ≠ x) : r ∈ ch l upX y := by
  have _ := h.len
  rcases hs with ⟨_, hc, _⟩ | ⟨_, P, s, k⟩
  · rw [hc] at hr
    exact (List.mem_cons.1 hr).resolve_left hne
  · rw [k.cx] at hr
    rw [k.cy]
    exact List.mem_append_right _ ((List.mem_cons.1 hr).resolve_left hne)
theorem stp_new : x ∉ ch l upX y := fun e => by
  rcases hs with ⟨_, hc, _⟩ | ⟨_, P, s, k⟩
  · have := ch_nodup (desc_up h) x
    rw [hc, List.nodup_cons] at this
    exact this.1 e
  · rw [k.cy] at e
    rcases List.mem_append.1 e with e | e
    · exact k.outx h (k.into h e)
    · have := ch_nodup (desc_up h) x
      rw [k.cx, List.nodup_cons] at this
      exact this.1 e
theorem stp_old {c : Int} (h1 : c ∉ ch l upX x) (h2 : c ∈ ch l upX y) : ∃ P s, PushK l x y P s ∧ s ∈ ch l upX c := by
  rcases hs with ⟨_, hc, _⟩ | ⟨_, P, s, k⟩
  · rw [hc] at h1
    exact absurd (List.mem_cons_of_mem _ h2) h1
  · rw [k.cy] at h2
    rw [k.cx] at h1
    rcases List.mem_append.1 h2 with e | e
    · exact ⟨P, s, k, k.into h e⟩
    · exact absurd (List.mem_cons_of_mem _ e) h1
/-- From a shadow root on, one comes to its host. -/
theorem stp_host {a b P s : Int} (hx : x = s) (k : PushK l a b P s) : y = P := by
  have _ := h.len
  subst hx
  obtain ⟨n, hn, hk, hu, _⟩ := k.ks
  rcases hs with ⟨_, _, m, hm, e, _⟩ | ⟨_, P', s', k'⟩
  · rw [hn] at hm
    cases hm
    exact e.symm.trans hu
  · obtain ⟨m, hm, hmk⟩ := k'.kx
    rw [hn] at hm
    cases hm
    omega
end
/-- The uppermost nodes are the same. -/
def TopEq (l : List Nd) (a b : Int) : Prop := ∀ r n, nodeAt l r = some n → upX n = 0 → (r ∈ ch l upX a ↔ r ∈ ch l upX b)
theorem TopEq.trans {l : List Nd} {a b c : Int} (h1 : TopEq l a b) (h2 : TopEq l b c) : TopEq l a c := fun r n hr h0 => (h1 r n hr h0).trans (h2 r n hr h0)
theorem TopEq.symm {l : List Nd} {a b : Int} (h1 : TopEq l a b) : TopEq l b a := fun r n hr h0 => (h1 r n hr h0).symm
theorem stp_top {l : List Nd} {x y : Int} (h : WF l) (hs : Stp l x y) : TopEq l x y := fun r n hr h0 => by
  rcases hs with ⟨_, hc, m, hm, e, q, hq⟩ | ⟨_, P, s, k⟩
  · rw [hc, List.mem_cons]
    refine ⟨fun e' => e'.resolve_left fun e2 => ?_, .inr⟩
    rw [e2, hm] at hr
    cases hr
    rw [h0] at e
    rw [← e, nodeAt_zero] at hq
    cases hq
  · obtain ⟨p, hp⟩ := k.eP
    have hp0 : P ≠ 0 := fun e => by rw [e, nodeAt_zero] at hp; cases hp
    rw [k.cx, k.cy, List.mem_cons, List.mem_append]
    constructor
    · rintro (e | e)
      · exfalso
        have h1 := up_step h hr
        rw [h0, ch_none nodeAt_zero, e, k.cx, up_step h hp] at h1
        cases h1
      · exact .inr e
    · rintro (e | e)
      · exfalso
        have hpar : n.parent = 0 := by
          unfold upX at h0
          split at h0
          · assumption
          · exact h0
        have e2 := root_eq2 h e hr hpar
        rw [k.rt] at e2
        obtain ⟨m, hm, _, hu, _⟩ := k.ks
        rw [e2, hr] at hm
        cases hm
        exact hp0 (hu.symm.trans h0)
      · exact .inr e
section
variable {l : List Nd} (h : WF l) {p : Nat → Int} {n : Nat} (hp : ∀ i, i + 1 < n → Stp l (p i) (p (i + 1)))
include h hp
/-- What is no longer around has been passed. -/
theorem way_pass {s : Int} {j : Nat} (h1 : s ∈ ch l upX (p j)) : ∀ k, j ≤ k → k < n → s ∉ ch l upX (p k) → ∃ m, j ≤ m ∧ m < k ∧ p m = s
  | 0, hj, _, h2 => by
    obtain rfl : j = 0 := by omega
    exact absurd h1 h2
  | k + 1, hj, hk, h2 => by
    by_cases e : j = k + 1
    · subst e
      exact absurd h1 h2
    · by_cases h3 : s ∈ ch l upX (p k)
      · by_cases h4 : s = p k
        · exact ⟨k, by omega, by omega, h4.symm⟩
        · exact absurd (stp_keep h (hp k hk) h3 h4) h2
      · obtain ⟨m, a, b, c⟩ := way_pass h1 k (by omega) (by omega) h3
        exact ⟨m, a, by omega, c⟩
theorem way_back {k : Nat} (hk : k + 1 < n) (hN : ∀ j, j < k → p j ∉ ch l upX (p k)) {P s : Int} (kk : PushK l (p k) (p (k + 1)) P s) {i : Nat} (hi : i ≤ k) : s ∉ ch l upX (p i) := fun e => by
  obtain ⟨m, h1, h2, h3⟩ := way_pass h hp e k hi (by omega) (kk.outx h)
  have h4 := stp_host h (hp m (by omega)) h3 kk
  have hs := kk.self h
  rw [← h4] at hs
  by_cases e2 : m + 1 = k
  · rw [e2] at h4
    have h5 := kk.cx
    rw [h4] at h5
    exact absurd (congrArg List.length h5) (by simp)
  · exact hN (m + 1) (by omega) hs
/-- What has been passed is not around again. -/
theorem way_gone : ∀ k, k < n → ∀ j, j < k → p j ∉ ch l upX (p k)
  | 0, _, j, hj => by omega
  | k + 1, hk, j, hj => fun e => by
    by_cases e2 : j = k
    · subst e2
      exact stp_new h (hp j hk) e
    · have hN := way_gone k (by omega)
      obtain ⟨P, s, kk, hs⟩ := stp_old h (hp k hk) (hN j (by omega)) e
      exact way_back h hp hk hN kk (i := j) (by omega) hs
theorem way_push {k i : Nat} (hk : k + 1 < n) {P s : Int} (kk : PushK l (p k) (p (k + 1)) P s) (hi : i ≤ k) : s ∉ ch l upX (p i) := way_back h hp hk (way_gone h hp k (by omega)) kk hi
theorem way_top {i : Nat} : ∀ k, i ≤ k → k < n → TopEq l (p i) (p k)
  | 0, hi, _ => by
    obtain rfl : i = 0 := by omega
    exact fun _ _ _ _ => Iff.rfl
  | k + 1, hi, hk => by
    by_cases e : i = k + 1
    · subst e
      exact fun _ _ _ _ => Iff.rfl
    · exact (way_top k (by omega) (by omega)).trans (stp_top h (hp k hk))
end
/-- How many closed roots of these aren't around b. -/
def outK (l : List Nd) (b : Int) (zs : List Int) : Nat := (zs.filter fun r => isClosed l r && !decide (r ∈ ch l upX b)).length
section
variable {l : List Nd} {b : Int}
theorem outK_append (xs ys : List Int) : outK l b (xs ++ ys) = outK l b xs + outK l b ys := by simp [outK]
theorem outK_cons (x : Int) (ys : List Int) : outK l b (x :: ys) = (if isClosed l x = true ∧ x ∉ ch l upX b then 1 else 0) + outK l b ys := by
  unfold outK
  rw [List.filter_cons]
  by_cases h1 : isClosed l x = true <;> by_cases h2 : x ∈ ch l upX b <;> simp [h1, h2] <;> omega
theorem outK_zero {zs : List Int} : outK l b zs = 0 ↔ ∀ r ∈ zs, isClosed l r = true → r ∈ ch l upX b := by
  rw [outK, List.length_eq_zero_iff, List.filter_eq_nil_iff]
  constructor
  · intro h1 r hr hc
    have := h1 r hr
    simpa [hc] using this
  · intro h1 r hr
    cases hc : isClosed l r with
    | false => simp
    | true => simp [h1 r hr hc]
theorem filter_one {q : Int → Bool} {s : Int} : ∀ zs : List Int, zs.Nodup → s ∈ zs → (∀ r ∈ zs, q r = true → r = s) → (zs.filter q).length = if q s = true then 1 else 0
  | [], _, h1, _ => by cases h1
  | z :: zs, hn, h1, h2 => by
    rw [List.nodup_cons] at hn
    rw [List.filter_cons]
    by_cases e : z = s
    · subst e
      have h3 : zs.filter q = [] := List.filter_eq_nil_iff.2 fun r hr hq => hn.1 ((h2 r (List.mem_cons_of_mem _ hr) hq) ▸ hr)
      rw [h3]
      split <;> rfl
    · have h3 : ¬ q z = true := fun hq => e (h2 z List.mem_cons_self hq)
      rw [if_neg h3]
      exact filter_one zs hn.2 ((List.mem_cons.1 h1).resolve_left fun e' => e e'.symm) fun r hr => h2 r (List.mem_cons_of_mem _ hr)
end
section
variable {l : List Nd} {x y b : Int} (h : WF l)
include h
theorem outK_push {P s : Int} (k : PushK l x y P s) : outK l b (ch l Nd.parent y) = if isClosed l s = true ∧ s ∉ ch l upX b then 1 else 0 := by
  have hone := filter_one (q := fun r => isClosed l r && !decide (r ∈ ch l upX b)) (s := s) (ch l Nd.parent y) (ch_nodup (desc_par h) y) k.sy fun r hr hq => by
    rw [Bool.and_eq_true] at hq
    obtain ⟨n, hn, _, _, hp⟩ := closed_top h hq.1
    rw [← root_eq2 h hr hn hp, k.rt]
  rw [outK, hone]
  by_cases h1 : isClosed l s = true <;> by_cases h2 : s ∈ ch l upX b <;> simp [h1, h2]
theorem outK_in {a : Int} (ha : a ∈ ch l upX b) : outK l b (ch l upX a) = 0 := outK_zero.2 fun r hr _ => up_trans h hr ha
/-- A step, on the way from b. -/
theorem out_fw (hs : Stp l x y) (hpush : ∀ P s, PushK l x y P s → s ∉ ch l upX b) : (if isClosed l x = true then outK l b (ch l upX x) - 1 else outK l b (ch l upX x)) + (if (decide (ofM l x ≠ 0) && isClosed l (rootM l y)) = true then 1 else 0) = outK l b (ch l upX y) := by
  rcases hs with ⟨h0, hc, n, hn, _⟩ | ⟨h0, P, s, k⟩
  · rw [hc, outK_cons, h0]
    simp only [ne_eq, not_true_eq_false, decide_false, Bool.false_and, Bool.false_eq_true, if_false, Nat.add_zero]
    by_cases h1 : isClosed l x = true
    · by_cases h2 : x ∈ ch l upX b
      · have h3 : outK l b (ch l upX y) = 0 := outK_zero.2 fun r hr _ => up_trans h (by rw [hc]; exact List.mem_cons_of_mem _ hr) h2
        simp [h1, h2, h3]
      · simp [h1, h2]
    · simp [h1]
  · rw [k.open' h, k.cx, k.cy, outK_cons, outK_append, k.open' h, outK_push h k, k.rt]
    have h1 := hpush P s k
    by_cases h2 : isClosed l s = true <;> simp [h0, h1, h2] <;> omega
/-- A step, on the way to b. -/
theorem out_bw (hs : Stp l x y) (hx : x ∉ ch l upX b) : (if (decide (ofM l x ≠ 0) && isClosed l (rootM l y)) = true then outK l b (ch l upX y) - 1 else outK l b (ch l upX y)) + (if isClosed l x = true then 1 else 0) = outK l b (ch l upX x) := by
  rcases hs with ⟨h0, hc, n, hn, _⟩ | ⟨h0, P, s, k⟩
  · rw [hc, outK_cons, h0]
    simp only [ne_eq, not_true_eq_false, decide_false, Bool.false_and, Bool.false_eq_true, if_false]
    by_cases h1 : isClosed l x = true <;> simp [h1, hx] <;> omega
  · rw [k.open' h, k.cx, k.cy, outK_cons, outK_append, k.open' h, outK_push h k, k.rt]
    by_cases h2 : isClosed l s = true
    · by_cases h1 : s ∈ ch l upX b
      · have h3 : outK l b (ch l upX P) = 0 := outK_zero.2 fun r hr _ => up_trans h (by rw [k.cs]; exact List.mem_cons_of_mem _ hr) h1
        simp [h0, h1, h2, h3]
      · simp [h0, h1, h2]
    · simp [h0, h2]
theorem hosts_up {a r : Int} (hr : r ∈ closedM l a) : r ∈ ch l upX a ∧ isClosed l r = true := by
  rw [closedM, List.mem_filter] at hr
  refine ⟨?_, hr.2⟩
  have := hr.1
  clear hr
  refine host_induct h (p := fun a => r ∈ rootsM l a → r ∈ ch l upX a) (fun a hx hm => ?_) (fun a n hx ih hm => ?_) a this
  · rw [rootsM, hs_none hx] at hm; cases hm
  · rw [rootsM, hs_step h hx, List.map_cons] at hm
    rcases List.mem_cons.1 hm with e | hm
    · rw [e]; exact root_up h hx
    · exact host_up h (ih hm)
/-- Hidden is what has a closed root around it that isn't around the other. -/
theorem hid_out {a b : Int} {m : Nd} (hb : nodeAt l b = some m) (ht : TopEq l a b) : hiddenM l a b = !decide (outK l b (ch l upX a) = 0) := by
  cases hh : hiddenM l a b with
  | true =>
    obtain ⟨r, h1, h2⟩ := hid_some h hh
    obtain ⟨h3, h4⟩ := hosts_up h h1
    have : outK l b (ch l upX a) ≠ 0 := fun e => h2 (outK_zero.1 e r h3 h4)
    simp [this]
  | false =>
    have key : ∀ a, (∀ r n, nodeAt l r = some n → upX n = 0 → r ∈ ch l upX a → r ∈ ch l upX b) → hidL l b (hs l a) = false → ∀ r ∈ ch l upX a, isClosed l r = true → r ∈ ch l upX b := by
      refine host_induct h (fun a hx _ _ r hr => ?_) (fun a n hx ih ht hf r hr hc => ?_)
      · rw [ch_none hx] at hr; cases hr
      · rw [hid_step h hx] at hf
        obtain ⟨q, hq, hqk, hqm, hqp⟩ := closed_top h hc
        obtain ⟨z, hz, hz0⟩ := root_some h hx
        rw [up_split h] at hr
        by_cases hcc : hostM l a = 0 ∨ rootM l a ∈ ch l upX b
        · rcases hcc with h0 | h0
          · rw [h0, ch_none nodeAt_zero, List.append_nil] at hr
            have e := root_eq2 h hr hq hqp
            rw [← e] at hq ⊢
            refine ht _ q hq ?_ (root_up h hx)
            rw [upX, if_pos hqp]
            rw [hostM, nodeR_some hq] at h0
            exact h0
          · rcases List.mem_append.1 hr with hr | hr
            · rw [← root_eq2 h hr hq hqp]; exact h0
            · have : r ∈ ch l upX (rootM l a) := by
                rw [← host_root h] at hr
                exact host_up h hr
              exact up_trans h this h0
        · rw [if_neg hcc] at hf
          by_cases hmo : (nodeR l (rootM l a)).mode = 2
          · rw [if_pos hmo] at hf; cases hf
          · rw [if_neg hmo] at hf
            rcases List.mem_append.1 hr with hr | hr
            · rw [root_eq2 h hr hq hqp, nodeR_some hq] at hmo
              exact absurd hqm hmo
            · exact ih (fun r n hr h0 hm => ht r n hr h0 (host_up h hm)) hf r hr hc
    rw [hiddenM, hb] at hh
    have hf : hidL l b (hs l a) = false := by simpa using hh
    have := outK_zero.2 (key a (fun r n hr h0 hm => (ht r n hr h0).1 hm) hf)
    simp [this]
end
end Go.Proofs.Ytjkidecaciomgaa
