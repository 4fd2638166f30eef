/- VL, part 8: calls. -/
import Derived.Test.YtpmeffdcbjakoaaDoorVL7
namespace Go.Proofs.YtpmeffdcbjakoaaDoor
set_option linter.unusedVariables false
set_option linter.unusedSimpArgs false
open Go.RowKit

def callB (P : Program) (f : FuncId) : Bool :=
  match P.funcs[f]? with
  | some fn => !(fn.name == "runtime.NumGoroutine") && fn.body.isSome
  | none => false
theorem run_callFunc {P : Program} {f : FuncId} (h : callB P f = true) (args : Array Value) (w : World) : (callFunc f args).run P w = .ok (.enter f args) w := by
  unfold callB at h
  split at h
  · rename_i fn hf
    simp only [Bool.and_eq_true, Bool.not_eq_true'] at h
    have h3 : ¬ fn.name = "runtime.NumGoroutine" := by simpa using h.1
    have h4 : ¬ fn.body = none := fun e => by rw [e] at h; cases h.2
    simp [callFunc, hf, h3, h4]
  · cases h
mutual
/-- No resource is meant. -/
def AV.noRef : AV → Bool
  | .v _ => true
  | .sem _ => true
  | .res _ => false
  | .ptr _ _ => false
  | .fn _ l => AV.noRefs l
  | .agg l => AV.noRefs l
  | .tup l => AV.noRefs l
def AV.noRefs : List AV → Bool
  | [] => true
  | x :: l => and (AV.noRef x) (AV.noRefs l)
end
mutual
theorem AV.noRef_has : ∀ {x : AV}, x.noRef = true → ∀ g, x.has g = false
  | .v _, _, g => by simp [AV.has]
  | .sem _, _, g => by simp [AV.has]
  | .res _, h, g => by simp [AV.noRef] at h
  | .ptr _ _, h, g => by simp [AV.noRef] at h
  | .fn _ l, h, g => by
    simp only [AV.has]
    exact AV.noRefs_has (by simpa [AV.noRef] using h) g
  | .agg l, h, g => by
    simp only [AV.has]
    exact AV.noRefs_has (by simpa [AV.noRef] using h) g
  | .tup l, h, g => by
    simp only [AV.has]
    exact AV.noRefs_has (by simpa [AV.noRef] using h) g
theorem AV.noRefs_has : ∀ {l : List AV}, AV.noRefs l = true → ∀ g, AV.hasL g l = false
  | [], _, g => by simp [AV.hasL]
  | x :: l, h, g => by
    simp only [AV.noRefs, Bool.and_eq_true] at h
    simp [AV.hasL, AV.noRef_has h.1 g, AV.noRefs_has h.2 g]
end
theorem AV.leaves_noRef : ∀ {l : List AV}, AV.leaves l = true → AV.noRefs l = true
  | [], _ => rfl
  | x :: l, h => by
    simp only [AV.leaves, Bool.and_eq_true] at h
    simp only [AV.noRefs, Bool.and_eq_true]
    exact ⟨by cases x <;> simp_all [AV.leaf, AV.noRef], AV.leaves_noRef h.2⟩

section
variable {C : Cx} {r : List (Nat × RK)} {o : Oper} {x y z : Operand} {V : AV} {ty : TypeId} {g : Nat}
/-- A call that neither takes nor leaves resources. -/
theorem op_call {f : FuncId} {l : List AV} {xs : List Operand} {ts : Array TypeId} (hF : Fun C.P f l [] V []) (ho : o.op = .call { callee := .value (.func f), args := xs.toArray, argTypes := ts }) (hc : callB C.P f = true) (hlen : xs.length = l.length) (hV : V.noRef = true) : OpPure C r o ((.func f, .v (.func (.func f) #[] #[])) :: xs.zip l) V := fun ι F S w ρ hs hr => by
  have hf := hr (.func f, .v (.func (.func f) #[] #[])) (by simp)
  simp only [AVR] at hf
  have hv := zip_AVRs hlen fun p hp => hr p (by simp [hp])
  have hrun : (execOp ρ o).run C.P w = .ok (.enter f (xs.map ρ).toArray) w := by
    simp [execOp, ho, resolve, Deferred.ofValue, hf, invoke, run_callFunc hc]
  have hcall := hF ι F S w _ ⟨fun _ _ _ h => (by cases h), fun _ _ h => (by cases h), fun _ _ _ _ h => (by cases h), fun _ _ h => (by cases h), hs.hs.bnd⟩ hv
  unfold Does
  rw [hrun]
  refine hcall.mono fun e w' h => ?_
  obtain ⟨ι', F', S', u, rfl, h1, h2, h3, h4, h5, h6, h7⟩ := h
  have hD : ∀ k, ¬ Dom [] F k := fun k ⟨_, _, h, _⟩ => by cases h
  have hb : Below w.heap.size w w' := ⟨h5.os, h5.tape, h5.output, h5.size, fun k hk => h5.block k hk (hD k)⟩
  refine ⟨u, rfl, S', hs.step hb h3.mono (fun k hk => ?_) h1.bnd, h3, h2.fut (Fut.refl _ _) fun g hg => by rw [AV.noRef_has hV] at hg; cases hg⟩
  rcases h6 k hk with h | h | h
  · exact .inl h
  · exact .inr h
  · exact absurd h (hD k)

/-! ### Calls with resources -/
mutual
/-- All resources that are meant are in this list. -/
def AV.inL (ids : List Nat) : AV → Bool
  | .v _ => true
  | .sem _ => true
  | .res g => !(notIn g ids)
  | .ptr g _ => !(notIn g ids)
  | .fn _ l => AV.inLs ids l
  | .agg l => AV.inLs ids l
  | .tup l => AV.inLs ids l
def AV.inLs (ids : List Nat) : List AV → Bool
  | [] => true
  | x :: l => and (AV.inL ids x) (AV.inLs ids l)
end
def RK.inL (ids : List Nat) : RK → Bool
  | .dead => true
  | .box _ l => AV.inLs ids l
  | .obj _ => true
theorem not_notIn {n : Nat} {l : List Nat} (h : (!(notIn n l)) = true) : n ∈ l := by
  rcases Classical.em (n ∈ l) with h1 | h1
  · exact h1
  · rw [notIn_iff.2 h1] at h; cases h
mutual
theorem AV.inL_has {ids : List Nat} : ∀ {x : AV}, x.inL ids = true → ∀ g, x.has g = true → g ∈ ids
  | .v _, _, g, h => by simp [AV.has] at h
  | .sem _, _, g, h => by simp [AV.has] at h
  | .res i, h, g, h2 => by
    simp only [AV.has] at h2
    rw [← Nat.eq_of_beq_eq_true h2]
    exact not_notIn (by simpa [AV.inL] using h)
  | .ptr i _, h, g, h2 => by
    simp only [AV.has] at h2
    rw [← Nat.eq_of_beq_eq_true h2]
    exact not_notIn (by simpa [AV.inL] using h)
  | .fn _ l, h, g, h2 => AV.inLs_has (by simpa [AV.inL] using h) g (by simpa [AV.has] using h2)
  | .agg l, h, g, h2 => AV.inLs_has (by simpa [AV.inL] using h) g (by simpa [AV.has] using h2)
  | .tup l, h, g, h2 => AV.inLs_has (by simpa [AV.inL] using h) g (by simpa [AV.has] using h2)
theorem AV.inLs_has {ids : List Nat} : ∀ {l : List AV}, AV.inLs ids l = true → ∀ g, AV.hasL g l = true → g ∈ ids
  | [], _, g, h => by simp [AV.hasL] at h
  | x :: l, h, g, h2 => by
    simp only [AV.inLs, Bool.and_eq_true] at h
    simp only [AV.hasL, Bool.or_eq_true] at h2
    rcases h2 with h2 | h2
    · exact AV.inL_has h.1 g h2
    · exact AV.inLs_has h.2 g h2
end
def idsOf {α : Type} : List (Nat × α) → List Nat
  | [] => []
  | p :: l => p.1 :: idsOf l
def renR (m : Nat → Nat) : List (Nat × RK) → List (Nat × RK) → List (Nat × RK)
  | [], r => r
  | p :: l, r => (m p.1, p.2.ren m) :: renR m l r
def deadR (m : Nat → Nat) : List (Nat × RK) → List (Nat × RK) → List (Nat × RK)
  | [], r => r
  | p :: l, r => (m p.1, .dead) :: deadR m l r
def liveAll : List (Nat × RK) → Bool
  | [] => true
  | p :: l => and p.2.live (liveAll l)
/-- The callee's name of caller's resource i. -/
def findM (m : Nat → Nat) : List (Nat × RK) → Nat → Option Nat
  | [], _ => none
  | p :: l, i => if m p.1 = i then some p.1 else findM m l i
theorem findM_some {m : Nat → Nat} : ∀ {l : List (Nat × RK)} {i g : Nat}, findM m l i = some g → m g = i ∧ g ∈ idsOf l
  | [], i, g, h => by cases h
  | p :: l, i, g, h => by
    simp only [findM] at h
    by_cases e : m p.1 = i
    · rw [if_pos e] at h; cases h; exact ⟨e, List.mem_cons_self⟩
    · rw [if_neg e] at h
      exact ⟨(findM_some h).1, List.mem_cons_of_mem _ (findM_some h).2⟩
theorem findM_none {m : Nat → Nat} : ∀ {l : List (Nat × RK)} {i : Nat}, findM m l i = none → i ∉ idsM m l
  | [], i, _ => by simp [idsM]
  | p :: l, i, h => by
    simp only [findM] at h
    by_cases e : m p.1 = i
    · rw [if_pos e] at h; cases h
    · rw [if_neg e] at h
      simp only [idsM, List.mem_cons, not_or]
      exact ⟨fun e' => e e'.symm, findM_none h⟩
theorem mem_idsM {m : Nat → Nat} : ∀ {l : List (Nat × RK)} {g : Nat}, g ∈ idsOf l → m g ∈ idsM m l
  | [], g, h => by cases h
  | p :: l, g, h => by
    simp only [idsOf, List.mem_cons] at h
    simp only [idsM, List.mem_cons]
    exact h.imp (fun e => by rw [e]) mem_idsM
theorem look_ids {α : Type} : ∀ {l : List (Nat × α)} {g : Nat}, g ∈ idsOf l → ∃ x, look l g = some x
  | [], g, h => by cases h
  | (k, y) :: l, g, h => by
    rw [look_cons]
    by_cases e : k = g
    · exact ⟨y, by rw [if_pos e]⟩
    · rw [if_neg e]
      simp only [idsOf, List.mem_cons] at h
      exact look_ids (h.resolve_left fun e' => e e'.symm)
theorem ids_look {α : Type} : ∀ {l : List (Nat × α)} {g : Nat} {x : α}, look l g = some x → g ∈ idsOf l
  | [], g, x, h => by cases h
  | (k, y) :: l, g, x, h => by
    rw [look_cons] at h
    simp only [idsOf, List.mem_cons]
    by_cases e : k = g
    · exact .inl e.symm
    · rw [if_neg e] at h; exact .inr (ids_look h)
theorem look_renR {m : Nat → Nat} : ∀ {l r : List (Nat × RK)} {i : Nat} {x : RK}, (idsM m l).Nodup → look (renR m l r) i = some x → (∃ g y, m g = i ∧ look l g = some y ∧ x = y.ren m ∧ findM m l i = some g) ∨ (findM m l i = none ∧ look r i = some x)
  | [], r, i, x, _, h => .inr ⟨rfl, h⟩
  | (k, y) :: l, r, i, x, hn, h => by
    simp only [renR, look_cons] at h
    rw [idsM, List.nodup_cons] at hn
    by_cases e : m k = i
    · rw [if_pos e] at h
      cases h
      exact .inl ⟨k, y, e, by rw [look_cons, if_pos rfl], rfl, by simp [findM, e]⟩
    · rw [if_neg e] at h
      rcases look_renR hn.2 h with ⟨g, z, h1, h2, h3, h4⟩ | ⟨h1, h2⟩
      · refine .inl ⟨g, z, h1, ?_, h3, by simp [findM, e, h4]⟩
        rw [look_cons, if_neg fun e' => ?_]
        · exact h2
        · subst e'; exact e h1
      · exact .inr ⟨by simp [findM, e, h1], h2⟩
theorem look_deadR {m : Nat → Nat} : ∀ {l r : List (Nat × RK)} {i : Nat} {x : RK}, look (deadR m l r) i = some x → x.live = true → i ∉ idsM m l ∧ look r i = some x
  | [], r, i, x, h, _ => ⟨by simp [idsM], h⟩
  | (k, y) :: l, r, i, x, h, hx => by
    simp only [deadR, look_cons] at h
    by_cases e : m k = i
    · rw [if_pos e] at h; cases h; cases hx
    · rw [if_neg e] at h
      obtain ⟨h1, h2⟩ := look_deadR h hx
      refine ⟨?_, h2⟩
      simp only [idsM, List.mem_cons, not_or]
      exact ⟨fun e' => e e'.symm, h1⟩
theorem live_look : ∀ {l : List (Nat × RK)} {g : Nat} {x : RK}, liveAll l = true → look l g = some x → x.live = true
  | [], g, x, _, h => by cases h
  | (k, y) :: l, g, x, hl, h => by
    simp only [liveAll, Bool.and_eq_true] at hl
    rw [look_cons] at h
    by_cases e : k = g
    · rw [if_pos e] at h; cases h; exact hl.1
    · rw [if_neg e] at h; exact live_look hl.2 h
/-- The new names: of what the callee leaves, and didn't get. -/
def newIds (m : Nat → Nat) (r0 : List (Nat × RK)) : List (Nat × RK) → List Nat
  | [] => []
  | p :: l => bif notIn p.1 (idsOf r0) then m p.1 :: newIds m r0 l else newIds m r0 l
theorem newIds_mem {m : Nat → Nat} {r0 : List (Nat × RK)} : ∀ {l : List (Nat × RK)} {i : Nat}, i ∈ newIds m r0 l ↔ ∃ g, g ∈ idsOf l ∧ g ∉ idsOf r0 ∧ m g = i
  | [], i => by simp [newIds, idsOf]
  | p :: l, i => by
    simp only [newIds]
    cases h : notIn p.1 (idsOf r0) with
    | true =>
      have h' := notIn_iff.1 h
      rw [cond_true, List.mem_cons, newIds_mem]
      constructor
      · rintro (rfl | ⟨g, h1, h2, h3⟩)
        · exact ⟨p.1, List.mem_cons_self, h', rfl⟩
        · exact ⟨g, List.mem_cons_of_mem _ h1, h2, h3⟩
      · rintro ⟨g, h1, h2, h3⟩
        simp only [idsOf, List.mem_cons] at h1
        rcases h1 with rfl | h1
        · exact .inl h3.symm
        · exact .inr ⟨g, h1, h2, h3⟩
    | false =>
      rw [cond_false, newIds_mem]
      constructor
      · rintro ⟨g, h1, h2, h3⟩
        exact ⟨g, List.mem_cons_of_mem _ h1, h2, h3⟩
      · rintro ⟨g, h1, h2, h3⟩
        simp only [idsOf, List.mem_cons] at h1
        rcases h1 with rfl | h1
        · exfalso
          rw [notIn_iff.2 h2] at h
          cases h
        · exact ⟨g, h1, h2, h3⟩
def freshAll (r r0c : List (Nat × RK)) : List Nat → Bool
  | [] => true
  | i :: l => and (and (freshR i r) (notIn i (idsOf r0c))) (freshAll r r0c l)
theorem freshAll_mem {r r0c : List (Nat × RK)} : ∀ {l : List Nat} {i : Nat}, freshAll r r0c l = true → i ∈ l → freshR i r = true ∧ i ∉ idsOf r0c
  | [], i, _, h => by cases h
  | j :: l, i, hf, h => by
    simp only [freshAll, Bool.and_eq_true] at hf
    rcases List.mem_cons.1 h with rfl | h
    · exact ⟨hf.1.1, notIn_iff.1 hf.1.2⟩
    · exact freshAll_mem hf.2 h
def allNotIn (l : List Nat) : List Nat → Bool
  | [] => true
  | i :: k => and (notIn i l) (allNotIn l k)
theorem allNotIn_mem {l : List Nat} : ∀ {k : List Nat} {i : Nat}, allNotIn l k = true → i ∈ k → i ∉ l
  | [], i, _, h => by cases h
  | j :: k, i, hf, h => by
    simp only [allNotIn, Bool.and_eq_true] at hf
    rcases List.mem_cons.1 h with rfl | h
    · exact notIn_iff.1 hf.1
    · exact allNotIn_mem hf.2 h
def closedR (ids : List Nat) : List (Nat × RK) → Bool
  | [] => true
  | p :: l => and (p.2.inL ids) (closedR ids l)
theorem closedR_look {ids : List Nat} : ∀ {l : List (Nat × RK)} {g : Nat} {x : RK}, closedR ids l = true → look l g = some x → x.inL ids = true
  | [], g, x, _, h => by cases h
  | (k, y) :: l, g, x, hf, h => by
    simp only [closedR, Bool.and_eq_true] at hf
    rw [look_cons] at h
    by_cases e : k = g
    · rw [if_pos e] at h; cases h; exact hf.1
    · rw [if_neg e] at h; exact closedR_look hf.2 h

/-- Behind a call: the caller's memory, out of the callee's. -/
theorem SimW.call {C : Cx} {r r0 r1 : List (Nat × RK)} {rv : AV} {ι ι' : Nat → Value} {F F' : Nat → Bl} {S S' : Bl} {w w' : World} {u : Value} (m : Nat → Nat) (hs : SimW C r ι F S w) (hw : WkR r m r0) (hn0 : nodupB (idsM m r0) = true) (hl0 : liveAll r0 = true) (hn1 : nodupB (idsM m r1) = true) (hfr : freshAll r C.r0 (newIds m r0 r1) = true) (hnew : allNotIn (idsM m r0) (newIds m r0 r1) = true) (hcl : closedR (idsOf r1 ++ idsOf r0) r1 = true) (hrv : rv.inL (idsOf r1 ++ idsOf r0) = true)
    (h1 : HeapSim r1 ι' F' S' w') (h2 : AVR ι' S' w' rv u) (h3 : Fut S w S' w') (h4 : ∀ g x, look r0 g = some x → x.live = true → ι' g = ι (m g)) (h5 : But (Dom r0 fun g => F (m g)) w w') (h6 : ∀ k, S' k → S k ∨ w.heap.size ≤ k ∨ Dom r0 (fun g => F (m g)) k) (h7 : ∀ g x, look r1 g = some x → x.live = true → ∀ k, F' g k → w.heap.size ≤ k ∨ Dom r0 (fun g => F (m g)) k) :
    ∃ ι'' F'', SimW C (renR m r1 (deadR m r0 r)) ι'' F'' S' w' ∧ AVR ι'' S' w' (rv.ren m) u ∧ ∀ i, i ∉ newIds m r0 r1 → ι'' i = ι i := by
  have hn0' := nodupB_iff.1 hn0
  have hn1' := nodupB_iff.1 hn1
  have hkeep : ∀ g, g ∈ idsOf r0 → ι' g = ι (m g) := fun g hg => by
    obtain ⟨x, hx⟩ := look_ids hg
    exact h4 g x hx (live_look hl0 hx)
  refine ⟨fun i => match findM m r1 i with | some g => ι' g | none => ι i, fun i => match findM m r1 i with | some g => F' g | none => F i, ?_⟩
  generalize hι : (fun i => match findM m r1 i with | some g => ι' g | none => ι i) = ι''
  generalize hFF : (fun i => match findM m r1 i with | some g => F' g | none => F i) = F''
  have ιs : ∀ {i g}, findM m r1 i = some g → ι'' i = ι' g := fun {i g} h => by rw [← hι]; simp only [h]
  have ιn : ∀ {i}, findM m r1 i = none → ι'' i = ι i := fun {i} h => by rw [← hι]; simp only [h]
  have Fs : ∀ {i g}, findM m r1 i = some g → F'' i = F' g := fun {i g} h => by rw [← hFF]; simp only [h]
  have Fn : ∀ {i}, findM m r1 i = none → F'' i = F i := fun {i} h => by rw [← hFF]; simp only [h]
  have inj1 : ∀ {g g' : Nat}, g ∈ idsOf r1 → g' ∈ idsOf r1 → m g = m g' → g = g' := fun {g g'} a b e => by
    obtain ⟨x, hx⟩ := look_ids a
    obtain ⟨x', hx'⟩ := look_ids b
    exact idsM_inj hn1' hx hx' e
  have inj0 : ∀ {g g' : Nat}, g ∈ idsOf r0 → g' ∈ idsOf r0 → m g = m g' → g = g' := fun {g g'} a b e => by
    obtain ⟨x, hx⟩ := look_ids a
    obtain ⟨x', hx'⟩ := look_ids b
    exact idsM_inj hn0' hx hx' e
  have old : ∀ g, g ∈ idsOf r1 → g ∉ idsOf r0 → m g ∈ newIds m r0 r1 := fun g a b => newIds_mem.2 ⟨g, a, b, rfl⟩
  have ιm : ∀ g, g ∈ idsOf r1 ++ idsOf r0 → ι'' (m g) = ι' g := fun g hg => by
    cases hf : findM m r1 (m g) with
    | some g' =>
      obtain ⟨e, hg'⟩ := findM_some hf
      rw [ιs hf]
      rcases List.mem_append.1 hg with hg1 | hg0
      · rw [inj1 hg' hg1 e]
      · by_cases h0 : g' ∈ idsOf r0
        · rw [inj0 h0 hg0 e]
        · exfalso
          have := allNotIn_mem hnew (old g' hg' h0)
          rw [e] at this
          exact this (mem_idsM hg0)
    | none =>
      rcases List.mem_append.1 hg with hg1 | hg0
      · exact absurd (mem_idsM hg1) (findM_none hf)
      · rw [ιn hf, hkeep g hg0]
  have ιold : ∀ i, i ∉ newIds m r0 r1 → ι'' i = ι i := fun i hi => by
    cases hf : findM m r1 i with
    | none => exact ιn hf
    | some g =>
      obtain ⟨e, hg⟩ := findM_some hf
      subst e
      by_cases h0 : g ∈ idsOf r0
      · rw [ιs hf, hkeep g h0]
      · exact absurd (old g hg h0) hi
  have caller : ∀ {i x}, look (renR m r1 (deadR m r0 r)) i = some x → x.live = true → (∃ g y, m g = i ∧ look r1 g = some y ∧ x = y.ren m ∧ findM m r1 i = some g ∧ y.live = true) ∨ (findM m r1 i = none ∧ i ∉ idsM m r0 ∧ look r i = some x) := fun {i x} hi hx => by
    rcases look_renR hn1' hi with ⟨g, y, a, b, c, d⟩ | ⟨a, b⟩
    · exact .inl ⟨g, y, a, b, c, d, by rw [c, RK.live_ren] at hx; exact hx⟩
    · exact .inr ⟨a, look_deadR b hx⟩
  have dom : ∀ {k}, Dom r0 (fun g => F (m g)) k → ∃ g x, look r0 g = some x ∧ look r (m g) = some (x.ren m) ∧ (x.ren m).live = true ∧ F (m g) k := fun {k} ⟨g, x, a, b, c⟩ => ⟨g, x, a, hw.look a, by rw [RK.live_ren]; exact b, c⟩
  have domOut : ∀ {i x k}, look r i = some x → x.live = true → i ∉ idsM m r0 → F i k → ¬ Dom r0 (fun g => F (m g)) k := fun {i x k} a b c d hd => by
    obtain ⟨g, y, e1, e2, e3, e4⟩ := dom hd
    exact hs.hs.dis i (m g) x _ a e2 b e3 (fun e => c (by rw [e]; exact mem_idsM (ids_look e1))) k d e4
  have hbnd := h5.size
  refine ⟨⟨⟨fun i T l hi => ?_, fun i R hi => ?_, fun i j x y hi hj hx hy hne k hk => ?_, fun i x hi hx k hk hS => ?_, h1.bnd⟩, ?_, fun i x hi hx k hk => ?_, fun k hk => ?_, h3' h3 hs, fun i x hi hx => ?_⟩, AVR.ren.2 (h2.fut (Fut.refl _ _) fun g hg => ιm g (AV.inL_has hrv g hg)), ιold⟩
  · rcases caller hi rfl with ⟨g, y, a, b, c, d, e⟩ | ⟨a, b, c⟩
    · cases y with
      | dead => cases c
      | obj R => cases c
      | box T' l' =>
        cases c
        obtain ⟨bb, p1, p2, cs, p3, p4⟩ := h1.bx g T l' b
        rw [ιs d, Fs d]
        refine ⟨bb, p1, p2, cs, p3, AVRs.ren.2 (p4.fut (Fut.refl _ _) fun g' hg' => ιm g' ?_)⟩
        have := closedR_look hcl b
        exact AV.inLs_has this g' hg'
    · obtain ⟨bb, p1, p2, cs, p3, p4⟩ := hs.hs.bx i T l c
      rw [ιn a, Fn a]
      have hlt := hs.hs.lt c rfl ((p2 bb).2 rfl)
      refine ⟨bb, p1, p2, cs, (h5.block bb hlt (domOut c rfl b ((p2 bb).2 rfl))).trans p3, p4.fut h3 fun j hj => ?_⟩
      refine ιold j fun hnj => ?_
      have := freshR_look (freshAll_mem hfr hnj).1 c
      simp only [RK.has] at this
      rw [this] at hj
      cases hj
  · rcases caller hi rfl with ⟨g, y, a, b, c, d, e⟩ | ⟨a, b, c⟩
    · cases y with
      | dead => cases c
      | box T' l' => cases c
      | obj R' =>
        cases c
        rw [ιs d, Fs d]
        exact h1.ob g R b
    · rw [ιn a, Fn a]
      refine R.fut h3.mono (fun k hk hl => ?_) (hs.hs.ob i R c)
      rcases hk with hk | hk
      · exact h3.same k hk hl
      · exact h5.block k hl (domOut c rfl b hk)
  · rcases caller hi hx with ⟨g, z, a, b, c, d, e⟩ | ⟨a, b, c⟩
    · rw [Fs d] at hk
      rcases caller hj hy with ⟨g', z', a', b', c', d', e'⟩ | ⟨a', b', c'⟩
      · rw [Fs d']
        refine h1.dis g g' z z' b b' e e' (fun eq => hne ?_) k hk
        subst eq
        rw [← a, ← a']
      · rw [Fn a']
        intro hk'
        rcases h7 g z b e k hk with h | h
        · have := hs.hs.lt c' hy hk'; omega
        · exact domOut c' hy b' hk' h
    · rw [Fn a] at hk
      rcases caller hj hy with ⟨g', z', a', b', c', d', e'⟩ | ⟨a', b', c'⟩
      · rw [Fs d']
        intro hk'
        rcases h7 g' z' b' e' k hk' with h | h
        · have := hs.hs.lt c hx hk; omega
        · exact domOut c hx b hk h
      · rw [Fn a']
        exact hs.hs.dis i j x y c c' hx hy hne k hk
  · rcases caller hi hx with ⟨g, z, a, b, c, d, e⟩ | ⟨a, b, c⟩
    · rw [Fs d] at hk
      exact h1.out g z b e k hk hS
    · rw [Fn a] at hk
      rcases h6 k hS with h | h | h
      · exact hs.hs.out i x c hx k hk h
      · have := hs.hs.lt c hx hk; omega
      · exact domOut c hx b hk h
  · refine ⟨h5.os.trans hs.but.os, h5.tape.trans hs.but.tape, h5.output.trans hs.but.output, Nat.le_trans hs.but.size h5.size, fun k hk hn => (h5.block k (Nat.lt_of_lt_of_le hk hs.but.size) fun hd => ?_).trans (hs.but.block k hk hn)⟩
    obtain ⟨g, y, e1, e2, e3, e4⟩ := dom hd
    exact (hs.own (m g) _ e2 e3 k e4).elim (fun h => by omega) hn
  · have hdm : ∀ k, Dom r0 (fun g => F (m g)) k → C.w0.heap.size ≤ k ∨ C.D k := fun k hd => by
      obtain ⟨g, y, e1, e2, e3, e4⟩ := dom hd
      exact hs.own (m g) _ e2 e3 k e4
    rcases caller hi hx with ⟨g, z, a, b, c, d, e⟩ | ⟨a, b, c⟩
    · rw [Fs d] at hk
      rcases h7 g z b e k hk with h | h
      · exact .inl (Nat.le_trans hs.but.size h)
      · exact hdm k h
    · rw [Fn a] at hk
      exact hs.own i x c hx k hk
  · rcases h6 k hk with h | h | h
    · exact hs.sb k h
    · exact .inr (.inl (Nat.le_trans hs.but.size h))
    · obtain ⟨g, y, e1, e2, e3, e4⟩ := dom h
      exact .inr (hs.own (m g) _ e2 e3 k e4)
  · rw [ιold i fun hni => (freshAll_mem hfr hni).2 (ids_look hi)]
    exact hs.keep i x hi hx
where
  h3' {C : Cx} {r : List (Nat × RK)} {ι : Nat → Value} {F : Nat → Bl} {S S' : Bl} {w w' : World} (h3 : Fut S w S' w') (hs : SimW C r ι F S w) : Fut C.S0 C.w0 S' w' := hs.fut.trans h3 hs.but.size
/-- A call that takes and leaves resources; m: the callee's names among the caller's. -/
theorem op_callR {f : FuncId} {r0 r1 : List (Nat × RK)} {l : List AV} {xs : List Operand} {ts : Array TypeId} (m : Nat → Nat) (hF : Fun C.P f l r0 V r1) (ho : o.op = .call { callee := .value (.func f), args := xs.toArray, argTypes := ts }) (hc : callB C.P f = true) (hlen : xs.length = l.length)
    (hw : WkR r m r0) (hn0 : nodupB (idsM m r0) = true) (hl0 : liveAll r0 = true) (hn1 : nodupB (idsM m r1) = true) (hfr : freshAll r C.r0 (newIds m r0 r1) = true) (hnew : allNotIn (idsM m r0) (newIds m r0 r1) = true) (hcl : closedR (idsOf r1 ++ idsOf r0) r1 = true) (hrv : V.inL (idsOf r1 ++ idsOf r0) = true) : OpEff C r o ((.func f, .v (.func (.func f) #[] #[])) :: xs.zip (AV.renL m l)) (V.ren m) (renR m r1 (deadR m r0 r)) (newIds m r0 r1) := fun ι F S w ρ hs hr => by
  have hf := hr (.func f, .v (.func (.func f) #[] #[])) (by simp)
  simp only [AVR] at hf
  have hll : ∀ l : List AV, (AV.renL m l).length = l.length := by
    intro l
    induction l with
    | nil => rfl
    | cons x l ih => simp [AV.renL, ih]
  have hv := zip_AVRs (l := AV.renL m l) (by rw [hll]; exact hlen) fun p hp => hr p (by simp [hp])
  have hrun : (execOp ρ o).run C.P w = .ok (.enter f (xs.map ρ).toArray) w := by
    simp [execOp, ho, resolve, Deferred.ofValue, hf, invoke, run_callFunc hc]
  have hcall := hF (fun g => ι (m g)) (fun g => F (m g)) S w _ (hs.hs.ren hw hn0) (AVRs.ren.1 hv)
  unfold Does
  rw [hrun]
  refine hcall.mono fun e w' h => ?_
  obtain ⟨ι', F', S', u, rfl, h1, h2, h3, h4, h5, h6, h7⟩ := h
  obtain ⟨ι'', F'', e1, e2, e3⟩ := hs.call m hw hn0 hl0 hn1 hfr hnew hcl hrv h1 h2 h3 h4 h5 h6 h7
  exact ⟨u, rfl, ι'', F'', S', e1, h3, e3, e2⟩
/-- A call of a function value: what it has captured goes along. -/
theorem op_callC {f : FuncId} {r0 r1 : List (Nat × RK)} {l cap : List AV} {xs : List Operand} {ts : Array TypeId} (m : Nat → Nat) (hF : Fun C.P f (l ++ cap) r0 V r1) (ho : o.op = .call { callee := .value x, args := xs.toArray, argTypes := ts }) (hc : callB C.P f = true) (hlen : xs.length = l.length)
    (hw : WkR r m r0) (hn0 : nodupB (idsM m r0) = true) (hl0 : liveAll r0 = true) (hn1 : nodupB (idsM m r1) = true) (hfr : freshAll r C.r0 (newIds m r0 r1) = true) (hnew : allNotIn (idsM m r0) (newIds m r0 r1) = true) (hcl : closedR (idsOf r1 ++ idsOf r0) r1 = true) (hrv : V.inL (idsOf r1 ++ idsOf r0) = true) : OpEff C r o ((x, .fn f (AV.renL m cap)) :: xs.zip (AV.renL m l)) (V.ren m) (renR m r1 (deadR m r0 r)) (newIds m r0 r1) := fun ι F S w ρ hs hr => by
  have hf := hr (x, .fn f (AV.renL m cap)) (by simp)
  simp only [AVR] at hf
  obtain ⟨us, hf, hus⟩ := hf
  have hll : ∀ l : List AV, (AV.renL m l).length = l.length := by
    intro l
    induction l with
    | nil => rfl
    | cons x l ih => simp [AV.renL, ih]
  have hv := zip_AVRs (l := AV.renL m l) (by rw [hll]; exact hlen) fun p hp => hr p (by simp [hp])
  have hrun : (execOp ρ o).run C.P w = .ok (.enter f (xs.map ρ ++ us).toArray) w := by
    simp [execOp, ho, resolve, Deferred.ofValue, hf, invoke, run_callFunc hc]
  have hcall := hF (fun g => ι (m g)) (fun g => F (m g)) S w _ (hs.hs.ren hw hn0) ((AVRs.ren.1 hv).append (AVRs.ren.1 hus))
  unfold Does
  rw [hrun]
  refine hcall.mono fun e w' h => ?_
  obtain ⟨ι', F', S', u, rfl, h1, h2, h3, h4, h5, h6, h7⟩ := h
  obtain ⟨ι'', F'', e1, e2, e3⟩ := hs.call m hw hn0 hl0 hn1 hfr hnew hcl hrv h1 h2 h3 h4 h5 h6 h7
  exact ⟨u, rfl, ι'', F'', S', e1, h3, e3, e2⟩
end
end Go.Proofs.YtpmeffdcbjakoaaDoor
