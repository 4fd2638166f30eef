/- VL, part 11: regions that draw their order and leave the resources alone. -/
import Derived.Test.YtpmeffdcbjakoaaDoorVL10
import Derived.Orders
namespace Go.Proofs.YtpmeffdcbjakoaaDoor
set_option linter.unusedVariables false
set_option linter.unusedSimpArgs false
open Go.RowKit

/-! ### What comes first in any order -/
def befStep (acc : List Nat) (o : Oper) : Nat := o.after.toList.foldl (fun s e => bif Region.binds .any e then s ||| 2 ^ e.on ||| acc.getD e.on 0 else s) 0
def befL : List Oper → List Nat → List Nat
  | [], acc => acc
  | o :: os, acc => befL os (acc ++ [befStep acc o])
/-- Each bit has its ground: an edge, or an edge's bit. -/
def tabOk (ops : Array Oper) (B : List Nat) : Bool :=
  (List.range ops.size).all fun i => match ops[i]? with
    | some o => (o.after.toList.all fun e => !(Region.binds .any e) || decide (e.on < i)) &&
      (List.range ops.size).all fun j => !((B.getD i 0).testBit j) || o.after.toList.any fun e => Region.binds .any e && (e.on == j || (B.getD e.on 0).testBit j)
    | none => false
/-- Who looks at a slot, or writes it, and who else writes it, come in the text's order. -/
def ordOk (ops : Array Oper) (B : List Nat) : Bool :=
  (List.range ops.size).all fun i => match ops[i]? with
    | some o => (Oper.looksAt ops o ++ o.dst.toList).all fun n => (List.range ops.size).all fun j => match ops[j]? with
      | some p => !(p.dst == some n) || i == j || (bif Nat.blt j i then (B.getD i 0).testBit j else (B.getD j 0).testBit i)
      | none => true
    | none => false
def regOk (ops : Array Oper) : Bool := tabOk ops (befL ops.toList []) && ordOk ops (befL ops.toList [])

section
variable {ops : Array Oper} {B : List Nat} {b : Nat → Bool}
/-- What has come has all behind it that comes first. -/
def ClosedB (ops : Array Oper) (b : Nat → Bool) : Prop := ∀ i o, ops[i]? = some o → b i = true → ∀ e ∈ o.after.toList, Region.binds .any e = true → b e.on = true
theorem tabOk_row (h : tabOk ops B = true) {i : Nat} {o : Oper} (ho : ops[i]? = some o) : (∀ e ∈ o.after.toList, Region.binds .any e = true → e.on < i) ∧ ∀ j, j < ops.size → (B.getD i 0).testBit j = true → ∃ e ∈ o.after.toList, Region.binds .any e = true ∧ (e.on = j ∨ (B.getD e.on 0).testBit j = true) := by
  have hi := (Array.getElem?_eq_some_iff.1 ho).1
  have h1 := List.all_eq_true.1 h i (List.mem_range.2 hi)
  rw [ho] at h1
  simp only [Bool.and_eq_true, List.all_eq_true, Bool.or_eq_true, Bool.not_eq_true', decide_eq_true_eq, List.any_eq_true, beq_iff_eq, List.mem_range] at h1
  refine ⟨fun e he hb => (h1.1 e he).resolve_left (by rw [hb]; simp), fun j hj hbit => ?_⟩
  have := (h1.2 j hj).resolve_left (by rw [hbit]; simp)
  obtain ⟨e, he, h2, h3⟩ := this
  exact ⟨e, he, h2, h3⟩
theorem closed_bit (h : tabOk ops B = true) (hc : ClosedB ops b) : ∀ (i : Nat) (o : Oper), ops[i]? = some o → b i = true → ∀ j, j < ops.size → (B.getD i 0).testBit j = true → b j = true := by
  intro i
  induction i using Nat.strongRecOn with
  | _ i ih =>
    intro o ho hi j hj hbit
    obtain ⟨r1, r2⟩ := tabOk_row h ho
    obtain ⟨e, he, hb, h3⟩ := r2 j hj hbit
    have hlt := r1 e he hb
    have hbe := hc i o ho hi e he hb
    rcases h3 with rfl | h3
    · exact hbe
    · have hsz := (Array.getElem?_eq_some_iff.1 ho).1
      have hlt2 : e.on < ops.size := by omega
      exact ih e.on hlt ops[e.on] (Array.getElem?_eq_getElem hlt2) hbe j hj h3
theorem ordOk_row (h : ordOk ops B = true) {i j n : Nat} {o p : Oper} (ho : ops[i]? = some o) (hp : ops[j]? = some p) (hn : n ∈ Oper.looksAt ops o ++ o.dst.toList) (hd : p.dst = some n) (hij : i ≠ j) : (j < i → (B.getD i 0).testBit j = true) ∧ (i < j → (B.getD j 0).testBit i = true) := by
  have hi := (Array.getElem?_eq_some_iff.1 ho).1
  have hj := (Array.getElem?_eq_some_iff.1 hp).1
  have h1 := List.all_eq_true.1 h i (List.mem_range.2 hi)
  rw [ho] at h1
  have h2 := List.all_eq_true.1 (List.all_eq_true.1 h1 n hn) j (List.mem_range.2 hj)
  rw [hp] at h2
  simp only [hd, Bool.or_eq_true, Bool.not_eq_true', beq_iff_eq, beq_self_eq_true, Bool.true_eq_false, false_or] at h2
  have h3 := h2.resolve_left hij
  refine ⟨fun hlt => ?_, fun hlt => ?_⟩
  · rw [show Nat.blt j i = true from Nat.ble_eq_true_of_le hlt, cond_true] at h3
    exact h3
  · have : Nat.blt j i = false := by
      cases hb : Nat.blt j i
      · rfl
      · have := Nat.le_of_ble_eq_true hb
        omega
    rw [this, cond_false] at h3
    exact h3
end

/-! ### The plan: each operation's value -/
structure PIt where
  d : Option Nat
  V : AV
  /-- What it turns of the resources. -/
  ups : List (Nat × RK)
  /-- On which resources it rests. -/
  foot : List Nat
  /-- The names that are new. -/
  gs : List Nat
/-- What is known once the operations in b have come. -/
def Trb (t0 : List (Nat × AV)) (b : Nat → Bool) : List PIt → List (Nat × AV)
  | [] => t0
  | p :: qs => match p.d with
    | some d => bif b qs.length then (d, p.V) :: Trb t0 b qs else Trb t0 b qs
    | none => Trb t0 b qs
/-- The resources, once the operations in b have come. -/
def Rsb (r0 : List (Nat × RK)) (b : Nat → Bool) : List PIt → List (Nat × RK)
  | [] => r0
  | p :: qs => bif b qs.length then p.ups ++ Rsb r0 b qs else Rsb r0 b qs
theorem look_app_out {α : Type} : ∀ {l r : List (Nat × α)} {g : Nat}, g ∉ idsOf l → look (l ++ r) g = look r g
  | [], r, g, _ => rfl
  | (k, x) :: l, r, g, h => by
    simp only [idsOf, List.mem_cons, not_or] at h
    rw [List.cons_append, look_cons, if_neg (fun e => h.1 e.symm)]
    exact look_app_out h.2
theorem look_app_in {α : Type} : ∀ {l : List (Nat × α)} (r r' : List (Nat × α)) {g : Nat}, g ∈ idsOf l → look (l ++ r) g = look (l ++ r') g
  | [], r, r', g, h => by cases h
  | (k, x) :: l, r, r', g, h => by
    rw [List.cons_append, List.cons_append, look_cons, look_cons]
    by_cases e : k = g
    · rw [if_pos e, if_pos e]
    · rw [if_neg e, if_neg e]
      simp only [idsOf, List.mem_cons] at h
      exact look_app_in r r' (h.resolve_left fun e' => e e'.symm)
theorem look_app_congr {α : Type} (l : List (Nat × α)) {r r' : List (Nat × α)} (h : ∀ g, look r g = look r' g) (g : Nat) : look (l ++ r) g = look (l ++ r') g := by
  by_cases hg : g ∈ idsOf l
  · exact look_app_in r r' hg
  · rw [look_app_out hg, look_app_out hg, h]
theorem look_app_swap {α : Type} {a b c : List (Nat × α)} (h : ∀ g, g ∈ idsOf a → g ∉ idsOf b) (g : Nat) : look (a ++ (b ++ c)) g = look (b ++ (a ++ c)) g := by
  by_cases hg : g ∈ idsOf a
  · rw [look_app_out (h g hg)]
    exact look_app_in _ _ hg
  · rw [look_app_out hg]
    by_cases hb : g ∈ idsOf b
    · exact look_app_in _ _ hb
    · rw [look_app_out hb, look_app_out hb, look_app_out hg]
theorem Rsb_congr {r0 : List (Nat × RK)} {b b' : Nat → Bool} {g : Nat} : ∀ {qs : List PIt}, (∀ j p, qs.reverse[j]? = some p → g ∈ idsOf p.ups → b j = b' j) → look (Rsb r0 b qs) g = look (Rsb r0 b' qs) g
  | [], _ => rfl
  | p :: qs, h => by
    have ih := Rsb_congr (r0 := r0) (g := g) (b := b) (b' := b') (qs := qs) (fun j p' hj hd => h j p' (by
      rw [List.reverse_cons, List.getElem?_append_left (List.getElem?_eq_some_iff.1 hj).1]; exact hj) hd)
    have hp := h qs.length p (by simp)
    simp only [Rsb]
    by_cases hg : g ∈ idsOf p.ups
    · rw [hp hg]
      cases b' qs.length
      · exact ih
      · exact look_app_in _ _ hg
    · cases b qs.length <;> cases b' qs.length <;> simp only [cond_true, cond_false, look_app_out hg] <;> exact ih
theorem Rsb_all {r0 : List (Nat × RK)} {b b' : Nat → Bool} : ∀ {qs : List PIt}, (∀ j, j < qs.length → b j = b' j) → Rsb r0 b qs = Rsb r0 b' qs
  | [], _ => rfl
  | p :: qs, h => by
    have ih := Rsb_all (r0 := r0) (b := b) (b' := b') (qs := qs) fun j hj => h j (by simp; omega)
    simp only [Rsb]
    rw [ih, h qs.length (by simp)]
theorem Rsb_suffix {r0 : List (Nat × RK)} : ∀ {qs qi : List PIt}, qi <:+ qs → Rsb r0 (fun _ => true) qi = Rsb r0 (fun j => decide (j < qi.length)) qs
  | [], qi, h => by
    have : qi = [] := by simpa using h
    subst this
    rfl
  | q :: qs, qi, h => by
    rcases List.suffix_cons_iff.1 h with h | h
    · subst h
      exact Rsb_all fun j hj => by simp; exact hj
    · have ih := Rsb_suffix (r0 := r0) h
      rw [ih]
      simp only [Rsb]
      have hl : qi.length ≤ qs.length := h.length_le
      have : decide (qs.length < qi.length) = false := by simp; omega
      rw [this, cond_false]
theorem Rsb_none {r0 : List (Nat × RK)} {b : Nat → Bool} : ∀ {qs : List PIt}, (∀ j, j < qs.length → b j = false) → Rsb r0 b qs = r0
  | [], _ => rfl
  | p :: qs, h => by
    simp only [Rsb]
    rw [h qs.length (by simp), cond_false]
    exact Rsb_none fun j hj => h j (by simp; omega)
def upB (b : Nat → Bool) (i : Nat) : Nat → Bool := fun j => if j = i then true else b j
/-- One more has come. -/
theorem look_Rsb_up {r0 : List (Nat × RK)} {b : Nat → Bool} {i : Nat} {q : PIt} : ∀ {qs : List PIt}, qs.reverse[i]? = some q → b i = false → (∀ j p, i < j → qs.reverse[j]? = some p → b j = true → ∀ g, g ∈ idsOf p.ups → g ∉ idsOf q.ups) → ∀ g, look (Rsb r0 (upB b i) qs) g = look (q.ups ++ Rsb r0 b qs) g
  | [], h, _, _, g => by simp at h
  | p :: qs, h, hb, hl, g => by
    by_cases hi : i = qs.length
    · have hp : p = q := by
        subst hi
        simpa using h
      subst hp
      subst hi
      simp only [Rsb]
      rw [show upB b qs.length qs.length = true by simp [upB], hb, cond_true, cond_false]
      rw [Rsb_all (b' := b) fun j hj => by simp [upB, show j ≠ qs.length by omega]]
    · have hlt : i < qs.length := by
        have := (List.getElem?_eq_some_iff.1 h).1
        simp at this
        omega
      have h' : qs.reverse[i]? = some q := by
        rw [List.reverse_cons, List.getElem?_append_left (by simpa using hlt)] at h
        exact h
      have ih := look_Rsb_up (r0 := r0) h' hb (fun j p' hj hp' hd => hl j p' hj (by
        rw [List.reverse_cons, List.getElem?_append_left (List.getElem?_eq_some_iff.1 hp').1]; exact hp') hd)
      have hu : upB b i qs.length = b qs.length := by simp [upB, show qs.length ≠ i by omega]
      simp only [Rsb]
      rw [hu]
      cases hbb : b qs.length with
      | false => simp only [cond_false]; exact ih g
      | true =>
        simp only [cond_true]
        rw [look_app_congr p.ups ih g]
        exact look_app_swap (hl qs.length p hlt (by simp) hbb) g
theorem freshR_app {g : Nat} : ∀ {l r : List (Nat × RK)}, freshR g l = true → freshR g r = true → freshR g (l ++ r) = true
  | [], r, _, h => h
  | p :: l, r, h, h' => by
    simp only [freshR, List.cons_append, Bool.and_eq_true] at h ⊢
    exact ⟨h.1, freshR_app h.2 h'⟩
theorem freshR_Rsb {g : Nat} {r0 : List (Nat × RK)} {b : Nat → Bool} (h0 : freshR g r0 = true) : ∀ {qs : List PIt}, (∀ j p, qs.reverse[j]? = some p → b j = true → freshR g p.ups = true) → freshR g (Rsb r0 b qs) = true
  | [], _ => h0
  | p :: qs, h => by
    have ih := freshR_Rsb h0 (b := b) (qs := qs) (fun j p' hj hd => h j p' (by
      rw [List.reverse_cons, List.getElem?_append_left (List.getElem?_eq_some_iff.1 hj).1]; exact hj) hd)
    simp only [Rsb]
    cases hb : b qs.length with
    | false => exact ih
    | true => exact freshR_app (h qs.length p (by simp) hb) ih
theorem Trb_cases {t0 : List (Nat × AV)} {b : Nat → Bool} {n : Nat} {x : AV} : ∀ {qs : List PIt}, look (Trb t0 b qs) n = some x → look t0 n = some x ∨ ∃ j p, qs.reverse[j]? = some p ∧ b j = true ∧ p.V = x
  | [], h => .inl h
  | p :: qs, h => by
    have lift : (look t0 n = some x ∨ ∃ j p, qs.reverse[j]? = some p ∧ b j = true ∧ p.V = x) → (look t0 n = some x ∨ ∃ j p', (p :: qs).reverse[j]? = some p' ∧ b j = true ∧ p'.V = x) := fun h => h.imp_right fun ⟨j, p', h1, h2⟩ => ⟨j, p', by
      rw [List.reverse_cons, List.getElem?_append_left (List.getElem?_eq_some_iff.1 h1).1]; exact h1, h2⟩
    simp only [Trb] at h
    cases hd : p.d with
    | none => rw [hd] at h; exact lift (Trb_cases h)
    | some d =>
      rw [hd] at h
      simp only at h
      cases hb : b qs.length with
      | false => rw [hb, cond_false] at h; exact lift (Trb_cases h)
      | true =>
        rw [hb, cond_true, look_cons] at h
        by_cases e : d = n
        · rw [if_pos e] at h
          cases h
          exact .inr ⟨qs.length, p, by simp, hb, rfl⟩
        · rw [if_neg e] at h
          exact lift (Trb_cases h)
/-- Of the resources only what is looked up counts. -/
theorem SimW.congr {C : Cx} {r r' : List (Nat × RK)} {ι : Nat → Value} {F : Nat → Bl} {S : Bl} {w : World} (h : SimW C r ι F S w) (e : ∀ g, look r' g = look r g) : SimW C r' ι F S w :=
  ⟨⟨fun g T l hg => h.hs.bx g T l (by rw [← e]; exact hg), fun g R hg => h.hs.ob g R (by rw [← e]; exact hg), fun g g' x x' hg hg' => h.hs.dis g g' x x' (by rw [← e]; exact hg) (by rw [← e]; exact hg'), fun g x hg => h.hs.out g x (by rw [← e]; exact hg), h.hs.bnd⟩, h.but, fun g x hg => h.own g x (by rw [← e]; exact hg), h.sb, h.fut, h.keep⟩
/-! What is done in any order must not be in each other's way. -/
def meets : List Nat → List Nat → Bool
  | [], _ => false
  | x :: l, k => or (!(notIn x k)) (meets l k)
theorem meets_not {l k : List Nat} {g : Nat} (h : meets l k = false) (hl : g ∈ l) : g ∉ k := by
  induction l with
  | nil => cases hl
  | cons x l ih =>
    simp only [meets, Bool.or_eq_false_iff, Bool.not_eq_false'] at h
    rcases List.mem_cons.1 hl with rfl | hl
    · exact notIn_iff.1 h.1
    · exact ih h.2 hl
def bothWays (B : List Nat) (i j : Nat) : Bool := bif Nat.blt j i then (B.getD i 0).testBit j else (B.getD j 0).testBit i
def newAway (q : PIt) : List Nat → Bool
  | [] => true
  | g :: l => and (and (!(q.V.has g)) (freshR g q.ups)) (newAway q l)
def newOk (t0 : List (Nat × AV)) (r0 : List (Nat × RK)) : List Nat → Bool
  | [] => true
  | g :: l => and (and (freshT g t0) (freshR g r0)) (newOk t0 r0 l)
def effRow (B : List Nat) (i : Nat) (p : PIt) : Nat → List PIt → Bool
  | _, [] => true
  | j, q :: l => and (or (Nat.beq i j) (and (or (!(meets p.foot (idsOf q.ups) || meets (idsOf p.ups) (idsOf q.ups))) (bothWays B i j)) (or (newAway q p.gs) ((B.getD j 0).testBit i)))) (effRow B i p (j + 1) l)
def effRows (B : List Nat) (t0 : List (Nat × AV)) (r0 : List (Nat × RK)) (l : List PIt) : Nat → List PIt → Bool
  | _, [] => true
  | i, p :: k => and (match p.foot, p.ups, p.gs with | [], [], [] => true | _, _, _ => and (newOk t0 r0 p.gs) (effRow B i p 0 l)) (effRows B t0 r0 l (i + 1) k)
def effOk (B : List Nat) (t0 : List (Nat × AV)) (r0 : List (Nat × RK)) (qs : List PIt) : Bool := effRows B t0 r0 qs.reverse 0 qs.reverse
theorem newAway_mem {q : PIt} : ∀ {l : List Nat} {g : Nat}, newAway q l = true → g ∈ l → q.V.has g = false ∧ freshR g q.ups = true
  | [], g, _, h => by cases h
  | x :: l, g, hn, h => by
    simp only [newAway, Bool.and_eq_true, Bool.not_eq_true'] at hn
    rcases List.mem_cons.1 h with rfl | h
    · exact hn.1
    · exact newAway_mem hn.2 h
theorem newOk_mem {t0 : List (Nat × AV)} {r0 : List (Nat × RK)} : ∀ {l : List Nat} {g : Nat}, newOk t0 r0 l = true → g ∈ l → freshT g t0 = true ∧ freshR g r0 = true
  | [], g, _, h => by cases h
  | x :: l, g, hn, h => by
    simp only [newOk, Bool.and_eq_true] at hn
    rcases List.mem_cons.1 h with rfl | h
    · exact hn.1
    · exact newOk_mem hn.2 h
theorem effRow_mem {B : List Nat} {i : Nat} {p : PIt} : ∀ {l : List PIt} {n j : Nat} {q : PIt}, effRow B i p n l = true → l[j]? = some q → i ≠ n + j → ((∀ g, g ∈ idsOf q.ups → g ∉ p.foot ∧ g ∉ idsOf p.ups) ∨ bothWays B i (n + j) = true) ∧ (newAway q p.gs = true ∨ (B.getD (n + j) 0).testBit i = true)
  | [], n, j, q, _, h, _ => by simp at h
  | q0 :: l, n, 0, q, he, h, hne => by
    cases h
    simp only [effRow, Bool.and_eq_true, Bool.or_eq_true, Bool.not_eq_true', Bool.or_eq_false_iff] at he
    have he' := he.1.resolve_left fun e => hne (Nat.eq_of_beq_eq_true e)
    refine ⟨he'.1.imp (fun h g hg => ⟨fun hf => meets_not h.1 hf hg, fun hf => meets_not h.2 hf hg⟩) id, he'.2⟩
  | q0 :: l, n, j + 1, q, he, h, hne => by
    simp only [effRow, Bool.and_eq_true] at he
    have := effRow_mem (n := n + 1) (j := j) he.2 (by simpa using h) (by omega)
    rw [show n + (j + 1) = n + 1 + j by omega]
    exact this
theorem effRows_mem {B : List Nat} {t0 : List (Nat × AV)} {r0 : List (Nat × RK)} {l : List PIt} : ∀ {k : List PIt} {n i : Nat} {p : PIt}, effRows B t0 r0 l n k = true → k[i]? = some p → (p.foot = [] ∧ p.ups = [] ∧ p.gs = []) ∨ (newOk t0 r0 p.gs = true ∧ effRow B (n + i) p 0 l = true)
  | [], n, i, p, _, h => by simp at h
  | q :: k, n, 0, p, he, h => by
    cases h
    simp only [effRows, Bool.and_eq_true] at he
    have h1 := he.1
    split at h1
    · rename_i a b c
      exact .inl ⟨a, b, c⟩
    · rw [Bool.and_eq_true] at h1
      exact .inr h1
  | q :: k, n, i + 1, p, he, h => by
    simp only [effRows, Bool.and_eq_true] at he
    have := effRows_mem (n := n + 1) (i := i) he.2 (by simpa using h)
    rw [show n + (i + 1) = n + 1 + i by omega]
    exact this
/-- What the check says of two operations. -/
theorem effOk_spec {B : List Nat} {t0 : List (Nat × AV)} {r0 : List (Nat × RK)} {qs : List PIt} (h : effOk B t0 r0 qs = true) {i : Nat} {p : PIt} (hp : qs.reverse[i]? = some p) : (∀ g ∈ p.gs, freshT g t0 = true ∧ freshR g r0 = true) ∧ ∀ j q, qs.reverse[j]? = some q → j ≠ i → ((∀ g, g ∈ idsOf q.ups → g ∉ p.foot ∧ g ∉ idsOf p.ups) ∨ bothWays B i j = true) ∧ ((∀ g ∈ p.gs, q.V.has g = false ∧ freshR g q.ups = true) ∨ (B.getD j 0).testBit i = true) := by
  rcases effRows_mem h hp with ⟨h1, h2, h3⟩ | ⟨h1, h2⟩
  · rw [h1, h2, h3]
    exact ⟨fun g hg => (by cases hg), fun j q _ _ => ⟨.inl fun g _ => ⟨by simp, by simp [idsOf]⟩, .inl fun g hg => (by cases hg)⟩⟩
  · rw [Nat.zero_add] at h2
    refine ⟨fun g hg => newOk_mem h1 hg, fun j q hq hne => ?_⟩
    have := effRow_mem h2 hq (by omega)
    rw [Nat.zero_add] at this
    exact ⟨this.1, this.2.imp_left fun h g hg => newAway_mem h hg⟩
theorem Trb_congr {t0 : List (Nat × AV)} {b b' : Nat → Bool} {n : Nat} : ∀ {qs : List PIt}, (∀ j p, qs.reverse[j]? = some p → p.d = some n → b j = b' j) → look (Trb t0 b qs) n = look (Trb t0 b' qs) n
  | [], _ => rfl
  | p :: qs, h => by
    have ih := Trb_congr (t0 := t0) (n := n) (b := b) (b' := b') (qs := qs) (fun j p' hj hd => h j p' (by
      rw [List.reverse_cons, List.getElem?_append_left (List.getElem?_eq_some_iff.1 hj).1]; exact hj) hd)
    have hp := h qs.length p (by simp)
    simp only [Trb]
    cases hd : p.d with
    | none => exact ih
    | some d =>
      simp only
      by_cases e : d = n
      · subst e
        rw [hp hd]
        cases b' qs.length
        · exact ih
        · simp only [cond_true, look_cons, if_pos]
      · cases b qs.length <;> cases b' qs.length <;> simp only [cond_true, cond_false, look_cons, if_neg e] <;> exact ih
theorem look_Trb_skip {t0 : List (Nat × AV)} {b : Nat → Bool} {n : Nat} : ∀ {qs : List PIt}, (∀ j p, qs.reverse[j]? = some p → p.d = some n → b j = false) → look (Trb t0 b qs) n = look t0 n
  | [], _ => rfl
  | p :: qs, h => by
    have ih := look_Trb_skip (t0 := t0) (n := n) (b := b) (qs := qs) (fun j p' hj hd => h j p' (by
      rw [List.reverse_cons, List.getElem?_append_left (List.getElem?_eq_some_iff.1 hj).1]; exact hj) hd)
    have hp := h qs.length p (by simp)
    simp only [Trb]
    cases hd : p.d with
    | none => exact ih
    | some d =>
      simp only
      by_cases e : d = n
      · subst e
        rw [hp hd, cond_false]
        exact ih
      · cases b qs.length <;> simp only [cond_true, cond_false, look_cons, if_neg e] <;> exact ih
/-- One more has come: it is the last of those that write its slot. -/
theorem look_Trb_up {t0 : List (Nat × AV)} {b : Nat → Bool} {i d : Nat} {q : PIt} (hq : q.d = some d) : ∀ {qs : List PIt}, qs.reverse[i]? = some q → b i = false → (∀ j p, i < j → qs.reverse[j]? = some p → p.d = some d → b j = false) → ∀ n, look (Trb t0 (upB b i) qs) n = look ((d, q.V) :: Trb t0 b qs) n
  | [], h, _, _, n => by simp at h
  | p :: qs, h, hb, hl, n => by
    by_cases hi : i = qs.length
    · have hp : p = q := by
        subst hi
        simpa using h
      subst hp
      simp only [Trb, hq]
      subst hi
      rw [show upB b qs.length qs.length = true by simp [upB], hb, cond_true, cond_false]
      rw [look_cons, look_cons]
      have e : look (Trb t0 (upB b qs.length) qs) n = look (Trb t0 b qs) n := Trb_congr fun j p' hj _ => by
        have := (List.getElem?_eq_some_iff.1 hj).1
        simp at this
        simp [upB, show j ≠ qs.length by omega]
      rw [e]
    · have hlt : i < qs.length := by
        have := (List.getElem?_eq_some_iff.1 h).1
        simp at this
        omega
      have h' : qs.reverse[i]? = some q := by
        rw [List.reverse_cons, List.getElem?_append_left (by simpa using hlt)] at h
        exact h
      have ih := look_Trb_up (t0 := t0) hq h' hb (fun j p' hj hp' hd => hl j p' hj (by
        rw [List.reverse_cons, List.getElem?_append_left (List.getElem?_eq_some_iff.1 hp').1]; exact hp') hd) n
      have hu : upB b i qs.length = b qs.length := by simp [upB, show qs.length ≠ i by omega]
      simp only [Trb]
      cases hd : p.d with
      | none => exact ih
      | some d' =>
        simp only
        rw [hu]
        cases hbb : b qs.length with
        | false => simp only [cond_false]; exact ih
        | true =>
          have hne : d' ≠ d := fun e => by
            have := hl qs.length p hlt (by simp) (by rw [hd, e])
            rw [this] at hbb
            cases hbb
          simp only [cond_true]
          rw [look_cons, look_cons, look_cons, ih, look_cons]
          by_cases e1 : d' = n
          · rw [if_pos e1, if_pos e1, if_neg (by omega)]
          · rw [if_neg e1, if_neg e1]
/-- t says no more than t'. -/
def Knows (t' t : List (Nat × AV)) : Prop := ∀ n x, look t n = some x → ∃ y, look t' n = some y ∧ Le y x
def opndOk (ops : Array Oper) (o : Oper) : Operand → Bool
  | .tmp n => (Oper.looksAt ops o).contains n
  | _ => true
/-- The operation, wherever in the order it comes. -/
def ItemOk (C : Cx) (r : List (Nat × RK)) (o : Oper) (rd : List (Operand × AV)) (p : PIt) : Prop := ∀ r', (∀ g ∈ p.foot, look r' g = look r g) → (∀ g ∈ p.gs, freshR g r' = true) → OpEff C r' o rd p.V (p.ups ++ r') p.gs
theorem OpPure.eff {C : Cx} {r : List (Nat × RK)} {o : Oper} {rd : List (Operand × AV)} {V : AV} (h : OpPure C r o rd V) : OpEff C r o rd V r [] := fun ι F S w ρ hs hr => (h ι F S w ρ hs hr).mono fun u w' ⟨S', h1, h2, h3⟩ => ⟨ι, F, S', h1, h2, fun _ _ => rfl, h3⟩
/-- All of the plan is as it should be. -/
def PlanOk (C : Cx) (r0 : List (Nat × RK)) (ops : Array Oper) (t0 : List (Nat × AV)) : List PIt → Prop
  | [] => True
  | p :: qs => (∃ o t, ops[qs.length]? = some o ∧ o.dst = p.d ∧ (∀ d, p.d = some d → Nat.blt d C.N = true) ∧ Knows (Trb t0 (fun _ => true) qs) t ∧
      ((wantedA t ops o = some true ∧ ∃ rd, Rd t rd ∧ (∀ q ∈ rd, opndOk ops o q.1 = true) ∧ ItemOk C (Rsb r0 (fun _ => true) qs) o rd p) ∨ (wantedA t ops o = some false ∧ p.V = .v undef ∧ p.ups = [] ∧ p.gs = []))) ∧ PlanOk C r0 ops t0 qs
theorem PlanOk.get {C : Cx} {r0 : List (Nat × RK)} {ops : Array Oper} {t0 : List (Nat × AV)} : ∀ {qs : List PIt} {i : Nat} {p : PIt}, PlanOk C r0 ops t0 qs → qs.reverse[i]? = some p → ∃ qi o t, qi.length = i ∧ qi <:+ qs ∧ ops[i]? = some o ∧ o.dst = p.d ∧ (∀ d, p.d = some d → Nat.blt d C.N = true) ∧ Knows (Trb t0 (fun _ => true) qi) t ∧
      ((wantedA t ops o = some true ∧ ∃ rd, Rd t rd ∧ (∀ q ∈ rd, opndOk ops o q.1 = true) ∧ ItemOk C (Rsb r0 (fun _ => true) qi) o rd p) ∨ (wantedA t ops o = some false ∧ p.V = .v undef ∧ p.ups = [] ∧ p.gs = []))
  | [], i, p, _, h => by simp at h
  | q :: qs, i, p, hP, h => by
    by_cases hi : i = qs.length
    · subst hi
      have hp : q = p := by simpa using h
      subst hp
      obtain ⟨⟨o, t, h1, h2⟩, _⟩ := hP
      exact ⟨qs, o, t, rfl, List.suffix_cons _ _, h1, h2⟩
    · have hlt : i < qs.length := by
        have := (List.getElem?_eq_some_iff.1 h).1
        simp at this
        omega
      obtain ⟨qi, o, t, h1, h2, h3⟩ := PlanOk.get hP.2 (by
        rw [List.reverse_cons, List.getElem?_append_left (by simpa using hlt)] at h
        exact h)
      exact ⟨qi, o, t, h1, h2.trans (List.suffix_cons _ _), h3⟩
theorem Trb_suffix {t0 : List (Nat × AV)} {n : Nat} : ∀ {qs qi : List PIt}, qi <:+ qs → look (Trb t0 (fun _ => true) qi) n = look (Trb t0 (fun j => decide (j < qi.length)) qs) n
  | [], qi, h => by
    have : qi = [] := by simpa using h
    subst this
    rfl
  | q :: qs, qi, h => by
    rcases List.suffix_cons_iff.1 h with h | h
    · subst h
      exact Trb_congr fun j p hj _ => by
        have := (List.getElem?_eq_some_iff.1 hj).1
        simp at this ⊢
        omega
    · have ih := Trb_suffix (t0 := t0) (n := n) h
      rw [ih]
      simp only [Trb]
      have hl : qi.length ≤ qs.length := h.length_le
      have : decide (qs.length < qi.length) = false := by simp; omega
      cases q.d with
      | none => rfl
      | some d => simp only [this, cond_false]
/-- What is looked at in any order is what the text's order has. -/
theorem plan_reads {ops : Array Oper} {B : List Nat} {qs qi : List PIt} {b : Nat → Bool} {i n : Nat} {o : Oper} (ht : tabOk ops B = true) (hw : ordOk ops B = true) (hc : ClosedB ops b) (hlen : qs.length = ops.size) (hd : ∀ (j : Nat) (p : PIt) (o : Oper), qs.reverse[j]? = some p → ops[j]? = some o → o.dst = p.d) (hi : ops[i]? = some o) (hbi : b i = false) (hpre : ∀ j, j < ops.size → (B.getD i 0).testBit j = true → b j = true) (hqi : qi <:+ qs) (hql : qi.length = i) (hn : n ∈ Oper.looksAt ops o ++ o.dst.toList) : (∀ j p, qs.reverse[j]? = some p → p.d = some n → j ≠ i → b j = decide (j < i)) := by
  intro j p hj hpd hji
  have hjs : j < ops.size := by
    have := (List.getElem?_eq_some_iff.1 hj).1
    simp at this
    omega
  have hoj : ops[j]? = some ops[j] := Array.getElem?_eq_getElem hjs
  have hdj : ops[j].dst = some n := by rw [hd j p _ hj hoj, hpd]
  obtain ⟨h1, h2⟩ := ordOk_row hw hi hoj hn hdj (fun e => hji e.symm)
  rcases Nat.lt_or_gt_of_ne hji with h | h
  · rw [hpre j hjs (h1 h)]; simp [h]
  · have his := (Array.getElem?_eq_some_iff.1 hi).1
    have hf : b j = false := by
      cases hb : b j with
      | false => rfl
      | true =>
        have := closed_bit ht hc j _ hoj hb i his (h2 h)
        rw [hbi] at this
        cases this
    rw [hf]; simp; omega

theorem ready_iff {ops : Array Oper} {l : Array Bool} {i : Nat} : i ∈ Region.ready .any ops l ↔ ∃ o, ops[i]? = some o ∧ l.getD i true = false ∧ ∀ e ∈ o.after.toList, Region.binds .any e = true → l.getD e.on false = true := by
  unfold Region.ready
  rw [List.mem_filter, List.mem_range]
  constructor
  · rintro ⟨h1, h2⟩
    simp only [Array.getElem?_eq_getElem h1, Option.map_some, Option.getD_some, Bool.and_eq_true, Bool.not_eq_true'] at h2
    refine ⟨_, Array.getElem?_eq_getElem h1, h2.1, fun e he hb => ?_⟩
    have := Array.all_eq_true_iff_forall_mem.1 h2.2 e (by simpa using he)
    rw [hb] at this
    simpa using this
  · rintro ⟨o, h1, h2, h3⟩
    have hi := (Array.getElem?_eq_some_iff.1 h1).1
    refine ⟨hi, ?_⟩
    simp only [h1, Option.map_some, Option.getD_some, Bool.and_eq_true, Bool.not_eq_true']
    refine ⟨h2, Array.all_eq_true_iff_forall_mem.2 fun e he => ?_⟩
    cases hb : Region.binds .any e with
    | false => rfl
    | true => rw [h3 e (by simpa using he) hb]; rfl

theorem evalA_knows {t' t : List (Nat × AV)} (h : Knows t' t) {x : Operand} {y : AV} (hx : evalA t x = some y) : ∃ z, evalA t' x = some z ∧ Le z y := by
  cases x with
  | tmp n => exact h n y hx
  | const c => exact ⟨y, hx, Le.refl⟩
  | global g => exact ⟨y, hx, Le.refl⟩
  | func f => exact ⟨y, hx, Le.refl⟩
def lb (l : Array Bool) : Nat → Bool := fun i => l.getD i true
theorem plan_all {C : Cx} {r0 : List (Nat × RK)} {ops : Array Oper} {t0 : List (Nat × AV)} {qs : List PIt} {Q : Exit → Act → World → Prop} (hreg : regOk ops = true) (hP : PlanOk C r0 ops t0 qs) (heff : effOk (befL ops.toList []) t0 r0 qs = true) (hlen : qs.length = ops.size)
    (hend : ∀ a w, Sim C ⟨Trb t0 (fun _ => true) qs, Rsb r0 (fun _ => true) qs⟩ a w → Q .normal a w) :
    ∀ (fuel : Nat) (l : Array Bool) (a : Act) (w : World), l.size = ops.size → ((List.range ops.size).filter fun i => !(lb l i)).length = fuel → ClosedB ops (lb l) → Sim C ⟨Trb t0 (lb l) qs, Rsb r0 (lb l) qs⟩ a w → wpAny C.P .any ops Q fuel l a w := by
  have htab : tabOk ops (befL ops.toList []) = true := by unfold regOk at hreg; rw [Bool.and_eq_true] at hreg; exact hreg.1
  have hord : ordOk ops (befL ops.toList []) = true := by unfold regOk at hreg; rw [Bool.and_eq_true] at hreg; exact hreg.2
  have hdst : ∀ (j : Nat) (p : PIt) (o : Oper), qs.reverse[j]? = some p → ops[j]? = some o → o.dst = p.d := fun j p o hj ho => by
    obtain ⟨_, o', _, _, _, h1, h2, _⟩ := hP.get hj
    rw [ho] at h1
    cases h1
    exact h2
  have mem : ∀ (l : Array Bool) (i : Nat), l.size = ops.size → i ∈ Region.ready .any ops l → i < ops.size ∧ lb l i = false ∧ ∃ o, ops[i]? = some o ∧ ∀ e ∈ o.after.toList, Region.binds .any e = true → lb l e.on = true := fun l i hl hi => by
    obtain ⟨o, h1, h2, h3⟩ := ready_iff.1 hi
    have his := (Array.getElem?_eq_some_iff.1 h1).1
    refine ⟨his, h2, o, h1, fun e he hb => ?_⟩
    have h4 := h3 e he hb
    have h5 := (tabOk_row htab h1).1 e he hb
    unfold lb
    rw [Array.getD_eq_getD_getElem?] at h4 ⊢
    rw [Array.getElem?_eq_getElem (by omega)] at h4 ⊢
    exact h4
  intro fuel
  induction fuel with
  | zero =>
    intro l a w hl hf hc hs
    have hall : ∀ i, i < ops.size → lb l i = true := fun i hi => by
      cases hb : lb l i with
      | true => rfl
      | false =>
        have : i ∈ (List.range ops.size).filter fun i => !(lb l i) := List.mem_filter.2 ⟨List.mem_range.2 hi, by simp [hb]⟩
        rw [List.eq_nil_of_length_eq_zero hf] at this
        cases this
    refine ⟨List.eq_nil_iff_forall_not_mem.2 fun i hi => ?_, hend a w ?_⟩
    · obtain ⟨h1, h2, _⟩ := mem l i hl hi
      rw [hall i h1] at h2
      cases h2
    · obtain ⟨ι, F, S, hA⟩ := hs
      refine ⟨ι, F, S, ?_, fun n x hx => hA.ts n x ?_, hA.sz, hA.df⟩
      · rw [Rsb_all (b' := lb l) fun j hj => (hall j (by omega)).symm]
        exact hA.sw
      rw [← hx]
      refine Trb_congr fun j p hj _ => ?_
      have := (List.getElem?_eq_some_iff.1 hj).1
      simp at this
      exact hall j (by omega)
  | succ fuel ih =>
    intro l a w hl hf hc hs
    refine ⟨fun hr => ?_, fun i hi => ?_⟩
    · exfalso
      have hex : ∃ i, i < ops.size ∧ lb l i = false := by
        cases hfl : (List.range ops.size).filter fun i => !(lb l i) with
        | nil => rw [hfl] at hf; simp at hf
        | cons x xs =>
          have hx : x ∈ (List.range ops.size).filter fun i => !(lb l i) := by rw [hfl]; exact List.mem_cons_self
          rw [List.mem_filter, List.mem_range] at hx
          exact ⟨x, hx.1, by simpa using hx.2⟩
      have hmin : ∀ m, (∃ i, i ≤ m ∧ i < ops.size ∧ lb l i = false) → ∃ i, i < ops.size ∧ lb l i = false ∧ ∀ j, j < i → lb l j = true := by
        intro m
        induction m with
        | zero =>
          rintro ⟨i, h0, h1, h2⟩
          exact ⟨i, h1, h2, fun j hj => by omega⟩
        | succ m ihm =>
          rintro ⟨i, h0, h1, h2⟩
          by_cases hlow : ∃ j, j ≤ m ∧ j < ops.size ∧ lb l j = false
          · exact ihm hlow
          · refine ⟨i, h1, h2, fun j hj => ?_⟩
            cases hb : lb l j with
            | true => rfl
            | false => exact absurd ⟨j, by omega, by omega, hb⟩ hlow
      obtain ⟨i0, h1, h2⟩ := hex
      obtain ⟨i, h3, h4, h5⟩ := hmin i0 ⟨i0, Nat.le_refl _, h1, h2⟩
      have ho : ops[i]? = some ops[i] := Array.getElem?_eq_getElem h3
      have hin : i ∈ Region.ready .any ops l := by
        refine ready_iff.2 ⟨_, ho, h4, fun e he hb => ?_⟩
        have h6 := (tabOk_row htab ho).1 e he hb
        have h7 := h5 e.on h6
        unfold lb at h7
        rw [Array.getD_eq_getD_getElem?] at h7 ⊢
        rw [Array.getElem?_eq_getElem (by omega)] at h7 ⊢
        exact h7
      rw [hr] at hin
      cases hin
    · obtain ⟨his, hbi, o, hoi, hedge⟩ := mem l i hl hi
      have hqs : i < qs.reverse.length := by simp; omega
      have hq : qs.reverse[i]? = some qs.reverse[i] := List.getElem?_eq_getElem hqs
      generalize qs.reverse[i] = q at hq
      obtain ⟨qi, o', t, hql, hsuf, ho', hd, hN, hkn, hval⟩ := hP.get hq
      rw [hoi] at ho'
      cases ho'
      have hpre : ∀ j, j < ops.size → ((befL ops.toList []).getD i 0).testBit j = true → lb l j = true := fun j hj hbit => by
        obtain ⟨e, he, hb, h3⟩ := (tabOk_row htab hoi).2 j hj hbit
        have h4 := hedge e he hb
        rcases h3 with rfl | h3
        · exact h4
        · have h5 := (tabOk_row htab hoi).1 e he hb
          exact closed_bit htab hc e.on _ (Array.getElem?_eq_getElem (by omega)) h4 j hj h3
      have hreads : ∀ n, n ∈ Oper.looksAt ops o ++ o.dst.toList → ∀ j p, qs.reverse[j]? = some p → p.d = some n → j ≠ i → lb l j = decide (j < i) := fun n hn => plan_reads htab hord hc hlen hdst hoi hbi hpre hsuf hql hn
      have hlook : ∀ n, n ∈ Oper.looksAt ops o → look (Trb t0 (fun _ => true) qi) n = look (Trb t0 (lb l) qs) n := fun n hn => by
        rw [Trb_suffix hsuf, hql]
        refine Trb_congr fun j p hj hpd => ?_
        by_cases hji : j = i
        · subst hji
          rw [hbi]; simp
        · exact (hreads n (List.mem_append_left _ hn) j p hj hpd hji).symm
      obtain ⟨ι, F, S, hA⟩ := id hs
      have hset : l.setIfInBounds i true = l.setIfInBounds i true := rfl
      have hlb : lb (l.setIfInBounds i true) = upB (lb l) i := by
        funext j
        unfold lb upB
        simp only [Array.getD_eq_getD_getElem?]
        by_cases hji : i = j
        · subst hji
          rw [if_pos rfl, Array.getElem?_setIfInBounds_self_of_lt (by omega)]; rfl
        · rw [if_neg (fun e => hji e.symm), Array.getElem?_setIfInBounds_ne hji]
      have hcl : ClosedB ops (upB (lb l) i) := fun j oj hoj hbj e he hb => by
        unfold upB at hbj ⊢
        by_cases hji : j = i
        · subst hji
          rw [hoi] at hoj
          cases hoj
          rw [hedge e he hb]
          split <;> rfl
        · rw [if_neg hji] at hbj
          rw [hc j oj hoj hbj e he hb]
          split <;> rfl
      have hcount : ((List.range ops.size).filter fun j => !(upB (lb l) i j)).length = fuel := by
        have key : ∀ (xs : List Nat), xs.Nodup → i ∈ xs → (xs.filter fun j => !(upB (lb l) i j)).length + 1 = (xs.filter fun j => !(lb l j)).length := by
          intro xs
          induction xs with
          | nil => intro _ h; cases h
          | cons x xs ihx =>
            intro hn hm
            rw [List.nodup_cons] at hn
            by_cases e : x = i
            · subst e
              have h1 : (xs.filter fun j => !(upB (lb l) x j)) = xs.filter fun j => !(lb l j) := List.filter_congr fun j hj => by
                simp [upB, show j ≠ x from fun e => hn.1 (e ▸ hj)]
              rw [List.filter_cons, List.filter_cons, h1]
              simp [upB, hbi]
            · have hm' := (List.mem_cons.1 hm).resolve_left (fun h => e h.symm)
              have := ihx hn.2 hm'
              rw [List.filter_cons, List.filter_cons]
              have hu : upB (lb l) i x = lb l x := by simp [upB, e]
              rw [hu]
              cases lb l x
              · simp only [Bool.not_false, if_true, List.length_cons]; omega
              · simpa using this
        have := key (List.range ops.size) List.nodup_range (List.mem_range.2 his)
        omega
      have go : ∀ (a' : Act) (w' : World), Sim C ⟨Trb t0 (upB (lb l) i) qs, Rsb r0 (upB (lb l) i) qs⟩ a' w' → wpAny C.P .any ops Q fuel (l.setIfInBounds i true) a' w' := fun a' w' h => ih _ a' w' (by simp [hl]) (by rw [hlb]; exact hcount) (by rw [hlb]; exact hcl) (by rw [hlb]; exact h)
      obtain ⟨hnew, hpair⟩ := effOk_spec heff hq
      have hjs : ∀ j p, qs.reverse[j]? = some p → j < ops.size := fun j p hj => by
        have := (List.getElem?_eq_some_iff.1 hj).1
        simp at this
        omega
      have hbefore : ∀ j, j < ops.size → j ≠ i → bothWays (befL ops.toList []) i j = true → lb l j = decide (j < i) := fun j hj hne hb => by
        unfold bothWays at hb
        rcases Nat.lt_or_gt_of_ne hne with h | h
        · rw [show Nat.blt j i = true from Nat.ble_eq_true_of_le h, cond_true] at hb
          rw [hpre j hj hb]; simp [h]
        · have hnb : Nat.blt j i = false := by
            cases hbb : Nat.blt j i
            · rfl
            · have := Nat.le_of_ble_eq_true hbb
              omega
          rw [hnb, cond_false] at hb
          have hf : lb l j = false := by
            cases hbb : lb l j with
            | false => rfl
            | true =>
              have := closed_bit htab hc j _ (Array.getElem?_eq_getElem hj) hbb i his hb
              rw [hbi] at this
              cases this
          rw [hf]; simp; omega
      have hdone : ∀ j p, qs.reverse[j]? = some p → lb l j = true → ∀ g ∈ q.gs, p.V.has g = false ∧ freshR g p.ups = true := fun j p hj hb => by
        have hne : j ≠ i := fun e => by subst e; rw [hbi] at hb; cases hb
        refine (hpair j p hj hne).2.resolve_right fun hbit => ?_
        have := closed_bit htab hc j _ (Array.getElem?_eq_getElem (hjs j p hj)) hb i his hbit
        rw [hbi] at this
        cases this
      have hfresh : ∀ g ∈ q.gs, freshR g (Rsb r0 (lb l) qs) = true := fun g hg => freshR_Rsb (hnew g hg).2 fun j p hj hb => (hdone j p hj hb g hg).2
      have hfoot : ∀ g ∈ q.foot, look (Rsb r0 (lb l) qs) g = look (Rsb r0 (fun _ => true) qi) g := fun g hg => by
        rw [Rsb_suffix hsuf, hql]
        refine Rsb_congr fun j p hj hgj => ?_
        by_cases hji : j = i
        · subst hji
          rw [hbi]; simp
        · exact hbefore j (hjs j p hj) hji ((hpair j p hj hji).1.resolve_left fun h => (h g hgj).1 hg)
      have hup : ∀ g, look (Rsb r0 (upB (lb l) i) qs) g = look (q.ups ++ Rsb r0 (lb l) qs) g := look_Rsb_up hq hbi fun j p hij hj hb g hgp hgq => by
        rcases (hpair j p hj (by omega)).1 with h | h
        · exact (h g hgp).2 hgq
        · have := hbefore j (hjs j p hj) (by omega) h
          rw [hb] at this
          simp at this
          omega
      -- what is known behind the step
      have after : ∀ {ι' : Nat → Value} {F' : Nat → Bl} {S' : Bl} {u : Value} {w' : World}, SimW C (q.ups ++ Rsb r0 (lb l) qs) ι' F' S' w' → Fut S w S' w' → (∀ g, g ∉ q.gs → ι' g = ι g) → AVR ι' S' w' q.V u → Sim C ⟨Trb t0 (upB (lb l) i) qs, Rsb r0 (upB (lb l) i) qs⟩ (a.put o.dst u) w' := fun {ι' F' S' u w'} h1 h2 h3 h4 => by
        have hι : ∀ n x, look (Trb t0 (lb l) qs) n = some x → ∀ g, x.has g = true → ι' g = ι g := fun n x hx g hg => h3 g fun hgs => by
          rcases Trb_cases hx with hx | ⟨j, p, e1, e2, e3⟩
          · rw [freshT_look (hnew g hgs).1 hx] at hg
            cases hg
          · subst e3
            rw [(hdone j p e1 e2 g hgs).1] at hg
            cases hg
        refine ⟨ι', F', S', h1.congr hup, fun n x hx => ?_, ?_, ?_⟩
        · cases hqd : q.d with
          | none =>
            rw [hd, hqd]
            have : look (Trb t0 (upB (lb l) i) qs) n = look (Trb t0 (lb l) qs) n := Trb_congr fun j p hj hpd => by
              unfold upB
              by_cases hji : j = i
              · subst hji
                rw [hq] at hj
                cases hj
                rw [hqd] at hpd
                cases hpd
              · rw [if_neg hji]
            rw [this] at hx
            exact hA.ts.fut h2 hι n x hx
          | some d =>
            rw [hd, hqd]
            rw [look_Trb_up hqd hq hbi (fun j p hij hjp hpd => by
              have := hreads d (List.mem_append_right _ (by rw [hd, hqd]; simp)) j p hjp hpd (by omega)
              rw [this]; simp; omega) n] at hx
            exact hA.ts.put h2 hι (by rw [hA.sz]; exact Nat.le_of_ble_eq_true (hN d hqd)) h4 n x hx
        · have := hA.sz
          rw [hd]
          cases q.d <;> simp [Act.put, this]
        · have := hA.df
          rw [hd]
          cases q.d <;> simp [Act.put, this]
      have hknown : Knows (Trb t0 (lb l) qs) (t.filter fun p => (Oper.looksAt ops o).contains p.1) := fun n x hx => by
        have hflt : ∀ (t : List (Nat × AV)) n x, look (t.filter fun p => (Oper.looksAt ops o).contains p.1) n = some x → look t n = some x ∧ n ∈ Oper.looksAt ops o := by
          intro t
          induction t with
          | nil => intro n x h; cases h
          | cons p t iht =>
            obtain ⟨k, y⟩ := p
            intro n x h
            rw [List.filter_cons] at h
            by_cases hk : (Oper.looksAt ops o).contains k = true
            · rw [if_pos hk, look_cons] at h
              rw [look_cons]
              by_cases e : k = n
              · rw [if_pos e] at h ⊢
                exact ⟨h, by rw [← e]; simpa using hk⟩
              · rw [if_neg e] at h ⊢
                exact iht n x h
            · rw [if_neg hk] at h
              obtain ⟨h1, h2⟩ := iht n x h
              rw [look_cons, if_neg fun e => hk (by rw [e]; simpa using h2)]
              exact ⟨h1, h2⟩
        obtain ⟨h1, h2⟩ := hflt t n x hx
        obtain ⟨y, h3, h4⟩ := hkn n x h1
        exact ⟨y, by rw [← hlook n h2]; exact h3, h4⟩
      have hev : ∀ x y, evalA t x = some y → opndOk ops o x = true → AVR ι S w y (a.eval x) := fun x y hx hok => by
        cases x with
        | tmp n =>
          obtain ⟨z, h1, h2⟩ := hkn n y hx
          have hn : n ∈ Oper.looksAt ops o := by simpa [opndOk] using hok
          rw [hlook n hn] at h1
          exact h2 _ _ _ _ (hA.ts.eval (x := .tmp n) h1)
        | const c => cases hx; simp [AVR, Act.eval]
        | global g => cases hx; simp [AVR, Act.eval]
        | func f => cases hx; simp [AVR, Act.eval]
      have hwant : ∀ c, wantedA t ops o = some c → Region.wanted o (yielded ops a.tmps) = c := fun c hcw => by
        cases hg : o.guard with
        | none =>
          unfold wantedA at hcw
          unfold Region.wanted
          simp only [hg] at hcw ⊢
          simpa using hcw
        | some gd =>
          obtain ⟨j, want⟩ := gd
          unfold wantedA at hcw
          simp only [hg] at hcw
          cases hj : ops[j]? with
          | none => simp [hj] at hcw
          | some oj =>
            simp only [hj] at hcw
            cases hdj : oj.dst with
            | none => simp [hdj] at hcw
            | some d =>
              simp only [hdj] at hcw
              cases hld : look t d with
              | none => simp [hld] at hcw
              | some x =>
                cases x <;> simp only [hld] at hcw <;> try (cases hcw)
                rename_i x
                have h1 := hev (.tmp d) _ hld (by simp [opndOk, Oper.looksAt, hg, hj, hdj])
                simp only [AVR] at h1
                have h2 : a.tmps.getD d undef = x := h1
                have : yielded ops a.tmps j = yieldV x := by
                  unfold yielded yieldV
                  simp only [hj, hdj, Option.bind_some]
                  rw [← h2, Array.getD_eq_getD_getElem?]
                  cases hz : a.tmps[d]? with
                  | none => rfl
                  | some z => cases z <;> rfl
                unfold Region.wanted
                simp only [hg, this]
                clear this h2 h1 hld
                cases x <;> simp only at hcw <;> cases hcw
                all_goals first | rfl | (rename_i b0; cases b0 <;> cases want <;> rfl)
      show wpOp C.P ops Q i (wpAny C.P .any ops Q fuel (l.setIfInBounds i true)) a w
      unfold wpOp
      rw [hoi]
      simp only
      rcases hval with ⟨hwt, rd, hrd, hok, hitem⟩ | ⟨hwt, hV, hu0, hg0⟩
      · rw [if_pos (hwant true hwt)]
        left
        have hdo := hitem _ hfoot hfresh ι F S w a.eval hA.sw (fun p hp => hev p.1 p.2 (hrd.all p hp) (hok p hp))
        exact Does.wp (hdo.mono fun u w' hu => by
          obtain ⟨ι', F', S', h1, h2, h3, h4⟩ := hu
          exact go _ _ (after h1 h2 h3 h4))
      · rw [if_neg (by rw [hwant false hwt]; simp)]
        exact go _ _ (after (ι' := ι) (F' := F) (by rw [hu0]; exact hA.sw) (Fut.refl _ _) (fun _ _ => rfl) (by rw [hV]; simp [AVR]))

/-- The plan so far; what is left of it: l. -/
structure PlanL (C : Cx) (ops : Array Oper) (t0 : List (Nat × AV)) (r0 : List (Nat × RK)) (qs : List PIt) (l : List Oper) (σ : VS) (k : List Item) : Prop where
  go : PlanOk C r0 ops t0 qs → ops.toList.drop qs.length = l → Knows (Trb t0 (fun _ => true) qs) σ.t → σ.r = Rsb r0 (fun _ => true) qs → ∃ qs', PlanOk C r0 ops t0 qs' ∧ qs'.length = ops.size ∧ effOk (befL ops.toList []) t0 r0 qs' = true ∧ ∃ t', Knows (Trb t0 (fun _ => true) qs') t' ∧ Run C k ⟨t', Rsb r0 (fun _ => true) qs'⟩
theorem Knows.refl (t : List (Nat × AV)) : Knows t t := fun n x h => ⟨x, h, Le.refl⟩
theorem Knows.cons {t' t : List (Nat × AV)} (h : Knows t' t) (d : Nat) (V : AV) : Knows ((d, V) :: t') ((d, V) :: t) := fun n x hx => by
  rw [look_cons] at hx ⊢
  by_cases e : d = n
  · rw [if_pos e] at hx ⊢; cases hx; exact ⟨_, rfl, Le.refl⟩
  · rw [if_neg e] at hx ⊢; exact h n x hx
section
variable {C : Cx} {k : List Item} {t t0 : List (Nat × AV)} {r r0 : List (Nat × RK)} {ops : Array Oper} {rest : List Oper} {qs : List PIt} {o : Oper}
theorem drop_at {l : List Oper} (h : ops.toList.drop qs.length = o :: l) : ops[qs.length]? = some o ∧ ops.toList.drop (qs.length + 1) = l := by
  have h1 : ops.toList[qs.length]? = some o := by
    have := congrArg (fun l => l[0]?) h
    simpa using this
  refine ⟨by rw [← Array.getElem?_toList]; exact h1, ?_⟩
  have := congrArg List.tail h
  rw [List.tail_drop] at this
  simpa using this
theorem planL_eff {d : Nat} {V : AV} (rd : List (Operand × AV)) (ups : List (Nat × RK)) (ft gs : List Nat) (hok : (rd.all fun q => opndOk ops o q.1) = true) (hg : wantedA t ops o = some true) (hd : o.dst = some d) (hn : Nat.blt d C.N = true) (hr : Rd t rd) (h : ∀ r', (∀ g ∈ ft, look r' g = look r g) → (∀ g ∈ gs, freshR g r' = true) → OpEff C r' o rd V (ups ++ r') gs) (hk : PlanL C ops t0 r0 (⟨some d, V, ups, ft, gs⟩ :: qs) rest ⟨(d, V) :: t, ups ++ r⟩ k) : PlanL C ops t0 r0 qs (o :: rest) ⟨t, r⟩ k := .mk fun hP hl hkn hrr => by
  obtain ⟨h1, h2⟩ := drop_at hl
  simp only at hrr
  subst hrr
  refine hk.go ⟨⟨o, t, h1, hd, fun d' e => by cases e; exact hn, hkn, .inl ⟨hg, rd, hr, fun q hq => List.all_eq_true.1 hok q hq, h⟩⟩, hP⟩ (by simpa using h2) ?_ (by simp [Rsb])
  simp only [Trb, cond_true]
  exact hkn.cons d V
theorem planL_eff0 {V : AV} (rd : List (Operand × AV)) (ups : List (Nat × RK)) (ft gs : List Nat) (hok : (rd.all fun q => opndOk ops o q.1) = true) (hg : wantedA t ops o = some true) (hd : o.dst = none) (hr : Rd t rd) (h : ∀ r', (∀ g ∈ ft, look r' g = look r g) → (∀ g ∈ gs, freshR g r' = true) → OpEff C r' o rd V (ups ++ r') gs) (hk : PlanL C ops t0 r0 (⟨none, V, ups, ft, gs⟩ :: qs) rest ⟨t, ups ++ r⟩ k) : PlanL C ops t0 r0 qs (o :: rest) ⟨t, r⟩ k := .mk fun hP hl hkn hrr => by
  obtain ⟨h1, h2⟩ := drop_at hl
  simp only at hrr
  subst hrr
  refine hk.go ⟨⟨o, t, h1, hd, (fun d' e => by cases e), hkn, .inl ⟨hg, rd, hr, fun q hq => List.all_eq_true.1 hok q hq, h⟩⟩, hP⟩ (by simpa using h2) ?_ (by simp [Rsb])
  simp only [Trb]
  exact hkn
theorem planL_pure {d : Nat} {V : AV} (rd : List (Operand × AV)) (ft : List Nat) (hok : (rd.all fun q => opndOk ops o q.1) = true) (hg : wantedA t ops o = some true) (hd : o.dst = some d) (hn : Nat.blt d C.N = true) (hr : Rd t rd) (h : ∀ r', (∀ g ∈ ft, look r' g = look r g) → OpPure C r' o rd V) (hk : PlanL C ops t0 r0 (⟨some d, V, [], ft, []⟩ :: qs) rest ⟨(d, V) :: t, r⟩ k) : PlanL C ops t0 r0 qs (o :: rest) ⟨t, r⟩ k :=
  planL_eff rd [] ft [] hok hg hd hn hr (fun r' hf _ => (h r' hf).eff) hk
theorem planL_off {d : Nat} (hg : wantedA t ops o = some false) (hd : o.dst = some d) (hn : Nat.blt d C.N = true) (hk : PlanL C ops t0 r0 (⟨some d, .v undef, [], [], []⟩ :: qs) rest ⟨(d, .v undef) :: t, r⟩ k) : PlanL C ops t0 r0 qs (o :: rest) ⟨t, r⟩ k := .mk fun hP hl hkn hrr => by
  obtain ⟨h1, h2⟩ := drop_at hl
  simp only at hrr
  subst hrr
  refine hk.go ⟨⟨o, t, h1, hd, fun d' e => by cases e; exact hn, hkn, .inr ⟨hg, rfl, rfl, rfl⟩⟩, hP⟩ (by simpa using h2) ?_ (by simp [Rsb])
  simp only [Trb, cond_true]
  exact hkn.cons d _
theorem planL_know {l : List Oper} (n : Nat) {x y : AV} (hx : look t n = some x) (hy : Le x y) (h : PlanL C ops t0 r0 qs l ⟨(n, y) :: t, r⟩ k) : PlanL C ops t0 r0 qs l ⟨t, r⟩ k := .mk fun hP hl hkn hrr => h.go hP hl (fun m z hz => by
  rw [look_cons] at hz
  by_cases e : n = m
  · subst e
    rw [if_pos rfl] at hz
    cases hz
    obtain ⟨y', h1, h2⟩ := hkn n x hx
    exact ⟨y', h1, fun ι S w u hu => hy _ _ _ _ (h2 _ _ _ _ hu)⟩
  · rw [if_neg e] at hz
    exact hkn m z hz) hrr
theorem planL_nil (he : effOk (befL ops.toList []) t0 r0 qs = true) (h : Run C k ⟨t, r⟩) : PlanL C ops t0 r0 qs [] ⟨t, r⟩ k := .mk fun hP hl hkn hrr => ⟨qs, hP, by
  have h1 := congrArg List.length hl
  rw [List.length_drop, List.length_nil, Array.length_toList] at h1
  have : ∀ {qs : List PIt}, PlanOk C r0 ops t0 qs → qs.length ≤ ops.size := by
    intro qs h
    cases qs with
    | nil => simp
    | cons p qs =>
      obtain ⟨⟨o, t, h1, _⟩, _⟩ := h
      have := (Array.getElem?_eq_some_iff.1 h1).1
      simp only [List.length_cons]
      omega
  have := this hP
  omega, he, t, hkn, by simp only at hrr; rw [← hrr]; exact h⟩
theorem run_draws {id : Nat} {l : List Oper} (hm : C.P.follows .mixedOrders = true) (hreg : regOk l.toArray = true) (h : PlanL C l.toArray t r [] l ⟨t, r⟩ k) : Run C (.code (.region id l.toArray true) :: k) ⟨t, r⟩ := .mk fun a w hs => by
  obtain ⟨qs, h1, h2, he, t', h3, h4⟩ := h.go trivial (by simp) (Knows.refl _) rfl
  have hend : ∀ a' w', Sim C ⟨Trb t (fun _ => true) qs, Rsb r (fun _ => true) qs⟩ a' w' → Go_ C k a' w' := fun a' w' hs' => by
    obtain ⟨ι, F, S, hA⟩ := hs'
    refine h4.go a' w' ⟨ι, F, S, hA.sw, fun n x hx => ?_, hA.sz, hA.df⟩
    obtain ⟨y, h5, h6⟩ := h3 n x hx
    obtain ⟨u, h7, h8⟩ := hA.ts n y h5
    exact ⟨u, h7, h6 _ _ _ _ h8⟩
  have hnone : ∀ j, j < l.toArray.size → lb (Array.replicate l.toArray.size false) j = false := fun j hj => by
    unfold lb
    rw [Array.getD_eq_getD_getElem?, Array.getElem?_replicate, if_pos hj]; rfl
  refine Go_.of_wp (wp_region_any hm ?_)
  refine plan_all hreg h1 he h2 (fun a' w' hs' => ⟨rfl, hend a' w' hs'⟩) _ _ a _ (by simp) ?_ ?_ ?_
  · have : ((List.range l.toArray.size).filter fun i => !(lb (Array.replicate l.toArray.size false) i)) = List.range l.toArray.size := List.filter_eq_self.2 fun i hi => by
      rw [List.mem_range] at hi
      rw [hnone i hi]; rfl
    rw [this, List.length_range]
  · intro i o ho hb
    exfalso
    have hi := (Array.getElem?_eq_some_iff.1 ho).1
    rw [hnone i hi] at hb
    cases hb
  · obtain ⟨ι, F, S, hA⟩ := hs
    have hb : Below w.heap.size w { w with drawn := w.drawn + 1 } := ⟨rfl, rfl, rfl, Nat.le_refl _, fun _ _ => rfl⟩
    have hF : Fut S w S { w with drawn := w.drawn + 1 } := ⟨fun _ h => h, fun k _ hk => hb.block k hk⟩
    refine ⟨ι, F, S, ?_, fun n x hx => ?_, hA.sz, hA.df⟩
    · rw [Rsb_none fun j hj => hnone j (by omega)]
      exact hA.sw.same hb
    · have : look (Trb t (lb (Array.replicate l.toArray.size false)) qs) n = look t n := look_Trb_skip fun j p hj _ => by
        have hj' := (List.getElem?_eq_some_iff.1 hj).1
        simp at hj'
        exact hnone j (by omega)
      rw [this] at hx
      exact hA.ts.fut hF (fun _ _ _ _ _ => rfl) n x hx
end
end Go.Proofs.YtpmeffdcbjakoaaDoor
