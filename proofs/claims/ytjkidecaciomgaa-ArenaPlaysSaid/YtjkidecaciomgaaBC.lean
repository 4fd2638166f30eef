/- VL11, VL12, VL13, VL14, VL15. -/
import Derived.Test.YtjkidecaciomgaaBB
import Derived.Orders
import Derived.OwnWalk
import Derived.Laws.CopyRow
import Derived.Laws.IdiomCopy
import Derived.MapFrom
/- VL, part 11: regions that draw their order and leave the resources alone. -/
namespace Go.Proofs.Ytjkidecaciomgaa
set_option linter.unusedVariables false
set_option linter.unusedSimpArgs false
open Go.RowKit

/-! ### What comes first in any order -/
def befStep (acc : List Nat) (o : Oper) : Nat := o.after.toList.foldl (fun s e => bif Region.binds .any e then s ||| 2 ^ e.on ||| acc.getD e.on 0 else s) 0
def befL : List Oper → List Nat → List Nat
  | [], acc => acc
  | o :: os, acc => befL os (acc ++ [befStep acc o])
/-- Each bit has its ground: an edge, or an edge's bit. -/
def tabOk (ops : Array Oper) (B : List Nat) : Bool :=
  (List.range ops.size).all fun i => match ops[i]? with
    | some o => (o.after.toList.all fun e => !(Region.binds .any e) || decide (e.on < i)) &&
      (List.range ops.size).all fun j => !((B.getD i 0).testBit j) || o.after.toList.any fun e => Region.binds .any e && (e.on == j || (B.getD e.on 0).testBit j)
    | none => false
/-- Who looks at a slot, or writes it, and who else writes it, come in the text's order. -/
def ordOk (ops : Array Oper) (B : List Nat) : Bool :=
  (List.range ops.size).all fun i => match ops[i]? with
    | some o => (Oper.looksAt ops o ++ o.dst.toList).all fun n => (List.range ops.size).all fun j => match ops[j]? with
      | some p => !(p.dst == some n) || i == j || (bif Nat.blt j i then (B.getD i 0).testBit j else (B.getD j 0).testBit i)
      | none => true
    | none => false
def regOk (ops : Array Oper) : Bool := tabOk ops (befL ops.toList []) && ordOk ops (befL ops.toList [])

section
variable {ops : Array Oper} {B : List Nat} {b : Nat → Bool}
/-- What has come has all behind it that comes first. -/
def ClosedB (ops : Array Oper) (b : Nat → Bool) : Prop := ∀ i o, ops[i]? = some o → b i = true → ∀ e ∈ o.after.toList, Region.binds .any e = true → b e.on = true
theorem tabOk_row (h : tabOk ops B = true) {i : Nat} {o : Oper} (ho : ops[i]? = some o) : (∀ e ∈ o.after.toList, Region.binds .any e = true → e.on < i) ∧ ∀ j, j < ops.size → (B.getD i 0).testBit j = true → ∃ e ∈ o.after.toList, Region.binds .any e = true ∧ (e.on = j ∨ (B.getD e.on 0).testBit j = true) := by
  have hi := (Array.getElem?_eq_some_iff.1 ho).1
  have h1 := List.all_eq_true.1 h i (List.mem_range.2 hi)
  rw [ho] at h1
  simp only [Bool.and_eq_true, List.all_eq_true, Bool.or_eq_true, Bool.not_eq_true', decide_eq_true_eq, List.any_eq_true, beq_iff_eq, List.mem_range] at h1
  refine ⟨fun e he hb => (h1.1 e he).resolve_left (by rw [hb]; simp), fun j hj hbit => ?_⟩
  have := (h1.2 j hj).resolve_left (by rw [hbit]; simp)
  obtain ⟨e, he, h2, h3⟩ := this
  exact ⟨e, he, h2, h3⟩
theorem closed_bit (h : tabOk ops B = true) (hc : ClosedB ops b) : ∀ (i : Nat) (o : Oper), ops[i]? = some o → b i = true → ∀ j, j < ops.size → (B.getD i 0).testBit j = true → b j = true := by
  intro i
  induction i using Nat.strongRecOn with
  | _ i ih =>
    intro o ho hi j hj hbit
    obtain ⟨r1, r2⟩ := tabOk_row h ho
    obtain ⟨e, he, hb, h3⟩ := r2 j hj hbit
    have hlt := r1 e he hb
    have hbe := hc i o ho hi e he hb
    rcases h3 with rfl | h3
    · exact hbe
    · have hsz := (Array.getElem?_eq_some_iff.1 ho).1
      have hlt2 : e.on < ops.size := by omega
      exact ih e.on hlt ops[e.on] (Array.getElem?_eq_getElem hlt2) hbe j hj h3
theorem ordOk_row (h : ordOk ops B = true) {i j n : Nat} {o p : Oper} (ho : ops[i]? = some o) (hp : ops[j]? = some p) (hn : n ∈ Oper.looksAt ops o ++ o.dst.toList) (hd : p.dst = some n) (hij : i ≠ j) : (j < i → (B.getD i 0).testBit j = true) ∧ (i < j → (B.getD j 0).testBit i = true) := by
  have hi := (Array.getElem?_eq_some_iff.1 ho).1
  have hj := (Array.getElem?_eq_some_iff.1 hp).1
  have h1 := List.all_eq_true.1 h i (List.mem_range.2 hi)
  rw [ho] at h1
  have h2 := List.all_eq_true.1 (List.all_eq_true.1 h1 n hn) j (List.mem_range.2 hj)
  rw [hp] at h2
  simp only [hd, Bool.or_eq_true, Bool.not_eq_true', beq_iff_eq, beq_self_eq_true, Bool.true_eq_false, false_or] at h2
  have h3 := h2.resolve_left hij
  refine ⟨fun hlt => ?_, fun hlt => ?_⟩
  · rw [show Nat.blt j i = true from Nat.ble_eq_true_of_le hlt, cond_true] at h3
    exact h3
  · have : Nat.blt j i = false := by
      cases hb : Nat.blt j i
      · rfl
      · have := Nat.le_of_ble_eq_true hb
        omega
    rw [this, cond_false] at h3
    exact h3
end

/-! ### The plan: each operation's value -/
structure PIt where
  d : Option Nat
  V : AV
  /-- What it turns of the resources. -/
  ups : List (Nat × RK)
  /-- On which resources it rests. -/
  foot : List Nat
  /-- The names that are new. -/
  gs : List Nat
/-- What is known once the operations in b have come. -/
def Trb (t0 : List (Nat × AV)) (b : Nat → Bool) : List PIt → List (Nat × AV)
  | [] => t0
  | p :: qs => match p.d with
    | some d => bif b qs.length then (d, p.V) :: Trb t0 b qs else Trb t0 b qs
    | none => Trb t0 b qs
/-- The resources, once the operations in b have come. -/
def Rsb (r0 : List (Nat × RK)) (b : Nat → Bool) : List PIt → List (Nat × RK)
  | [] => r0
  | p :: qs => bif b qs.length then p.ups ++ Rsb r0 b qs else Rsb r0 b qs
theorem look_app_out {α : Type} : ∀ {l r : List (Nat × α)} {g : Nat}, g ∉ idsOf l → look (l ++ r) g = look r g
  | [], r, g, _ => rfl
  | (k, x) :: l, r, g, h => by
    simp only [idsOf, List.mem_cons, not_or] at h
    rw [List.cons_append, look_cons, if_neg (fun e => h.1 e.symm)]
    exact look_app_out h.2
theorem look_app_in {α : Type} : ∀ {l : List (Nat × α)} (r r' : List (Nat × α)) {g : Nat}, g ∈ idsOf l → look (l ++ r) g = look (l ++ r') g
  | [], r, r', g, h => by cases h
  | (k, x) :: l, r, r', g, h => by
    rw [List.cons_append, List.cons_append, look_cons, look_cons]
    by_cases e : k = g
    · rw [if_pos e, if_pos e]
    · rw [if_neg e, if_neg e]
      simp only [idsOf, List.mem_cons] at h
      exact look_app_in r r' (h.resolve_left fun e' => e e'.symm)
theorem look_app_congr {α : Type} (l : List (Nat × α)) {r r' : List (Nat × α)} (h : ∀ g, look r g = look r' g) (g : Nat) : look (l ++ r) g = look (l ++ r') g := by
  by_cases hg : g ∈ idsOf l
  · exact look_app_in r r' hg
  · rw [look_app_out hg, look_app_out hg, h]
theorem look_app_swap {α : Type} {a b c : List (Nat × α)} (h : ∀ g, g ∈ idsOf a → g ∉ idsOf b) (g : Nat) : look (a ++ (b ++ c)) g = look (b ++ (a ++ c)) g := by
  by_cases hg : g ∈ idsOf a
  · rw [look_app_out (h g hg)]
    exact look_app_in _ _ hg
  · rw [look_app_out hg]
    by_cases hb : g ∈ idsOf b
    · exact look_app_in _ _ hb
    · rw [look_app_out hb, look_app_out hb, look_app_out hg]
theorem Rsb_congr {r0 : List (Nat × RK)} {b b' : Nat → Bool} {g : Nat} : ∀ {qs : List PIt}, (∀ j p, qs.reverse[j]? = some p → g ∈ idsOf p.ups → b j = b' j) → look (Rsb r0 b qs) g = look (Rsb r0 b' qs) g
  | [], _ => rfl
  | p :: qs, h => by
    have ih := Rsb_congr (r0 := r0) (g := g) (b := b) (b' := b') (qs := qs) (fun j p' hj hd => h j p' (by
      rw [List.reverse_cons, List.getElem?_append_left (List.getElem?_eq_some_iff.1 hj).1]; exact hj) hd)
    have hp := h qs.length p (by simp)
    simp only [Rsb]
    by_cases hg : g ∈ idsOf p.ups
    · rw [hp hg]
      cases b' qs.length
      · exact ih
      · exact look_app_in _ _ hg
    · cases b qs.length <;> cases b' qs.length <;> simp only [cond_true, cond_false, look_app_out hg] <;> exact ih
theorem Rsb_all {r0 : List (Nat × RK)} {b b' : Nat → Bool} : ∀ {qs : List PIt}, (∀ j, j < qs.length → b j = b' j) → Rsb r0 b qs = Rsb r0 b' qs
  | [], _ => rfl
  | p :: qs, h => by
    have ih := Rsb_all (r0 := r0) (b := b) (b' := b') (qs := qs) fun j hj => h j (by simp; omega)
    simp only [Rsb]
    rw [ih, h qs.length (by simp)]
theorem Rsb_suffix {r0 : List (Nat × RK)} : ∀ {qs qi : List PIt}, qi <:+ qs → Rsb r0 (fun _ => true) qi = Rsb r0 (fun j => decide (j < qi.length)) qs
  | [], qi, h => by
    have : qi = [] := by simpa using h
    subst this
    rfl
  | q :: qs, qi, h => by
    rcases List.suffix_cons_iff.1 h with h | h
    · subst h
      exact Rsb_all fun j hj => by simp; exact hj
    · have ih := Rsb_suffix (r0 := r0) h
      rw [ih]
      simp only [Rsb]
      have hl : qi.length ≤ qs.length := h.length_le
      have : decide (qs.length < qi.length) = false := by simp; omega
      rw [this, cond_false]
theorem Rsb_none {r0 : List (Nat × RK)} {b : Nat → Bool} : ∀ {qs : List PIt}, (∀ j, j < qs.length → b j = false) → Rsb r0 b qs = r0
  | [], _ => rfl
  | p :: qs, h => by
    simp only [Rsb]
    rw [h qs.length (by simp), cond_false]
    exact Rsb_none fun j hj => h j (by simp; omega)
def upB (b : Nat → Bool) (i : Nat) : Nat → Bool := fun j => if j = i then true else b j
/-- One more has come. -/
theorem look_Rsb_up {r0 : List (Nat × RK)} {b : Nat → Bool} {i : Nat} {q : PIt} : ∀ {qs : List PIt}, qs.reverse[i]? = some q → b i = false → (∀ j p, i < j → qs.reverse[j]? = some p → b j = true → ∀ g, g ∈ idsOf p.ups → g ∉ idsOf q.ups) → ∀ g, look (Rsb r0 (upB b i) qs) g = look (q.ups ++ Rsb r0 b qs) g
  | [], h, _, _, g => by simp at h
  | p :: qs, h, hb, hl, g => by
    by_cases hi : i = qs.length
    · have hp : p = q := by
        subst hi
        simpa using h
      subst hp
      subst hi
      simp only [Rsb]
      rw [show upB b qs.length qs.length = true by simp [upB], hb, cond_true, cond_false]
      rw [Rsb_all (b' := b) fun j hj => by simp [upB, show j ≠ qs.length by omega]]
    · have hlt : i < qs.length := by
        have := (List.getElem?_eq_some_iff.1 h).1
        simp at this
        omega
      have h' : qs.reverse[i]? = some q := by
        rw [List.reverse_cons, List.getElem?_append_left (by simpa using hlt)] at h
        exact h
      have ih := look_Rsb_up (r0 := r0) h' hb (fun j p' hj hp' hd => hl j p' hj (by
        rw [List.reverse_cons, List.getElem?_append_left (List.getElem?_eq_some_iff.1 hp').1]; exact hp') hd)
      have hu : upB b i qs.length = b qs.length := by simp [upB, show qs.length ≠ i by omega]
      simp only [Rsb]
      rw [hu]
      cases hbb : b qs.length with
      | false => simp only [cond_false]; exact ih g
      | true =>
        simp only [cond_true]
        rw [look_app_congr p.ups ih g]
        exact look_app_swap (hl qs.length p hlt (by simp) hbb) g
theorem freshR_app {g : Nat} : ∀ {l r : List (Nat × RK)}, freshR g l = true → freshR g r = true → freshR g (l ++ r) = true
  | [], r, _, h => h
  | p :: l, r, h, h' => by
    simp only [freshR, List.cons_append, Bool.and_eq_true] at h ⊢
    exact ⟨h.1, freshR_app h.2 h'⟩
theorem freshR_Rsb {g : Nat} {r0 : List (Nat × RK)} {b : Nat → Bool} (h0 : freshR g r0 = true) : ∀ {qs : List PIt}, (∀ j p, qs.reverse[j]? = some p → b j = true → freshR g p.ups = true) → freshR g (Rsb r0 b qs) = true
  | [], _ => h0
  | p :: qs, h => by
    have ih := freshR_Rsb h0 (b := b) (qs := qs) (fun j p' hj hd => h j p' (by
      rw [List.reverse_cons, List.getElem?_append_left (List.getElem?_eq_some_iff.1 hj).1]; exact hj) hd)
    simp only [Rsb]
    cases hb : b qs.length with
    | false => exact ih
    | true => exact freshR_app (h qs.length p (by simp) hb) ih
theorem Trb_cases {t0 : List (Nat × AV)} {b : Nat → Bool} {n : Nat} {x : AV} : ∀ {qs : List PIt}, look (Trb t0 b qs) n = some x → look t0 n = some x ∨ ∃ j p, qs.reverse[j]? = some p ∧ b j = true ∧ p.V = x
  | [], h => .inl h
  | p :: qs, h => by
    have lift : (look t0 n = some x ∨ ∃ j p, qs.reverse[j]? = some p ∧ b j = true ∧ p.V = x) → (look t0 n = some x ∨ ∃ j p', (p :: qs).reverse[j]? = some p' ∧ b j = true ∧ p'.V = x) := fun h => h.imp_right fun ⟨j, p', h1, h2⟩ => ⟨j, p', by
      rw [List.reverse_cons, List.getElem?_append_left (List.getElem?_eq_some_iff.1 h1).1]; exact h1, h2⟩
    simp only [Trb] at h
    cases hd : p.d with
    | none => rw [hd] at h; exact lift (Trb_cases h)
    | some d =>
      rw [hd] at h
      simp only at h
      cases hb : b qs.length with
      | false => rw [hb, cond_false] at h; exact lift (Trb_cases h)
      | true =>
        rw [hb, cond_true, look_cons] at h
        by_cases e : d = n
        · rw [if_pos e] at h
          cases h
          exact .inr ⟨qs.length, p, by simp, hb, rfl⟩
        · rw [if_neg e] at h
          exact lift (Trb_cases h)
/-- Of the resources only what is looked up counts. -/
theorem SimW.congr {C : Cx} {r r' : List (Nat × RK)} {ι : Nat → Value} {F : Nat → Bl} {S : Bl} {w : World} (h : SimW C r ι F S w) (e : ∀ g, look r' g = look r g) : SimW C r' ι F S w :=
  ⟨⟨fun g T l hg => h.hs.bx g T l (by rw [← e]; exact hg), fun g R hg => h.hs.ob g R (by rw [← e]; exact hg), fun g g' x x' hg hg' => h.hs.dis g g' x x' (by rw [← e]; exact hg) (by rw [← e]; exact hg'), fun g x hg => h.hs.out g x (by rw [← e]; exact hg), h.hs.bnd⟩, h.but, fun g x hg => h.own g x (by rw [← e]; exact hg), h.sb, h.fut, h.keep⟩
/-! What is done in any order must not be in each other's way. -/
def meets : List Nat → List Nat → Bool
  | [], _ => false
  | x :: l, k => or (!(notIn x k)) (meets l k)
theorem meets_not {l k : List Nat} {g : Nat} (h : meets l k = false) (hl : g ∈ l) : g ∉ k := by
  induction l with
  | nil => cases hl
  | cons x l ih =>
    simp only [meets, Bool.or_eq_false_iff, Bool.not_eq_false'] at h
    rcases List.mem_cons.1 hl with rfl | hl
    · exact notIn_iff.1 h.1
    · exact ih h.2 hl
def bothWays (B : List Nat) (i j : Nat) : Bool := bif Nat.blt j i then (B.getD i 0).testBit j else (B.getD j 0).testBit i
def newAway (q : PIt) : List Nat → Bool
  | [] => true
  | g :: l => and (and (!(q.V.has g)) (freshR g q.ups)) (newAway q l)
def newOk (t0 : List (Nat × AV)) (r0 : List (Nat × RK)) : List Nat → Bool
  | [] => true
  | g :: l => and (and (freshT g t0) (freshR g r0)) (newOk t0 r0 l)
def effRow (B : List Nat) (i : Nat) (p : PIt) : Nat → List PIt → Bool
  | _, [] => true
  | j, q :: l => and (or (Nat.beq i j) (and (or (!(meets p.foot (idsOf q.ups) || meets (idsOf p.ups) (idsOf q.ups))) (bothWays B i j)) (or (newAway q p.gs) ((B.getD j 0).testBit i)))) (effRow B i p (j + 1) l)
def effRows (B : List Nat) (t0 : List (Nat × AV)) (r0 : List (Nat × RK)) (l : List PIt) : Nat → List PIt → Bool
  | _, [] => true
  | i, p :: k => and (match p.foot, p.ups, p.gs with | [], [], [] => true | _, _, _ => and (newOk t0 r0 p.gs) (effRow B i p 0 l)) (effRows B t0 r0 l (i + 1) k)
def effOk (B : List Nat) (t0 : List (Nat × AV)) (r0 : List (Nat × RK)) (qs : List PIt) : Bool := effRows B t0 r0 qs.reverse 0 qs.reverse
theorem newAway_mem {q : PIt} : ∀ {l : List Nat} {g : Nat}, newAway q l = true → g ∈ l → q.V.has g = false ∧ freshR g q.ups = true
  | [], g, _, h => by cases h
  | x :: l, g, hn, h => by
    simp only [newAway, Bool.and_eq_true, Bool.not_eq_true'] at hn
    rcases List.mem_cons.1 h with rfl | h
    · exact hn.1
    · exact newAway_mem hn.2 h
theorem newOk_mem {t0 : List (Nat × AV)} {r0 : List (Nat × RK)} : ∀ {l : List Nat} {g : Nat}, newOk t0 r0 l = true → g ∈ l → freshT g t0 = true ∧ freshR g r0 = true
  | [], g, _, h => by cases h
  | x :: l, g, hn, h => by
    simp only [newOk, Bool.and_eq_true] at hn
    rcases List.mem_cons.1 h with rfl | h
    · exact hn.1
    · exact newOk_mem hn.2 h
theorem effRow_mem {B : List Nat} {i : Nat} {p : PIt} : ∀ {l : List PIt} {n j : Nat} {q : PIt}, effRow B i p n l = true → l[j]? = some q → i ≠ n + j → ((∀ g, g ∈ idsOf q.ups → g ∉ p.foot ∧ g ∉ idsOf p.ups) ∨ bothWays B i (n + j) = true) ∧ (newAway q p.gs = true ∨ (B.getD (n + j) 0).testBit i = true)
  | [], n, j, q, _, h, _ => by simp at h
  | q0 :: l, n, 0, q, he, h, hne => by
    cases h
    simp only [effRow, Bool.and_eq_true, Bool.or_eq_true, Bool.not_eq_true', Bool.or_eq_false_iff] at he
    have he' := he.1.resolve_left fun e => hne (Nat.eq_of_beq_eq_true e)
    refine ⟨he'.1.imp (fun h g hg => ⟨fun hf => meets_not h.1 hf hg, fun hf => meets_not h.2 hf hg⟩) id, he'.2⟩
  | q0 :: l, n, j + 1, q, he, h, hne => by
    simp only [effRow, Bool.and_eq_true] at he
    have := effRow_mem (n := n + 1) (j := j) he.2 (by simpa using h) (by omega)
    rw [show n + (j + 1) = n + 1 + j by omega]
    exact this
theorem effRows_mem {B : List Nat} {t0 : List (Nat × AV)} {r0 : List (Nat × RK)} {l : List PIt} : ∀ {k : List PIt} {n i : Nat} {p : PIt}, effRows B t0 r0 l n k = true → k[i]? = some p → (p.foot = [] ∧ p.ups = [] ∧ p.gs = []) ∨ (newOk t0 r0 p.gs = true ∧ effRow B (n + i) p 0 l = true)
  | [], n, i, p, _, h => by simp at h
  | q :: k, n, 0, p, he, h => by
    cases h
    simp only [effRows, Bool.and_eq_true] at he
    have h1 := he.1
    split at h1
    · rename_i a b c
      exact .inl ⟨a, b, c⟩
    · rw [Bool.and_eq_true] at h1
      exact .inr h1
  | q :: k, n, i + 1, p, he, h => by
    simp only [effRows, Bool.and_eq_true] at he
    have := effRows_mem (n := n + 1) (i := i) he.2 (by simpa using h)
    rw [show n + (i + 1) = n + 1 + i by omega]
    exact this
/-- What the check says of two operations. -/
theorem effOk_spec {B : List Nat} {t0 : List (Nat × AV)} {r0 : List (Nat × RK)} {qs : List PIt} (h : effOk B t0 r0 qs = true) {i : Nat} {p : PIt} (hp : qs.reverse[i]? = some p) : (∀ g ∈ p.gs, freshT g t0 = true ∧ freshR g r0 = true) ∧ ∀ j q, qs.reverse[j]? = some q → j ≠ i → ((∀ g, g ∈ idsOf q.ups → g ∉ p.foot ∧ g ∉ idsOf p.ups) ∨ bothWays B i j = true) ∧ ((∀ g ∈ p.gs, q.V.has g = false ∧ freshR g q.ups = true) ∨ (B.getD j 0).testBit i = true) := by
  rcases effRows_mem h hp with ⟨h1, h2, h3⟩ | ⟨h1, h2⟩
  · rw [h1, h2, h3]
    exact ⟨fun g hg => (by cases hg), fun j q _ _ => ⟨.inl fun g _ => ⟨by simp, by simp [idsOf]⟩, .inl fun g hg => (by cases hg)⟩⟩
  · rw [Nat.zero_add] at h2
    refine ⟨fun g hg => newOk_mem h1 hg, fun j q hq hne => ?_⟩
    have := effRow_mem h2 hq (by omega)
    rw [Nat.zero_add] at this
    exact ⟨this.1, this.2.imp_left fun h g hg => newAway_mem h hg⟩
theorem Trb_congr {t0 : List (Nat × AV)} {b b' : Nat → Bool} {n : Nat} : ∀ {qs : List PIt}, (∀ j p, qs.reverse[j]? = some p → p.d = some n → b j = b' j) → look (Trb t0 b qs) n = look (Trb t0 b' qs) n
  | [], _ => rfl
  | p :: qs, h => by
    have ih := Trb_congr (t0 := t0) (n := n) (b := b) (b' := b') (qs := qs) (fun j p' hj hd => h j p' (by
      rw [List.reverse_cons, List.getElem?_append_left (List.getElem?_eq_some_iff.1 hj).1]; exact hj) hd)
    have hp := h qs.length p (by simp)
    simp only [Trb]
    cases hd : p.d with
    | none => exact ih
    | some d =>
      simp only
      by_cases e : d = n
      · subst e
        rw [hp hd]
        cases b' qs.length
        · exact ih
        · simp only [cond_true, look_cons, if_pos]
      · cases b qs.length <;> cases b' qs.length <;> simp only [cond_true, cond_false, look_cons, if_neg e] <;> exact ih
theorem look_Trb_skip {t0 : List (Nat × AV)} {b : Nat → Bool} {n : Nat} : ∀ {qs : List PIt}, (∀ j p, qs.reverse[j]? = some p → p.d = some n → b j = false) → look (Trb t0 b qs) n = look t0 n
  | [], _ => rfl
  | p :: qs, h => by
    have ih := look_Trb_skip (t0 := t0) (n := n) (b := b) (qs := qs) (fun j p' hj hd => h j p' (by
      rw [List.reverse_cons, List.getElem?_append_left (List.getElem?_eq_some_iff.1 hj).1]; exact hj) hd)
    have hp := h qs.length p (by simp)
    simp only [Trb]
    cases hd : p.d with
    | none => exact ih
    | some d =>
      simp only
      by_cases e : d = n
      · subst e
        rw [hp hd, cond_false]
        exact ih
      · cases b qs.length <;> simp only [cond_true, cond_false, look_cons, if_neg e] <;> exact ih
/-- One more has come: it is the last of those that write its slot. -/
theorem look_Trb_up {t0 : List (Nat × AV)} {b : Nat → Bool} {i d : Nat} {q : PIt} (hq : q.d = some d) : ∀ {qs : List PIt}, qs.reverse[i]? = some q → b i = false → (∀ j p, i < j → qs.reverse[j]? = some p → p.d = some d → b j = false) → ∀ n, look (Trb t0 (upB b i) qs) n = look ((d, q.V) :: Trb t0 b qs) n
  | [], h, _, _, n => by simp at h
  | p :: qs, h, hb, hl, n => by
    by_cases hi : i = qs.length
    · have hp : p = q := by
        subst hi
        simpa using h
      subst hp
      simp only [Trb, hq]
      subst hi
      rw [show upB b qs.length qs.length = true by simp [upB], hb, cond_true, cond_false]
      rw [look_cons, look_cons]
      have e : look (Trb t0 (upB b qs.length) qs) n = look (Trb t0 b qs) n := Trb_congr fun j p' hj _ => by
        have := (List.getElem?_eq_some_iff.1 hj).1
        simp at this
        simp [upB, show j ≠ qs.length by omega]
      rw [e]
    · have hlt : i < qs.length := by
        have := (List.getElem?_eq_some_iff.1 h).1
        simp at this
        omega
      have h' : qs.reverse[i]? = some q := by
        rw [List.reverse_cons, List.getElem?_append_left (by simpa using hlt)] at h
        exact h
      have ih := look_Trb_up (t0 := t0) hq h' hb (fun j p' hj hp' hd => hl j p' hj (by
        rw [List.reverse_cons, List.getElem?_append_left (List.getElem?_eq_some_iff.1 hp').1]; exact hp') hd) n
      have hu : upB b i qs.length = b qs.length := by simp [upB, show qs.length ≠ i by omega]
      simp only [Trb]
      cases hd : p.d with
      | none => exact ih
      | some d' =>
        simp only
        rw [hu]
        cases hbb : b qs.length with
        | false => simp only [cond_false]; exact ih
        | true =>
          have hne : d' ≠ d := fun e => by
            have := hl qs.length p hlt (by simp) (by rw [hd, e])
            rw [this] at hbb
            cases hbb
          simp only [cond_true]
          rw [look_cons, look_cons, look_cons, ih, look_cons]
          by_cases e1 : d' = n
          · rw [if_pos e1, if_pos e1, if_neg (by omega)]
          · rw [if_neg e1, if_neg e1]
/-- t says no more than t'. -/
def Knows (t' t : List (Nat × AV)) : Prop := ∀ n x, look t n = some x → ∃ y, look t' n = some y ∧ Le y x
def opndOk (ops : Array Oper) (o : Oper) : Operand → Bool
  | .tmp n => (Oper.looksAt ops o).contains n
  | _ => true
/-- The operation, wherever in the order it comes. -/
def ItemOk (C : Cx) (r : List (Nat × RK)) (o : Oper) (rd : List (Operand × AV)) (p : PIt) : Prop := ∀ r', (∀ g ∈ p.foot, look r' g = look r g) → (∀ g ∈ p.gs, freshR g r' = true) → OpEff C r' o rd p.V (p.ups ++ r') p.gs
theorem OpPure.eff {C : Cx} {r : List (Nat × RK)} {o : Oper} {rd : List (Operand × AV)} {V : AV} (h : OpPure C r o rd V) : OpEff C r o rd V r [] := fun ι F S w ρ hs hr => (h ι F S w ρ hs hr).mono fun u w' ⟨S', h1, h2, h3⟩ => ⟨ι, F, S', h1, h2, fun _ _ => rfl, h3⟩
/-- All of the plan is as it should be. -/
def PlanOk (C : Cx) (r0 : List (Nat × RK)) (ops : Array Oper) (t0 : List (Nat × AV)) : List PIt → Prop
  | [] => True
  | p :: qs => (∃ o t, ops[qs.length]? = some o ∧ o.dst = p.d ∧ (∀ d, p.d = some d → Nat.blt d C.N = true) ∧ Knows (Trb t0 (fun _ => true) qs) t ∧
      ((wantedA t ops o = some true ∧ ∃ rd, Rd t rd ∧ (∀ q ∈ rd, opndOk ops o q.1 = true) ∧ ItemOk C (Rsb r0 (fun _ => true) qs) o rd p) ∨ (wantedA t ops o = some false ∧ p.V = .v undef ∧ p.ups = [] ∧ p.gs = []))) ∧ PlanOk C r0 ops t0 qs
theorem PlanOk.get {C : Cx} {r0 : List (Nat × RK)} {ops : Array Oper} {t0 : List (Nat × AV)} : ∀ {qs : List PIt} {i : Nat} {p : PIt}, PlanOk C r0 ops t0 qs → qs.reverse[i]? = some p → ∃ qi o t, qi.length = i ∧ qi <:+ qs ∧ ops[i]? = some o ∧ o.dst = p.d ∧ (∀ d, p.d = some d → Nat.blt d C.N = true) ∧ Knows (Trb t0 (fun _ => true) qi) t ∧
      ((wantedA t ops o = some true ∧ ∃ rd, Rd t rd ∧ (∀ q ∈ rd, opndOk ops o q.1 = true) ∧ ItemOk C (Rsb r0 (fun _ => true) qi) o rd p) ∨ (wantedA t ops o = some false ∧ p.V = .v undef ∧ p.ups = [] ∧ p.gs = []))
  | [], i, p, _, h => by simp at h
  | q :: qs, i, p, hP, h => by
    by_cases hi : i = qs.length
    · subst hi
      have hp : q = p := by simpa using h
      subst hp
      obtain ⟨⟨o, t, h1, h2⟩, _⟩ := hP
      exact ⟨qs, o, t, rfl, List.suffix_cons _ _, h1, h2⟩
    · have hlt : i < qs.length := by
        have := (List.getElem?_eq_some_iff.1 h).1
        simp at this
        omega
      obtain ⟨qi, o, t, h1, h2, h3⟩ := PlanOk.get hP.2 (by
        rw [List.reverse_cons, List.getElem?_append_left (by simpa using hlt)] at h
        exact h)
      exact ⟨qi, o, t, h1, h2.trans (List.suffix_cons _ _), h3⟩
theorem Trb_suffix {t0 : List (Nat × AV)} {n : Nat} : ∀ {qs qi : List PIt}, qi <:+ qs → look (Trb t0 (fun _ => true) qi) n = look (Trb t0 (fun j => decide (j < qi.length)) qs) n
  | [], qi, h => by
    have : qi = [] := by simpa using h
    subst this
    rfl
  | q :: qs, qi, h => by
    rcases List.suffix_cons_iff.1 h with h | h
    · subst h
      exact Trb_congr fun j p hj _ => by
        have := (List.getElem?_eq_some_iff.1 hj).1
        simp at this ⊢
        omega
    · have ih := Trb_suffix (t0 := t0) (n := n) h
      rw [ih]
      simp only [Trb]
      have hl : qi.length ≤ qs.length := h.length_le
      have : decide (qs.length < qi.length) = false := by simp; omega
      cases q.d with
      | none => rfl
      | some d => simp only [this, cond_false]
/-- What is looked at in any order is what the text's order has. -/
theorem plan_reads {ops : Array Oper} {B : List Nat} {qs qi : List PIt} {b : Nat → Bool} {i n : Nat} {o : Oper} (ht : tabOk ops B = true) (hw : ordOk ops B = true) (hc : ClosedB ops b) (hlen : qs.length = ops.size) (hd : ∀ (j : Nat) (p : PIt) (o : Oper), qs.reverse[j]? = some p → ops[j]? = some o → o.dst = p.d) (hi : ops[i]? = some o) (hbi : b i = false) (hpre : ∀ j, j < ops.size → (B.getD i 0).testBit j = true → b j = true) (hqi : qi <:+ qs) (hql : qi.length = i) (hn : n ∈ Oper.looksAt ops o ++ o.dst.toList) : (∀ j p, qs.reverse[j]? = some p → p.d = some n → j ≠ i → b j = decide (j < i)) := by
  intro j p hj hpd hji
  have hjs : j < ops.size := by
    have := (List.getElem?_eq_some_iff.1 hj).1
    simp at this
    omega
  have hoj : ops[j]? = some ops[j] := Array.getElem?_eq_getElem hjs
  have hdj : ops[j].dst = some n := by rw [hd j p _ hj hoj, hpd]
  obtain ⟨h1, h2⟩ := ordOk_row hw hi hoj hn hdj (fun e => hji e.symm)
  rcases Nat.lt_or_gt_of_ne hji with h | h
  · rw [hpre j hjs (h1 h)]; simp [h]
  · have his := (Array.getElem?_eq_some_iff.1 hi).1
    have hf : b j = false := by
      cases hb : b j with
      | false => rfl
      | true =>
        have := closed_bit ht hc j _ hoj hb i his (h2 h)
        rw [hbi] at this
        cases this
    rw [hf]; simp; omega

theorem ready_iff {ops : Array Oper} {l : Array Bool} {i : Nat} : i ∈ Region.ready .any ops l ↔ ∃ o, ops[i]? = some o ∧ l.getD i true = false ∧ ∀ e ∈ o.after.toList, Region.binds .any e = true → l.getD e.on false = true := by
  unfold Region.ready
  rw [List.mem_filter, List.mem_range]
  constructor
  · rintro ⟨h1, h2⟩
    simp only [Array.getElem?_eq_getElem h1, Option.map_some, Option.getD_some, Bool.and_eq_true, Bool.not_eq_true'] at h2
    refine ⟨_, Array.getElem?_eq_getElem h1, h2.1, fun e he hb => ?_⟩
    have := Array.all_eq_true_iff_forall_mem.1 h2.2 e (by simpa using he)
    rw [hb] at this
    simpa using this
  · rintro ⟨o, h1, h2, h3⟩
    have hi := (Array.getElem?_eq_some_iff.1 h1).1
    refine ⟨hi, ?_⟩
    simp only [h1, Option.map_some, Option.getD_some, Bool.and_eq_true, Bool.not_eq_true']
    refine ⟨h2, Array.all_eq_true_iff_forall_mem.2 fun e he => ?_⟩
    cases hb : Region.binds .any e with
    | false => rfl
    | true => rw [h3 e (by simpa using he) hb]; rfl

theorem evalA_knows {t' t : List (Nat × AV)} (h : Knows t' t) {x : Operand} {y : AV} (hx : evalA t x = some y) : ∃ z, evalA t' x = some z ∧ Le z y := by
  cases x with
  | tmp n => exact h n y hx
  | const c => exact ⟨y, hx, Le.refl⟩
  | global g => exact ⟨y, hx, Le.refl⟩
  | func f => exact ⟨y, hx, Le.refl⟩
def lb (l : Array Bool) : Nat → Bool := fun i => l.getD i true
theorem plan_all {C : Cx} {r0 : List (Nat × RK)} {ops : Array Oper} {t0 : List (Nat × AV)} {qs : List PIt} {Q : Exit → Act → World → Prop} (hreg : regOk ops = true) (hP : PlanOk C r0 ops t0 qs) (heff : effOk (befL ops.toList []) t0 r0 qs = true) (hlen : qs.length = ops.size)
    (hend : ∀ a w, Sim C ⟨Trb t0 (fun _ => true) qs, Rsb r0 (fun _ => true) qs⟩ a w → Q .normal a w) :
    ∀ (fuel : Nat) (l : Array Bool) (a : Act) (w : World), l.size = ops.size → ((List.range ops.size).filter fun i => !(lb l i)).length = fuel → ClosedB ops (lb l) → Sim C ⟨Trb t0 (lb l) qs, Rsb r0 (lb l) qs⟩ a w → wpAny C.P .any ops Q fuel l a w := by
  have htab : tabOk ops (befL ops.toList []) = true := by unfold regOk at hreg; rw [Bool.and_eq_true] at hreg; exact hreg.1
  have hord : ordOk ops (befL ops.toList []) = true := by unfold regOk at hreg; rw [Bool.and_eq_true] at hreg; exact hreg.2
  have hdst : ∀ (j : Nat) (p : PIt) (o : Oper), qs.reverse[j]? = some p → ops[j]? = some o → o.dst = p.d := fun j p o hj ho => by
    obtain ⟨_, o', _, _, _, h1, h2, _⟩ := hP.get hj
    rw [ho] at h1
    cases h1
    exact h2
  have mem : ∀ (l : Array Bool) (i : Nat), l.size = ops.size → i ∈ Region.ready .any ops l → i < ops.size ∧ lb l i = false ∧ ∃ o, ops[i]? = some o ∧ ∀ e ∈ o.after.toList, Region.binds .any e = true → lb l e.on = true := fun l i hl hi => by
    obtain ⟨o, h1, h2, h3⟩ := ready_iff.1 hi
    have his := (Array.getElem?_eq_some_iff.1 h1).1
    refine ⟨his, h2, o, h1, fun e he hb => ?_⟩
    have h4 := h3 e he hb
    have h5 := (tabOk_row htab h1).1 e he hb
    unfold lb
    rw [Array.getD_eq_getD_getElem?] at h4 ⊢
    rw [Array.getElem?_eq_getElem (by omega)] at h4 ⊢
    exact h4
  intro fuel
  induction fuel with
  | zero =>
    intro l a w hl hf hc hs
    have hall : ∀ i, i < ops.size → lb l i = true := fun i hi => by
      cases hb : lb l i with
      | true => rfl
      | false =>
        have : i ∈ (List.range ops.size).filter fun i => !(lb l i) := List.mem_filter.2 ⟨List.mem_range.2 hi, by simp [hb]⟩
        rw [List.eq_nil_of_length_eq_zero hf] at this
        cases this
    refine ⟨List.eq_nil_iff_forall_not_mem.2 fun i hi => ?_, hend a w ?_⟩
    · obtain ⟨h1, h2, _⟩ := mem l i hl hi
      rw [hall i h1] at h2
      cases h2
    · obtain ⟨ι, F, S, hA⟩ := hs
      refine ⟨ι, F, S, ?_, fun n x hx => hA.ts n x ?_, hA.sz, hA.df⟩
      · rw [Rsb_all (b' := lb l) fun j hj => (hall j (by omega)).symm]
        exact hA.sw
      rw [← hx]
      refine Trb_congr fun j p hj _ => ?_
      have := (List.getElem?_eq_some_iff.1 hj).1
      simp at this
      exact hall j (by omega)
  | succ fuel ih =>
    intro l a w hl hf hc hs
    refine ⟨fun hr => ?_, fun i hi => ?_⟩
    · exfalso
      have hex : ∃ i, i < ops.size ∧ lb l i = false := by
        cases hfl : (List.range ops.size).filter fun i => !(lb l i) with
        | nil => rw [hfl] at hf; simp at hf
        | cons x xs =>
          have hx : x ∈ (List.range ops.size).filter fun i => !(lb l i) := by rw [hfl]; exact List.mem_cons_self
          rw [List.mem_filter, List.mem_range] at hx
          exact ⟨x, hx.1, by simpa using hx.2⟩
      have hmin : ∀ m, (∃ i, i ≤ m ∧ i < ops.size ∧ lb l i = false) → ∃ i, i < ops.size ∧ lb l i = false ∧ ∀ j, j < i → lb l j = true := by
        intro m
        induction m with
        | zero =>
          rintro ⟨i, h0, h1, h2⟩
          exact ⟨i, h1, h2, fun j hj => by omega⟩
        | succ m ihm =>
          rintro ⟨i, h0, h1, h2⟩
          by_cases hlow : ∃ j, j ≤ m ∧ j < ops.size ∧ lb l j = false
          · exact ihm hlow
          · refine ⟨i, h1, h2, fun j hj => ?_⟩
            cases hb : lb l j with
            | true => rfl
            | false => exact absurd ⟨j, by omega, by omega, hb⟩ hlow
      obtain ⟨i0, h1, h2⟩ := hex
      obtain ⟨i, h3, h4, h5⟩ := hmin i0 ⟨i0, Nat.le_refl _, h1, h2⟩
      have ho : ops[i]? = some ops[i] := Array.getElem?_eq_getElem h3
      have hin : i ∈ Region.ready .any ops l := by
        refine ready_iff.2 ⟨_, ho, h4, fun e he hb => ?_⟩
        have h6 := (tabOk_row htab ho).1 e he hb
        have h7 := h5 e.on h6
        unfold lb at h7
        rw [Array.getD_eq_getD_getElem?] at h7 ⊢
        rw [Array.getElem?_eq_getElem (by omega)] at h7 ⊢
        exact h7
      rw [hr] at hin
      cases hin
    · obtain ⟨his, hbi, o, hoi, hedge⟩ := mem l i hl hi
      have hqs : i < qs.reverse.length := by simp; omega
      have hq : qs.reverse[i]? = some qs.reverse[i] := List.getElem?_eq_getElem hqs
      generalize qs.reverse[i] = q at hq
      obtain ⟨qi, o', t, hql, hsuf, ho', hd, hN, hkn, hval⟩ := hP.get hq
      rw [hoi] at ho'
      cases ho'
      have hpre : ∀ j, j < ops.size → ((befL ops.toList []).getD i 0).testBit j = true → lb l j = true := fun j hj hbit => by
        obtain ⟨e, he, hb, h3⟩ := (tabOk_row htab hoi).2 j hj hbit
        have h4 := hedge e he hb
        rcases h3 with rfl | h3
        · exact h4
        · have h5 := (tabOk_row htab hoi).1 e he hb
          exact closed_bit htab hc e.on _ (Array.getElem?_eq_getElem (by omega)) h4 j hj h3
      have hreads : ∀ n, n ∈ Oper.looksAt ops o ++ o.dst.toList → ∀ j p, qs.reverse[j]? = some p → p.d = some n → j ≠ i → lb l j = decide (j < i) := fun n hn => plan_reads htab hord hc hlen hdst hoi hbi hpre hsuf hql hn
      have hlook : ∀ n, n ∈ Oper.looksAt ops o → look (Trb t0 (fun _ => true) qi) n = look (Trb t0 (lb l) qs) n := fun n hn => by
        rw [Trb_suffix hsuf, hql]
        refine Trb_congr fun j p hj hpd => ?_
        by_cases hji : j = i
        · subst hji
          rw [hbi]; simp
        · exact (hreads n (List.mem_append_left _ hn) j p hj hpd hji).symm
      obtain ⟨ι, F, S, hA⟩ := id hs
      have hset : l.setIfInBounds i true = l.setIfInBounds i true := rfl
      have hlb : lb (l.setIfInBounds i true) = upB (lb l) i := by
        funext j
        unfold lb upB
        simp only [Array.getD_eq_getD_getElem?]
        by_cases hji : i = j
        · subst hji
          rw [if_pos rfl, Array.getElem?_setIfInBounds_self_of_lt (by omega)]; rfl
        · rw [if_neg (fun e => hji e.symm), Array.getElem?_setIfInBounds_ne hji]
      have hcl : ClosedB ops (upB (lb l) i) := fun j oj hoj hbj e he hb => by
        unfold upB at hbj ⊢
        by_cases hji : j = i
        · subst hji
          rw [hoi] at hoj
          cases hoj
          rw [hedge e he hb]
          split <;> rfl
        · rw [if_neg hji] at hbj
          rw [hc j oj hoj hbj e he hb]
          split <;> rfl
      have hcount : ((List.range ops.size).filter fun j => !(upB (lb l) i j)).length = fuel := by
        have key : ∀ (xs : List Nat), xs.Nodup → i ∈ xs → (xs.filter fun j => !(upB (lb l) i j)).length + 1 = (xs.filter fun j => !(lb l j)).length := by
          intro xs
          induction xs with
          | nil => intro _ h; cases h
          | cons x xs ihx =>
            intro hn hm
            rw [List.nodup_cons] at hn
            by_cases e : x = i
            · subst e
              have h1 : (xs.filter fun j => !(upB (lb l) x j)) = xs.filter fun j => !(lb l j) := List.filter_congr fun j hj => by
                simp [upB, show j ≠ x from fun e => hn.1 (e ▸ hj)]
              rw [List.filter_cons, List.filter_cons, h1]
              simp [upB, hbi]
            · have hm' := (List.mem_cons.1 hm).resolve_left (fun h => e h.symm)
              have := ihx hn.2 hm'
              rw [List.filter_cons, List.filter_cons]
              have hu : upB (lb l) i x = lb l x := by simp [upB, e]
              rw [hu]
              cases lb l x
              · simp only [Bool.not_false, if_true, List.length_cons]; omega
              · simpa using this
        have := key (List.range ops.size) List.nodup_range (List.mem_range.2 his)
        omega
      have go : ∀ (a' : Act) (w' : World), Sim C ⟨Trb t0 (upB (lb l) i) qs, Rsb r0 (upB (lb l) i) qs⟩ a' w' → wpAny C.P .any ops Q fuel (l.setIfInBounds i true) a' w' := fun a' w' h => ih _ a' w' (by simp [hl]) (by rw [hlb]; exact hcount) (by rw [hlb]; exact hcl) (by rw [hlb]; exact h)
      obtain ⟨hnew, hpair⟩ := effOk_spec heff hq
      have hjs : ∀ j p, qs.reverse[j]? = some p → j < ops.size := fun j p hj => by
        have := (List.getElem?_eq_some_iff.1 hj).1
        simp at this
        omega
      have hbefore : ∀ j, j < ops.size → j ≠ i → bothWays (befL ops.toList []) i j = true → lb l j = decide (j < i) := fun j hj hne hb => by
        unfold bothWays at hb
        rcases Nat.lt_or_gt_of_ne hne with h | h
        · rw [show Nat.blt j i = true from Nat.ble_eq_true_of_le h, cond_true] at hb
          rw [hpre j hj hb]; simp [h]
        · have hnb : Nat.blt j i = false := by
            cases hbb : Nat.blt j i
            · rfl
            · have := Nat.le_of_ble_eq_true hbb
              omega
          rw [hnb, cond_false] at hb
          have hf : lb l j = false := by
            cases hbb : lb l j with
            | false => rfl
            | true =>
              have := closed_bit htab hc j _ (Array.getElem?_eq_getElem hj) hbb i his hb
              rw [hbi] at this
              cases this
          rw [hf]; simp; omega
      have hdone : ∀ j p, qs.reverse[j]? = some p → lb l j = true → ∀ g ∈ q.gs, p.V.has g = false ∧ freshR g p.ups = true := fun j p hj hb => by
        have hne : j ≠ i := fun e => by subst e; rw [hbi] at hb; cases hb
        refine (hpair j p hj hne).2.resolve_right fun hbit => ?_
        have := closed_bit htab hc j _ (Array.getElem?_eq_getElem (hjs j p hj)) hb i his hbit
        rw [hbi] at this
        cases this
      have hfresh : ∀ g ∈ q.gs, freshR g (Rsb r0 (lb l) qs) = true := fun g hg => freshR_Rsb (hnew g hg).2 fun j p hj hb => (hdone j p hj hb g hg).2
      have hfoot : ∀ g ∈ q.foot, look (Rsb r0 (lb l) qs) g = look (Rsb r0 (fun _ => true) qi) g := fun g hg => by
        rw [Rsb_suffix hsuf, hql]
        refine Rsb_congr fun j p hj hgj => ?_
        by_cases hji : j = i
        · subst hji
          rw [hbi]; simp
        · exact hbefore j (hjs j p hj) hji ((hpair j p hj hji).1.resolve_left fun h => (h g hgj).1 hg)
      have hup : ∀ g, look (Rsb r0 (upB (lb l) i) qs) g = look (q.ups ++ Rsb r0 (lb l) qs) g := look_Rsb_up hq hbi fun j p hij hj hb g hgp hgq => by
        rcases (hpair j p hj (by omega)).1 with h | h
        · exact (h g hgp).2 hgq
        · have := hbefore j (hjs j p hj) (by omega) h
          rw [hb] at this
          simp at this
          omega
      -- what is known behind the step
      have after : ∀ {ι' : Nat → Value} {F' : Nat → Bl} {S' : Bl} {u : Value} {w' : World}, SimW C (q.ups ++ Rsb r0 (lb l) qs) ι' F' S' w' → Fut S w S' w' → (∀ g, g ∉ q.gs → ι' g = ι g) → AVR ι' S' w' q.V u → Sim C ⟨Trb t0 (upB (lb l) i) qs, Rsb r0 (upB (lb l) i) qs⟩ (a.put o.dst u) w' := fun {ι' F' S' u w'} h1 h2 h3 h4 => by
        have hι : ∀ n x, look (Trb t0 (lb l) qs) n = some x → ∀ g, x.has g = true → ι' g = ι g := fun n x hx g hg => h3 g fun hgs => by
          rcases Trb_cases hx with hx | ⟨j, p, e1, e2, e3⟩
          · rw [freshT_look (hnew g hgs).1 hx] at hg
            cases hg
          · subst e3
            rw [(hdone j p e1 e2 g hgs).1] at hg
            cases hg
        refine ⟨ι', F', S', h1.congr hup, fun n x hx => ?_, ?_, ?_⟩
        · cases hqd : q.d with
          | none =>
            rw [hd, hqd]
            have : look (Trb t0 (upB (lb l) i) qs) n = look (Trb t0 (lb l) qs) n := Trb_congr fun j p hj hpd => by
              unfold upB
              by_cases hji : j = i
              · subst hji
                rw [hq] at hj
                cases hj
                rw [hqd] at hpd
                cases hpd
              · rw [if_neg hji]
            rw [this] at hx
            exact hA.ts.fut h2 hι n x hx
          | some d =>
            rw [hd, hqd]
            rw [look_Trb_up hqd hq hbi (fun j p hij hjp hpd => by
              have := hreads d (List.mem_append_right _ (by rw [hd, hqd]; simp)) j p hjp hpd (by omega)
              rw [this]; simp; omega) n] at hx
            exact hA.ts.put h2 hι (by rw [hA.sz]; exact Nat.le_of_ble_eq_true (hN d hqd)) h4 n x hx
        · have := hA.sz
          rw [hd]
          cases q.d <;> simp [Act.put, this]
        · have := hA.df
          rw [hd]
          cases q.d <;> simp [Act.put, this]
      have hknown : Knows (Trb t0 (lb l) qs) (t.filter fun p => (Oper.looksAt ops o).contains p.1) := fun n x hx => by
        have hflt : ∀ (t : List (Nat × AV)) n x, look (t.filter fun p => (Oper.looksAt ops o).contains p.1) n = some x → look t n = some x ∧ n ∈ Oper.looksAt ops o := by
          intro t
          induction t with
          | nil => intro n x h; cases h
          | cons p t iht =>
            obtain ⟨k, y⟩ := p
            intro n x h
            rw [List.filter_cons] at h
            by_cases hk : (Oper.looksAt ops o).contains k = true
            · rw [if_pos hk, look_cons] at h
              rw [look_cons]
              by_cases e : k = n
              · rw [if_pos e] at h ⊢
                exact ⟨h, by rw [← e]; simpa using hk⟩
              · rw [if_neg e] at h ⊢
                exact iht n x h
            · rw [if_neg hk] at h
              obtain ⟨h1, h2⟩ := iht n x h
              rw [look_cons, if_neg fun e => hk (by rw [e]; simpa using h2)]
              exact ⟨h1, h2⟩
        obtain ⟨h1, h2⟩ := hflt t n x hx
        obtain ⟨y, h3, h4⟩ := hkn n x h1
        exact ⟨y, by rw [← hlook n h2]; exact h3, h4⟩
      have hev : ∀ x y, evalA t x = some y → opndOk ops o x = true → AVR ι S w y (a.eval x) := fun x y hx hok => by
        cases x with
        | tmp n =>
          obtain ⟨z, h1, h2⟩ := hkn n y hx
          have hn : n ∈ Oper.looksAt ops o := by simpa [opndOk] using hok
          rw [hlook n hn] at h1
          exact h2 _ _ _ _ (hA.ts.eval (x := .tmp n) h1)
        | const c => cases hx; simp [AVR, Act.eval]
        | global g => cases hx; simp [AVR, Act.eval]
        | func f => cases hx; simp [AVR, Act.eval]
      have hwant : ∀ c, wantedA t ops o = some c → Region.wanted o (yielded ops a.tmps) = c := fun c hcw => by
        cases hg : o.guard with
        | none =>
          unfold wantedA at hcw
          unfold Region.wanted
          simp only [hg] at hcw ⊢
          simpa using hcw
        | some gd =>
          obtain ⟨j, want⟩ := gd
          unfold wantedA at hcw
          simp only [hg] at hcw
          cases hj : ops[j]? with
          | none => simp [hj] at hcw
          | some oj =>
            simp only [hj] at hcw
            cases hdj : oj.dst with
            | none => simp [hdj] at hcw
            | some d =>
              simp only [hdj] at hcw
              cases hld : look t d with
              | none => simp [hld] at hcw
              | some x =>
                cases x <;> simp only [hld] at hcw <;> try (cases hcw)
                rename_i x
                have h1 := hev (.tmp d) _ hld (by simp [opndOk, Oper.looksAt, hg, hj, hdj])
                simp only [AVR] at h1
                have h2 : a.tmps.getD d undef = x := h1
                have : yielded ops a.tmps j = yieldV x := by
                  unfold yielded yieldV
                  simp only [hj, hdj, Option.bind_some]
                  rw [← h2, Array.getD_eq_getD_getElem?]
                  cases hz : a.tmps[d]? with
                  | none => rfl
                  | some z => cases z <;> rfl
                unfold Region.wanted
                simp only [hg, this]
                clear this h2 h1 hld
                cases x <;> simp only at hcw <;> cases hcw
                all_goals first | rfl | (rename_i b0; cases b0 <;> cases want <;> rfl)
      show wpOp C.P ops Q i (wpAny C.P .any ops Q fuel (l.setIfInBounds i true)) a w
      unfold wpOp
      rw [hoi]
      simp only
      rcases hval with ⟨hwt, rd, hrd, hok, hitem⟩ | ⟨hwt, hV, hu0, hg0⟩
      · rw [if_pos (hwant true hwt)]
        left
        have hdo := hitem _ hfoot hfresh ι F S w a.eval hA.sw (fun p hp => hev p.1 p.2 (hrd.all p hp) (hok p hp))
        exact Does.wp (hdo.mono fun u w' hu => by
          obtain ⟨ι', F', S', h1, h2, h3, h4⟩ := hu
          exact go _ _ (after h1 h2 h3 h4))
      · rw [if_neg (by rw [hwant false hwt]; simp)]
        exact go _ _ (after (ι' := ι) (F' := F) (by rw [hu0]; exact hA.sw) (Fut.refl _ _) (fun _ _ => rfl) (by rw [hV]; simp [AVR]))

/-- The plan so far; what is left of it: l. -/
structure PlanL (C : Cx) (ops : Array Oper) (t0 : List (Nat × AV)) (r0 : List (Nat × RK)) (qs : List PIt) (l : List Oper) (σ : VS) (k : List Item) : Prop where
  go : PlanOk C r0 ops t0 qs → ops.toList.drop qs.length = l → Knows (Trb t0 (fun _ => true) qs) σ.t → σ.r = Rsb r0 (fun _ => true) qs → ∃ qs', PlanOk C r0 ops t0 qs' ∧ qs'.length = ops.size ∧ effOk (befL ops.toList []) t0 r0 qs' = true ∧ ∃ t', Knows (Trb t0 (fun _ => true) qs') t' ∧ Run C k ⟨t', Rsb r0 (fun _ => true) qs'⟩
theorem Knows.refl (t : List (Nat × AV)) : Knows t t := fun n x h => ⟨x, h, Le.refl⟩
theorem Knows.cons {t' t : List (Nat × AV)} (h : Knows t' t) (d : Nat) (V : AV) : Knows ((d, V) :: t') ((d, V) :: t) := fun n x hx => by
  rw [look_cons] at hx ⊢
  by_cases e : d = n
  · rw [if_pos e] at hx ⊢; cases hx; exact ⟨_, rfl, Le.refl⟩
  · rw [if_neg e] at hx ⊢; exact h n x hx
section
variable {C : Cx} {k : List Item} {t t0 : List (Nat × AV)} {r r0 : List (Nat × RK)} {ops : Array Oper} {rest : List Oper} {qs : List PIt} {o : Oper}
theorem drop_at {l : List Oper} (h : ops.toList.drop qs.length = o :: l) : ops[qs.length]? = some o ∧ ops.toList.drop (qs.length + 1) = l := by
  have h1 : ops.toList[qs.length]? = some o := by
    have := congrArg (fun l => l[0]?) h
    simpa using this
  refine ⟨by rw [← Array.getElem?_toList]; exact h1, ?_⟩
  have := congrArg List.tail h
  rw [List.tail_drop] at this
  simpa using this
theorem planL_eff {d : Nat} {V : AV} (rd : List (Operand × AV)) (ups : List (Nat × RK)) (ft gs : List Nat) (hok : (rd.all fun q => opndOk ops o q.1) = true) (hg : wantedA t ops o = some true) (hd : o.dst = some d) (hn : Nat.blt d C.N = true) (hr : Rd t rd) (h : ∀ r', (∀ g ∈ ft, look r' g = look r g) → (∀ g ∈ gs, freshR g r' = true) → OpEff C r' o rd V (ups ++ r') gs) (hk : PlanL C ops t0 r0 (⟨some d, V, ups, ft, gs⟩ :: qs) rest ⟨(d, V) :: t, ups ++ r⟩ k) : PlanL C ops t0 r0 qs (o :: rest) ⟨t, r⟩ k := .mk fun hP hl hkn hrr => by
  obtain ⟨h1, h2⟩ := drop_at hl
  simp only at hrr
  subst hrr
  refine hk.go ⟨⟨o, t, h1, hd, fun d' e => by cases e; exact hn, hkn, .inl ⟨hg, rd, hr, fun q hq => List.all_eq_true.1 hok q hq, h⟩⟩, hP⟩ (by simpa using h2) ?_ (by simp [Rsb])
  simp only [Trb, cond_true]
  exact hkn.cons d V
theorem planL_eff0 {V : AV} (rd : List (Operand × AV)) (ups : List (Nat × RK)) (ft gs : List Nat) (hok : (rd.all fun q => opndOk ops o q.1) = true) (hg : wantedA t ops o = some true) (hd : o.dst = none) (hr : Rd t rd) (h : ∀ r', (∀ g ∈ ft, look r' g = look r g) → (∀ g ∈ gs, freshR g r' = true) → OpEff C r' o rd V (ups ++ r') gs) (hk : PlanL C ops t0 r0 (⟨none, V, ups, ft, gs⟩ :: qs) rest ⟨t, ups ++ r⟩ k) : PlanL C ops t0 r0 qs (o :: rest) ⟨t, r⟩ k := .mk fun hP hl hkn hrr => by
  obtain ⟨h1, h2⟩ := drop_at hl
  simp only at hrr
  subst hrr
  refine hk.go ⟨⟨o, t, h1, hd, (fun d' e => by cases e), hkn, .inl ⟨hg, rd, hr, fun q hq => List.all_eq_true.1 hok q hq, h⟩⟩, hP⟩ (by simpa using h2) ?_ (by simp [Rsb])
  simp only [Trb]
  exact hkn
theorem planL_pure {d : Nat} {V : AV} (rd : List (Operand × AV)) (ft : List Nat) (hok : (rd.all fun q => opndOk ops o q.1) = true) (hg : wantedA t ops o = some true) (hd : o.dst = some d) (hn : Nat.blt d C.N = true) (hr : Rd t rd) (h : ∀ r', (∀ g ∈ ft, look r' g = look r g) → OpPure C r' o rd V) (hk : PlanL C ops t0 r0 (⟨some d, V, [], ft, []⟩ :: qs) rest ⟨(d, V) :: t, r⟩ k) : PlanL C ops t0 r0 qs (o :: rest) ⟨t, r⟩ k :=
  planL_eff rd [] ft [] hok hg hd hn hr (fun r' hf _ => (h r' hf).eff) hk
theorem planL_off {d : Nat} (hg : wantedA t ops o = some false) (hd : o.dst = some d) (hn : Nat.blt d C.N = true) (hk : PlanL C ops t0 r0 (⟨some d, .v undef, [], [], []⟩ :: qs) rest ⟨(d, .v undef) :: t, r⟩ k) : PlanL C ops t0 r0 qs (o :: rest) ⟨t, r⟩ k := .mk fun hP hl hkn hrr => by
  obtain ⟨h1, h2⟩ := drop_at hl
  simp only at hrr
  subst hrr
  refine hk.go ⟨⟨o, t, h1, hd, fun d' e => by cases e; exact hn, hkn, .inr ⟨hg, rfl, rfl, rfl⟩⟩, hP⟩ (by simpa using h2) ?_ (by simp [Rsb])
  simp only [Trb, cond_true]
  exact hkn.cons d _
theorem planL_know {l : List Oper} (n : Nat) {x y : AV} (hx : look t n = some x) (hy : Le x y) (h : PlanL C ops t0 r0 qs l ⟨(n, y) :: t, r⟩ k) : PlanL C ops t0 r0 qs l ⟨t, r⟩ k := .mk fun hP hl hkn hrr => h.go hP hl (fun m z hz => by
  rw [look_cons] at hz
  by_cases e : n = m
  · subst e
    rw [if_pos rfl] at hz
    cases hz
    obtain ⟨y', h1, h2⟩ := hkn n x hx
    exact ⟨y', h1, fun ι S w u hu => hy _ _ _ _ (h2 _ _ _ _ hu)⟩
  · rw [if_neg e] at hz
    exact hkn m z hz) hrr
theorem planL_nil (he : effOk (befL ops.toList []) t0 r0 qs = true) (h : Run C k ⟨t, r⟩) : PlanL C ops t0 r0 qs [] ⟨t, r⟩ k := .mk fun hP hl hkn hrr => ⟨qs, hP, by
  have h1 := congrArg List.length hl
  rw [List.length_drop, List.length_nil, Array.length_toList] at h1
  have : ∀ {qs : List PIt}, PlanOk C r0 ops t0 qs → qs.length ≤ ops.size := by
    intro qs h
    cases qs with
    | nil => simp
    | cons p qs =>
      obtain ⟨⟨o, t, h1, _⟩, _⟩ := h
      have := (Array.getElem?_eq_some_iff.1 h1).1
      simp only [List.length_cons]
      omega
  have := this hP
  omega, he, t, hkn, by simp only at hrr; rw [← hrr]; exact h⟩
theorem run_draws {id : Nat} {l : List Oper} (hm : C.P.follows .mixedOrders = true) (hreg : regOk l.toArray = true) (h : PlanL C l.toArray t r [] l ⟨t, r⟩ k) : Run C (.code (.region id l.toArray true) :: k) ⟨t, r⟩ := .mk fun a w hs => by
  obtain ⟨qs, h1, h2, he, t', h3, h4⟩ := h.go trivial (by simp) (Knows.refl _) rfl
  have hend : ∀ a' w', Sim C ⟨Trb t (fun _ => true) qs, Rsb r (fun _ => true) qs⟩ a' w' → Go_ C k a' w' := fun a' w' hs' => by
    obtain ⟨ι, F, S, hA⟩ := hs'
    refine h4.go a' w' ⟨ι, F, S, hA.sw, fun n x hx => ?_, hA.sz, hA.df⟩
    obtain ⟨y, h5, h6⟩ := h3 n x hx
    obtain ⟨u, h7, h8⟩ := hA.ts n y h5
    exact ⟨u, h7, h6 _ _ _ _ h8⟩
  have hnone : ∀ j, j < l.toArray.size → lb (Array.replicate l.toArray.size false) j = false := fun j hj => by
    unfold lb
    rw [Array.getD_eq_getD_getElem?, Array.getElem?_replicate, if_pos hj]; rfl
  refine Go_.of_wp (wp_region_any hm ?_)
  refine plan_all hreg h1 he h2 (fun a' w' hs' => ⟨rfl, hend a' w' hs'⟩) _ _ a _ (by simp) ?_ ?_ ?_
  · have : ((List.range l.toArray.size).filter fun i => !(lb (Array.replicate l.toArray.size false) i)) = List.range l.toArray.size := List.filter_eq_self.2 fun i hi => by
      rw [List.mem_range] at hi
      rw [hnone i hi]; rfl
    rw [this, List.length_range]
  · intro i o ho hb
    exfalso
    have hi := (Array.getElem?_eq_some_iff.1 ho).1
    rw [hnone i hi] at hb
    cases hb
  · obtain ⟨ι, F, S, hA⟩ := hs
    have hb : Below w.heap.size w { w with drawn := w.drawn + 1 } := ⟨rfl, rfl, rfl, Nat.le_refl _, fun _ _ => rfl⟩
    have hF : Fut S w S { w with drawn := w.drawn + 1 } := ⟨fun _ h => h, fun k _ hk => hb.block k hk⟩
    refine ⟨ι, F, S, ?_, fun n x hx => ?_, hA.sz, hA.df⟩
    · rw [Rsb_none fun j hj => hnone j (by omega)]
      exact hA.sw.same hb
    · have : look (Trb t (lb (Array.replicate l.toArray.size false)) qs) n = look t n := look_Trb_skip fun j p hj _ => by
        have hj' := (List.getElem?_eq_some_iff.1 hj).1
        simp at hj'
        exact hnone j (by omega)
      rw [this] at hx
      exact hA.ts.fut hF (fun _ _ _ _ _ => rfl) n x hx
end
end Go.Proofs.Ytjkidecaciomgaa
/- VL, part 12: one step of a plan, kind by kind (printed out of VL9 and VL10 by a small program). -/
namespace Go.Proofs.Ytjkidecaciomgaa
set_option linter.unusedVariables false
set_option linter.unusedSimpArgs false
open Go.RowKit

theorem opnd_mem {ops : Array Oper} {o : Oper} {x : Operand} (h : x ∈ o.op.operands.toList) : opndOk ops o x = true := by
  cases x with
  | tmp n =>
    simp only [opndOk, List.contains_iff_mem, Oper.looksAt, List.mem_append, List.mem_filterMap]
    exact .inl ⟨.tmp n, h, rfl⟩
  | _ => rfl
section
variable {C : Cx} {k : List Item} {t t0 : List (Nat × AV)} {r r0 : List (Nat × RK)} {ops : Array Oper} {rest : List Oper} {qs : List PIt} {o : Oper}
variable {d : Nat} {ty ty' : TypeId} {pos : String} {af : Array Edge} {x y z : Operand} {V : AV} {g : Nat} {gd : Option (Nat × Bool)}
/-- Not nil, as long as ft's resources stay. -/
def NNf (ft : List Nat) (r : List (Nat × RK)) (X : AV) : Prop := ∀ r', (∀ g ∈ ft, look r' g = look r g) → NN r' X
theorem NNf.adr {l : List AV} : NNf [] r (.sem (adrS l)) := fun _ _ => NN.adr
theorem NNf.ptr {off : Nat} : NNf [] r (.ptr g off) := fun _ _ => NN.ptr
theorem NNf.box {T : TypeId} {l : List AV} (hg : look r g = some (.box T l)) : NNf [g] r (.res g) := fun _ hF => NN.box ((hF g (List.mem_singleton.2 rfl)).trans hg)
theorem planL_0 (hg : wantedA t ops o = some true) (hd : o.dst = some d) (hn : Nat.blt d C.N = true) (ft : List Nat) (h : ∀ r', (∀ g ∈ ft, look r' g = look r g) → OpPure C r' o [] V) (hk : PlanL C ops t0 r0 (⟨some d, V, [], ft, []⟩ :: qs) rest ⟨(d, V) :: t, r⟩ k) : PlanL C ops t0 r0 qs (o :: rest) ⟨t, r⟩ k := planL_pure [] ft rfl hg hd hn trivial h hk
theorem planL_1 {X : AV} (hg : wantedA t ops o = some true) (hd : o.dst = some d) (hn : Nat.blt d C.N = true) (hx : evalA t x = some X) (hm : x ∈ o.op.operands.toList) (ft : List Nat) (h : ∀ r', (∀ g ∈ ft, look r' g = look r g) → OpPure C r' o [(x, X)] V) (hk : PlanL C ops t0 r0 (⟨some d, V, [], ft, []⟩ :: qs) rest ⟨(d, V) :: t, r⟩ k) : PlanL C ops t0 r0 qs (o :: rest) ⟨t, r⟩ k := planL_pure _ ft (by simp [opnd_mem hm]) hg hd hn (rd1 hx) h hk
theorem planL_2 {X Y : AV} (hg : wantedA t ops o = some true) (hd : o.dst = some d) (hn : Nat.blt d C.N = true) (hx : evalA t x = some X) (hy : evalA t y = some Y) (hm : x ∈ o.op.operands.toList) (hm' : y ∈ o.op.operands.toList) (ft : List Nat) (h : ∀ r', (∀ g ∈ ft, look r' g = look r g) → OpPure C r' o [(x, X), (y, Y)] V) (hk : PlanL C ops t0 r0 (⟨some d, V, [], ft, []⟩ :: qs) rest ⟨(d, V) :: t, r⟩ k) : PlanL C ops t0 r0 qs (o :: rest) ⟨t, r⟩ k := planL_pure _ ft (by simp [opnd_mem hm, opnd_mem hm']) hg hd hn (rd2 hx hy) h hk
theorem zip_mem {xs : List Operand} {l : List AV} {q : Operand × AV} (h : q ∈ xs.zip l) : q.1 ∈ xs := (List.of_mem_zip h).1
theorem planL_l {xs : List Operand} {l : List AV} (hg : wantedA t ops o = some true) (hd : o.dst = some d) (hn : Nat.blt d C.N = true) (hx : Rd t (xs.zip l)) (hm : ∀ x ∈ xs, x ∈ o.op.operands.toList) (ft : List Nat) (h : ∀ r', (∀ g ∈ ft, look r' g = look r g) → OpPure C r' o (xs.zip l) V) (hk : PlanL C ops t0 r0 (⟨some d, V, [], ft, []⟩ :: qs) rest ⟨(d, V) :: t, r⟩ k) : PlanL C ops t0 r0 qs (o :: rest) ⟨t, r⟩ k := planL_pure _ ft (List.all_eq_true.2 fun q hq => opnd_mem (hm _ (zip_mem hq))) hg hd hn hx h hk
theorem planL_f {f : FuncId} {xs : List Operand} {l : List AV} (hg : wantedA t ops o = some true) (hd : o.dst = some d) (hn : Nat.blt d C.N = true) (hx : Rd t (xs.zip l)) (hm : ∀ x ∈ xs, x ∈ o.op.operands.toList) (ft : List Nat) (h : ∀ r', (∀ g ∈ ft, look r' g = look r g) → OpPure C r' o ((.func f, .v (.func (.func f) #[] #[])) :: xs.zip l) V) (hk : PlanL C ops t0 r0 (⟨some d, V, [], ft, []⟩ :: qs) rest ⟨(d, V) :: t, r⟩ k) : PlanL C ops t0 r0 qs (o :: rest) ⟨t, r⟩ k := planL_pure _ ft (by
  rw [List.all_cons, Bool.and_eq_true]
  exact ⟨rfl, List.all_eq_true.2 fun q hq => opnd_mem (hm _ (zip_mem hq))⟩) hg hd hn (rdC hx) h hk
theorem zipRd_mem : ∀ {ps : List (Nat × Operand)} {l : List AV} {q : Operand × AV}, q ∈ zipRd ps l → q.1 ∈ opsOf ps
  | [], l, q, h => by cases l <;> cases h
  | p :: ps, [], q, h => by cases h
  | p :: ps, a :: l, q, h => by
    rcases List.mem_cons.1 h with rfl | h
    · exact List.mem_cons_self
    · exact List.mem_cons_of_mem _ (zipRd_mem h)
theorem planL_b {ps : List (Nat × Operand)} {l : List AV} (hg : wantedA t ops o = some true) (hd : o.dst = some d) (hn : Nat.blt d C.N = true) (hx : Rd t (zipRd ps l)) (hm : ∀ x ∈ opsOf ps, x ∈ o.op.operands.toList) (ft : List Nat) (h : ∀ r', (∀ g ∈ ft, look r' g = look r g) → OpPure C r' o (zipRd ps l) V) (hk : PlanL C ops t0 r0 (⟨some d, V, [], ft, []⟩ :: qs) rest ⟨(d, V) :: t, r⟩ k) : PlanL C ops t0 r0 qs (o :: rest) ⟨t, r⟩ k := planL_pure _ ft (List.all_eq_true.2 fun q hq => opnd_mem (hm _ (zipRd_mem hq))) hg hd hn hx h hk
theorem p_off {op : Op} {gd : Nat × Bool} (hg : wantedA t ops ⟨some d, op, ty, pos, af, some gd⟩ = some false) (hn : Nat.blt d C.N = true) (hk : PlanL C ops t0 r0 (⟨some d, .v undef, [], [], []⟩ :: qs) rest ⟨(d, .v undef) :: t, r⟩ k) : PlanL C ops t0 r0 qs (⟨some d, op, ty, pos, af, some gd⟩ :: rest) ⟨t, r⟩ k := planL_off hg rfl hn hk
/-- A bool that is known. -/
theorem p_is (n : Nat) {l : List Oper} {b : Bool} (c : Bool) (hx : look t n = some (.v (.bool b))) (hb : b = c) (h : PlanL C ops t0 r0 qs l ⟨(n, .v (.bool c)) :: t, r⟩ k) : PlanL C ops t0 r0 qs l ⟨t, r⟩ k := planL_know n hx (by rw [hb]; exact Le.refl) h
section
variable {kd : IntKind} {a b : Int} {t1 t2 : TypeId}

theorem p_move (hx : evalA t x = some V) (hn : Nat.blt d C.N = true) (hgd : wantedA t ops ⟨some d, .move x, ty, pos, af, gd⟩ = some true) (hk : PlanL C ops t0 r0 (⟨some d, V, [], [], []⟩ :: qs) rest ⟨(d, V) :: t, r⟩ k) : PlanL C ops t0 r0 qs (⟨some d, .move x, ty, pos, af, gd⟩ :: rest) ⟨t, r⟩ k := planL_1 hgd rfl hn hx (by simp [Op.operands, Call.operands]) [] (fun r' _ => (op_move rfl)) hk
theorem p_assign (hx : evalA t x = some V) (hn : Nat.blt d C.N = true) (hgd : wantedA t ops ⟨some d, .assign x, ty, pos, af, gd⟩ = some true) (hk : PlanL C ops t0 r0 (⟨some d, V, [], [], []⟩ :: qs) rest ⟨(d, V) :: t, r⟩ k) : PlanL C ops t0 r0 qs (⟨some d, .assign x, ty, pos, af, gd⟩ :: rest) ⟨t, r⟩ k := planL_1 hgd rfl hn hx (by simp [Op.operands, Call.operands]) [] (fun r' _ => (op_assign rfl)) hk
theorem p_pick_t (hx : evalA t x = some (.v (.bool true))) (hy : evalA t y = some V) (hn : Nat.blt d C.N = true) (hgd : wantedA t ops ⟨some d, .pick x y z, ty, pos, af, gd⟩ = some true) (hk : PlanL C ops t0 r0 (⟨some d, V, [], [], []⟩ :: qs) rest ⟨(d, V) :: t, r⟩ k) : PlanL C ops t0 r0 qs (⟨some d, .pick x y z, ty, pos, af, gd⟩ :: rest) ⟨t, r⟩ k := planL_2 hgd rfl hn hx hy (by simp [Op.operands, Call.operands]) (by simp [Op.operands, Call.operands]) [] (fun r' _ => (op_pick_t rfl)) hk
theorem p_pick_f (hx : evalA t x = some (.v (.bool false))) (hz : evalA t z = some V) (hn : Nat.blt d C.N = true) (hgd : wantedA t ops ⟨some d, .pick x y z, ty, pos, af, gd⟩ = some true) (hk : PlanL C ops t0 r0 (⟨some d, V, [], [], []⟩ :: qs) rest ⟨(d, V) :: t, r⟩ k) : PlanL C ops t0 r0 qs (⟨some d, .pick x y z, ty, pos, af, gd⟩ :: rest) ⟨t, r⟩ k := planL_2 hgd rfl hn hx hz (by simp [Op.operands, Call.operands]) (by simp [Op.operands, Call.operands]) [] (fun r' _ => (op_pick_f rfl)) hk
theorem p_extract {l : List AV} {i : Nat} (hx : evalA t x = some (.tup l)) (hi : l[i]? = some V) (hn : Nat.blt d C.N = true) (hgd : wantedA t ops ⟨some d, .extract x i, ty, pos, af, gd⟩ = some true) (hk : PlanL C ops t0 r0 (⟨some d, V, [], [], []⟩ :: qs) rest ⟨(d, V) :: t, r⟩ k) : PlanL C ops t0 r0 qs (⟨some d, .extract x i, ty, pos, af, gd⟩ :: rest) ⟨t, r⟩ k := planL_1 hgd rfl hn hx (by simp [Op.operands, Call.operands]) [] (fun r' _ => (op_extract rfl hi)) hk
theorem p_not {b : Bool} (hx : evalA t x = some (.v (.bool b))) (hn : Nat.blt d C.N = true) (hgd : wantedA t ops ⟨some d, .unOp .not ty' x, ty, pos, af, gd⟩ = some true) (hk : PlanL C ops t0 r0 (⟨some d, .v (.bool (!b)), [], [], []⟩ :: qs) rest ⟨(d, .v (.bool (!b))) :: t, r⟩ k) : PlanL C ops t0 r0 qs (⟨some d, .unOp .not ty' x, ty, pos, af, gd⟩ :: rest) ⟨t, r⟩ k := planL_1 hgd rfl hn hx (by simp [Op.operands, Call.operands]) [] (fun r' _ => (op_not rfl)) hk
theorem p_add (hx : evalA t x = some (.v (.int .i64 a))) (hy : evalA t y = some (.v (.int .i64 b))) (hn : Nat.blt d C.N = true) (h : -9223372036854775808 ≤ a + b ∧ a + b ≤ 9223372036854775807) (hgd : wantedA t ops ⟨some d, .binOp .add t1 x y t2, ty, pos, af, gd⟩ = some true) (hk : PlanL C ops t0 r0 (⟨some d, .v (.int .i64 (a + b)), [], [], []⟩ :: qs) rest ⟨(d, .v (.int .i64 (a + b))) :: t, r⟩ k) : PlanL C ops t0 r0 qs (⟨some d, .binOp .add t1 x y t2, ty, pos, af, gd⟩ :: rest) ⟨t, r⟩ k := planL_2 hgd rfl hn hx hy (by simp [Op.operands, Call.operands]) (by simp [Op.operands, Call.operands]) [] (fun r' _ => (by have h1 := op_add (C := C) (r := r') (o := ⟨some d, .binOp .add t1 x y t2, ty, pos, af, gd⟩) (k := .i64) (a := a) (b := b) rfl; rwa [IntWalk.i64_in _ h] at h1)) hk
theorem p_sub (hx : evalA t x = some (.v (.int .i64 a))) (hy : evalA t y = some (.v (.int .i64 b))) (hn : Nat.blt d C.N = true) (h : -9223372036854775808 ≤ a - b ∧ a - b ≤ 9223372036854775807) (hgd : wantedA t ops ⟨some d, .binOp .sub t1 x y t2, ty, pos, af, gd⟩ = some true) (hk : PlanL C ops t0 r0 (⟨some d, .v (.int .i64 (a - b)), [], [], []⟩ :: qs) rest ⟨(d, .v (.int .i64 (a - b))) :: t, r⟩ k) : PlanL C ops t0 r0 qs (⟨some d, .binOp .sub t1 x y t2, ty, pos, af, gd⟩ :: rest) ⟨t, r⟩ k := planL_2 hgd rfl hn hx hy (by simp [Op.operands, Call.operands]) (by simp [Op.operands, Call.operands]) [] (fun r' _ => (by have h1 := op_sub (C := C) (r := r') (o := ⟨some d, .binOp .sub t1 x y t2, ty, pos, af, gd⟩) (k := .i64) (a := a) (b := b) rfl; rwa [IntWalk.i64_in _ h] at h1)) hk
theorem p_mul (hx : evalA t x = some (.v (.int .i64 a))) (hy : evalA t y = some (.v (.int .i64 b))) (hn : Nat.blt d C.N = true) (h : -9223372036854775808 ≤ a * b ∧ a * b ≤ 9223372036854775807) (hgd : wantedA t ops ⟨some d, .binOp .mul t1 x y t2, ty, pos, af, gd⟩ = some true) (hk : PlanL C ops t0 r0 (⟨some d, .v (.int .i64 (a * b)), [], [], []⟩ :: qs) rest ⟨(d, .v (.int .i64 (a * b))) :: t, r⟩ k) : PlanL C ops t0 r0 qs (⟨some d, .binOp .mul t1 x y t2, ty, pos, af, gd⟩ :: rest) ⟨t, r⟩ k := planL_2 hgd rfl hn hx hy (by simp [Op.operands, Call.operands]) (by simp [Op.operands, Call.operands]) [] (fun r' _ => (by have h1 := op_mul (C := C) (r := r') (o := ⟨some d, .binOp .mul t1 x y t2, ty, pos, af, gd⟩) (k := .i64) (a := a) (b := b) rfl; rwa [IntWalk.i64_in _ h] at h1)) hk
theorem p_quo (hx : evalA t x = some (.v (.int .i64 a))) (hy : evalA t y = some (.v (.int .i64 b))) (hn : Nat.blt d C.N = true) (h : 0 ≤ a ∧ 0 < b ∧ a / b ≤ 9223372036854775807) (hgd : wantedA t ops ⟨some d, .binOp .quo t1 x y t2, ty, pos, af, gd⟩ = some true) (hk : PlanL C ops t0 r0 (⟨some d, .v (.int .i64 (a / b)), [], [], []⟩ :: qs) rest ⟨(d, .v (.int .i64 (a / b))) :: t, r⟩ k) : PlanL C ops t0 r0 qs (⟨some d, .binOp .quo t1 x y t2, ty, pos, af, gd⟩ :: rest) ⟨t, r⟩ k := planL_2 hgd rfl hn hx hy (by simp [Op.operands, Call.operands]) (by simp [Op.operands, Call.operands]) [] (fun r' _ => by
  have h1 := op_quo (C := C) (r := r') (o := ⟨some d, .binOp .quo t1 x y t2, ty, pos, af, gd⟩) (k := .i64) (a := a) (b := b) rfl h.1 h.2.1
  have h0 : 0 ≤ a / b := Int.ediv_nonneg h.1 (by omega)
  rwa [IntWalk.i64_in _ ⟨by omega, h.2.2⟩] at h1) hk
theorem p_rem (hx : evalA t x = some (.v (.int kd a))) (hy : evalA t y = some (.v (.int kd b))) (hn : Nat.blt d C.N = true) (h : 0 ≤ a ∧ 0 < b) (hgd : wantedA t ops ⟨some d, .binOp .rem t1 x y t2, ty, pos, af, gd⟩ = some true) (hk : PlanL C ops t0 r0 (⟨some d, .v (.int kd (a % b)), [], [], []⟩ :: qs) rest ⟨(d, .v (.int kd (a % b))) :: t, r⟩ k) : PlanL C ops t0 r0 qs (⟨some d, .binOp .rem t1 x y t2, ty, pos, af, gd⟩ :: rest) ⟨t, r⟩ k := planL_2 hgd rfl hn hx hy (by simp [Op.operands, Call.operands]) (by simp [Op.operands, Call.operands]) [] (fun r' _ => (op_rem rfl h.1 h.2)) hk
theorem p_eql (hx : evalA t x = some (.v (.int kd a))) (hy : evalA t y = some (.v (.int kd b))) (hn : Nat.blt d C.N = true) (hgd : wantedA t ops ⟨some d, .binOp .eql t1 x y t2, ty, pos, af, gd⟩ = some true) (hk : PlanL C ops t0 r0 (⟨some d, .v (.bool (a == b)), [], [], []⟩ :: qs) rest ⟨(d, .v (.bool (a == b))) :: t, r⟩ k) : PlanL C ops t0 r0 qs (⟨some d, .binOp .eql t1 x y t2, ty, pos, af, gd⟩ :: rest) ⟨t, r⟩ k := planL_2 hgd rfl hn hx hy (by simp [Op.operands, Call.operands]) (by simp [Op.operands, Call.operands]) [] (fun r' _ => (op_eql rfl)) hk
theorem p_neq (hx : evalA t x = some (.v (.int kd a))) (hy : evalA t y = some (.v (.int kd b))) (hn : Nat.blt d C.N = true) (hgd : wantedA t ops ⟨some d, .binOp .neq t1 x y t2, ty, pos, af, gd⟩ = some true) (hk : PlanL C ops t0 r0 (⟨some d, .v (.bool (a != b)), [], [], []⟩ :: qs) rest ⟨(d, .v (.bool (a != b))) :: t, r⟩ k) : PlanL C ops t0 r0 qs (⟨some d, .binOp .neq t1 x y t2, ty, pos, af, gd⟩ :: rest) ⟨t, r⟩ k := planL_2 hgd rfl hn hx hy (by simp [Op.operands, Call.operands]) (by simp [Op.operands, Call.operands]) [] (fun r' _ => (op_neq rfl)) hk
theorem p_lss (hx : evalA t x = some (.v (.int kd a))) (hy : evalA t y = some (.v (.int kd b))) (hn : Nat.blt d C.N = true) (hgd : wantedA t ops ⟨some d, .binOp .lss t1 x y t2, ty, pos, af, gd⟩ = some true) (hk : PlanL C ops t0 r0 (⟨some d, .v (.bool (decide (a < b))), [], [], []⟩ :: qs) rest ⟨(d, .v (.bool (decide (a < b)))) :: t, r⟩ k) : PlanL C ops t0 r0 qs (⟨some d, .binOp .lss t1 x y t2, ty, pos, af, gd⟩ :: rest) ⟨t, r⟩ k := planL_2 hgd rfl hn hx hy (by simp [Op.operands, Call.operands]) (by simp [Op.operands, Call.operands]) [] (fun r' _ => (op_lss rfl)) hk
theorem p_leq (hx : evalA t x = some (.v (.int kd a))) (hy : evalA t y = some (.v (.int kd b))) (hn : Nat.blt d C.N = true) (hgd : wantedA t ops ⟨some d, .binOp .leq t1 x y t2, ty, pos, af, gd⟩ = some true) (hk : PlanL C ops t0 r0 (⟨some d, .v (.bool (decide (a ≤ b))), [], [], []⟩ :: qs) rest ⟨(d, .v (.bool (decide (a ≤ b)))) :: t, r⟩ k) : PlanL C ops t0 r0 qs (⟨some d, .binOp .leq t1 x y t2, ty, pos, af, gd⟩ :: rest) ⟨t, r⟩ k := planL_2 hgd rfl hn hx hy (by simp [Op.operands, Call.operands]) (by simp [Op.operands, Call.operands]) [] (fun r' _ => (op_leq rfl)) hk
theorem p_gtr (hx : evalA t x = some (.v (.int kd a))) (hy : evalA t y = some (.v (.int kd b))) (hn : Nat.blt d C.N = true) (hgd : wantedA t ops ⟨some d, .binOp .gtr t1 x y t2, ty, pos, af, gd⟩ = some true) (hk : PlanL C ops t0 r0 (⟨some d, .v (.bool (decide (a > b))), [], [], []⟩ :: qs) rest ⟨(d, .v (.bool (decide (a > b)))) :: t, r⟩ k) : PlanL C ops t0 r0 qs (⟨some d, .binOp .gtr t1 x y t2, ty, pos, af, gd⟩ :: rest) ⟨t, r⟩ k := planL_2 hgd rfl hn hx hy (by simp [Op.operands, Call.operands]) (by simp [Op.operands, Call.operands]) [] (fun r' _ => (op_gtr rfl)) hk
theorem p_geq (hx : evalA t x = some (.v (.int kd a))) (hy : evalA t y = some (.v (.int kd b))) (hn : Nat.blt d C.N = true) (hgd : wantedA t ops ⟨some d, .binOp .geq t1 x y t2, ty, pos, af, gd⟩ = some true) (hk : PlanL C ops t0 r0 (⟨some d, .v (.bool (decide (a ≥ b))), [], [], []⟩ :: qs) rest ⟨(d, .v (.bool (decide (a ≥ b)))) :: t, r⟩ k) : PlanL C ops t0 r0 qs (⟨some d, .binOp .geq t1 x y t2, ty, pos, af, gd⟩ :: rest) ⟨t, r⟩ k := planL_2 hgd rfl hn hx hy (by simp [Op.operands, Call.operands]) (by simp [Op.operands, Call.operands]) [] (fun r' _ => (op_geq rfl)) hk
theorem p_eqlB {p q : Bool} (ht : C.P.underlying t1 = some .bool) (hx : evalA t x = some (.v (.bool p))) (hy : evalA t y = some (.v (.bool q))) (hn : Nat.blt d C.N = true) (hgd : wantedA t ops ⟨some d, .binOp .eql t1 x y t2, ty, pos, af, gd⟩ = some true) (hk : PlanL C ops t0 r0 (⟨some d, .v (.bool (p == q)), [], [], []⟩ :: qs) rest ⟨(d, .v (.bool (p == q))) :: t, r⟩ k) : PlanL C ops t0 r0 qs (⟨some d, .binOp .eql t1 x y t2, ty, pos, af, gd⟩ :: rest) ⟨t, r⟩ k := planL_2 hgd rfl hn hx hy (by simp [Op.operands, Call.operands]) (by simp [Op.operands, Call.operands]) [] (fun r' _ => (op_eql_bool rfl ht)) hk
theorem p_neqB {p q : Bool} (ht : C.P.underlying t1 = some .bool) (hx : evalA t x = some (.v (.bool p))) (hy : evalA t y = some (.v (.bool q))) (hn : Nat.blt d C.N = true) (hgd : wantedA t ops ⟨some d, .binOp .neq t1 x y t2, ty, pos, af, gd⟩ = some true) (hk : PlanL C ops t0 r0 (⟨some d, .v (.bool (p != q)), [], [], []⟩ :: qs) rest ⟨(d, .v (.bool (p != q))) :: t, r⟩ k) : PlanL C ops t0 r0 qs (⟨some d, .binOp .neq t1 x y t2, ty, pos, af, gd⟩ :: rest) ⟨t, r⟩ k := planL_2 hgd rfl hn hx hy (by simp [Op.operands, Call.operands]) (by simp [Op.operands, Call.operands]) [] (fun r' _ => (op_neq_bool rfl ht)) hk
theorem p_eqlS {p q : ByteArray} (hx : evalA t x = some (.v (.string p))) (hy : evalA t y = some (.v (.string q))) (hn : Nat.blt d C.N = true) (hgd : wantedA t ops ⟨some d, .binOp .eql t1 x y t2, ty, pos, af, gd⟩ = some true) (hk : PlanL C ops t0 r0 (⟨some d, .v (.bool (decide (p = q))), [], [], []⟩ :: qs) rest ⟨(d, .v (.bool (decide (p = q)))) :: t, r⟩ k) : PlanL C ops t0 r0 qs (⟨some d, .binOp .eql t1 x y t2, ty, pos, af, gd⟩ :: rest) ⟨t, r⟩ k := planL_2 hgd rfl hn hx hy (by simp [Op.operands, Call.operands]) (by simp [Op.operands, Call.operands]) [] (fun r' _ => (op_eql_str rfl)) hk
theorem p_neqS {p q : ByteArray} (hx : evalA t x = some (.v (.string p))) (hy : evalA t y = some (.v (.string q))) (hn : Nat.blt d C.N = true) (hgd : wantedA t ops ⟨some d, .binOp .neq t1 x y t2, ty, pos, af, gd⟩ = some true) (hk : PlanL C ops t0 r0 (⟨some d, .v (.bool (!decide (p = q))), [], [], []⟩ :: qs) rest ⟨(d, .v (.bool (!decide (p = q)))) :: t, r⟩ k) : PlanL C ops t0 r0 qs (⟨some d, .binOp .neq t1 x y t2, ty, pos, af, gd⟩ :: rest) ⟨t, r⟩ k := planL_2 hgd rfl hn hx hy (by simp [Op.operands, Call.operands]) (by simp [Op.operands, Call.operands]) [] (fun r' _ => (op_neq_str rfl)) hk
theorem p_eqlNil {X : AV} (ht : isPtr C.P t1 = true) (hx : evalA t x = some X) {ft : List Nat} (hX : NNf ft r X) (hn : Nat.blt d C.N = true) (hgd : wantedA t ops ⟨some d, .binOp .eql t1 x (.const (.pointer none)) t2, ty, pos, af, gd⟩ = some true) (hk : PlanL C ops t0 r0 (⟨some d, .v (.bool false), [], ft, []⟩ :: qs) rest ⟨(d, .v (.bool false)) :: t, r⟩ k) : PlanL C ops t0 r0 qs (⟨some d, .binOp .eql t1 x (.const (.pointer none)) t2, ty, pos, af, gd⟩ :: rest) ⟨t, r⟩ k := planL_2 hgd rfl hn hx (rfl : evalA t (.const (.pointer none)) = some (.v (.pointer none))) (by simp [Op.operands, Call.operands]) (by simp [Op.operands, Call.operands]) ft (fun r' hF => (op_eql_nil rfl ht (hX r' hF))) hk
theorem p_neqNil {X : AV} (ht : isPtr C.P t1 = true) (hx : evalA t x = some X) {ft : List Nat} (hX : NNf ft r X) (hn : Nat.blt d C.N = true) (hgd : wantedA t ops ⟨some d, .binOp .neq t1 x (.const (.pointer none)) t2, ty, pos, af, gd⟩ = some true) (hk : PlanL C ops t0 r0 (⟨some d, .v (.bool true), [], ft, []⟩ :: qs) rest ⟨(d, .v (.bool true)) :: t, r⟩ k) : PlanL C ops t0 r0 qs (⟨some d, .binOp .neq t1 x (.const (.pointer none)) t2, ty, pos, af, gd⟩ :: rest) ⟨t, r⟩ k := planL_2 hgd rfl hn hx (rfl : evalA t (.const (.pointer none)) = some (.v (.pointer none))) (by simp [Op.operands, Call.operands]) (by simp [Op.operands, Call.operands]) ft (fun r' hF => (op_neq_nil rfl ht (hX r' hF))) hk
theorem p_nilEql (ht : isPtr C.P t1 = true) (hx : evalA t x = some (.v (.pointer none))) (hn : Nat.blt d C.N = true) (hgd : wantedA t ops ⟨some d, .binOp .eql t1 x (.const (.pointer none)) t2, ty, pos, af, gd⟩ = some true) (hk : PlanL C ops t0 r0 (⟨some d, .v (.bool true), [], [], []⟩ :: qs) rest ⟨(d, .v (.bool true)) :: t, r⟩ k) : PlanL C ops t0 r0 qs (⟨some d, .binOp .eql t1 x (.const (.pointer none)) t2, ty, pos, af, gd⟩ :: rest) ⟨t, r⟩ k := planL_2 hgd rfl hn hx (rfl : evalA t (.const (.pointer none)) = some (.v (.pointer none))) (by simp [Op.operands, Call.operands]) (by simp [Op.operands, Call.operands]) [] (fun r' _ => (op_nil_eql rfl ht)) hk
theorem p_nilNeq (ht : isPtr C.P t1 = true) (hx : evalA t x = some (.v (.pointer none))) (hn : Nat.blt d C.N = true) (hgd : wantedA t ops ⟨some d, .binOp .neq t1 x (.const (.pointer none)) t2, ty, pos, af, gd⟩ = some true) (hk : PlanL C ops t0 r0 (⟨some d, .v (.bool false), [], [], []⟩ :: qs) rest ⟨(d, .v (.bool false)) :: t, r⟩ k) : PlanL C ops t0 r0 qs (⟨some d, .binOp .neq t1 x (.const (.pointer none)) t2, ty, pos, af, gd⟩ :: rest) ⟨t, r⟩ k := planL_2 hgd rfl hn hx (rfl : evalA t (.const (.pointer none)) = some (.v (.pointer none))) (by simp [Op.operands, Call.operands]) (by simp [Op.operands, Call.operands]) [] (fun r' _ => (op_nil_neq rfl ht)) hk
theorem p_nilCheck (hx : evalA t x = some V) {ft : List Nat} (hX : NNf ft r V) (hn : Nat.blt d C.N = true) (hgd : wantedA t ops ⟨some d, .nilCheck x, ty, pos, af, gd⟩ = some true) (hk : PlanL C ops t0 r0 (⟨some d, V, [], ft, []⟩ :: qs) rest ⟨(d, V) :: t, r⟩ k) : PlanL C ops t0 r0 qs (⟨some d, .nilCheck x, ty, pos, af, gd⟩ :: rest) ⟨t, r⟩ k := planL_1 hgd rfl hn hx (by simp [Op.operands, Call.operands]) ft (fun r' hF => (op_nilCheck rfl (hX r' hF))) hk
theorem p_fldP {j off : Nat} {fl : FldI} (hf : fldI C.P ty' j = some fl) (h0 : Nat.beq fl.size 0 = false) (hx : evalA t x = some (.ptr g off)) (hn : Nat.blt d C.N = true) (hgd : wantedA t ops ⟨some d, .fieldAddr ty' x j, ty, pos, af, gd⟩ = some true) (hk : PlanL C ops t0 r0 (⟨some d, .ptr g (off + fl.off), [], [], []⟩ :: qs) rest ⟨(d, .ptr g (off + fl.off)) :: t, r⟩ k) : PlanL C ops t0 r0 qs (⟨some d, .fieldAddr ty' x j, ty, pos, af, gd⟩ :: rest) ⟨t, r⟩ k := planL_1 hgd rfl hn hx (by simp [Op.operands, Call.operands]) [] (fun r' _ => (op_fieldAddr_ptr rfl hf (fun e => by rw [e] at h0; cases h0))) hk
theorem p_fldA {j : Nat} {l : List AV} {fl : FldI} (hf : fldI C.P ty' j = some fl) (h0 : Nat.beq fl.size 0 = false) (hx : evalA t x = some (.sem (adrS l))) (hn : Nat.blt d C.N = true) (hgd : wantedA t ops ⟨some d, .fieldAddr ty' x j, ty, pos, af, gd⟩ = some true) (hk : PlanL C ops t0 r0 (⟨some d, .sem (adrS (l.drop fl.off)), [], [], []⟩ :: qs) rest ⟨(d, .sem (adrS (l.drop fl.off))) :: t, r⟩ k) : PlanL C ops t0 r0 qs (⟨some d, .fieldAddr ty' x j, ty, pos, af, gd⟩ :: rest) ⟨t, r⟩ k := planL_1 hgd rfl hn hx (by simp [Op.operands, Call.operands]) [] (fun r' _ => (op_fieldAddr_adr rfl hf (fun e => by rw [e] at h0; cases h0))) hk
theorem p_loadB {T' : TypeId} {l : List AV} {off : Nat} {i : TyI} (hi : tyI C.P ty' = some i) (h1 : oneOk i = true) (hx : evalA t x = some (.ptr g off)) (hg : look r g = some (.box T' l)) (hle : Nat.ble (off + i.size) l.length = true) (hp : packA i.agg ((l.drop off).take i.size) = some V) (hn : Nat.blt d C.N = true) (hgd : wantedA t ops ⟨some d, .load ty' x, ty, pos, af, gd⟩ = some true) (hk : PlanL C ops t0 r0 (⟨some d, V, [], [g], []⟩ :: qs) rest ⟨(d, V) :: t, r⟩ k) : PlanL C ops t0 r0 qs (⟨some d, .load ty' x, ty, pos, af, gd⟩ :: rest) ⟨t, r⟩ k := planL_1 hgd rfl hn hx (by simp [Op.operands, Call.operands]) [g] (fun r' hF => (op_load_box rfl ((hF g (List.mem_singleton.2 rfl)).trans hg) hi (oneOk_spec h1) hle hp)) hk
theorem p_loadA {l : List AV} {i : TyI} (hi : tyI C.P ty' = some i) (h1 : oneOk i = true) (hx : evalA t x = some (.sem (adrS l))) (hle : Nat.ble i.size l.length = true) (hp : packA i.agg (l.take i.size) = some V) (hl : AV.leaves l = true) (hn : Nat.blt d C.N = true) (hgd : wantedA t ops ⟨some d, .load ty' x, ty, pos, af, gd⟩ = some true) (hk : PlanL C ops t0 r0 (⟨some d, V, [], [], []⟩ :: qs) rest ⟨(d, V) :: t, r⟩ k) : PlanL C ops t0 r0 qs (⟨some d, .load ty' x, ty, pos, af, gd⟩ :: rest) ⟨t, r⟩ k := planL_1 hgd rfl hn hx (by simp [Op.operands, Call.operands]) [] (fun r' _ => (op_load_adr rfl hi (oneOk_spec h1) hle hp hl)) hk
theorem p_loadO {α : Type} {e : TypeId} {E : Enc α} {xs : List α} {off j f : Nat} {v : α} {i : TyI} (hi : tyI C.P ty' = some i) (h1 : oneOk i = true) (hx : evalA t x = some (.ptr g off)) (hg : look r g = some (.obj (ownS e E xs))) (hoff : off = j * E.sz + f) (hj : xs[j]? = some v) (hle : f + i.size ≤ E.sz) (hp : packA i.agg (((E.f v).drop f).take i.size) = some V) (hn : Nat.blt d C.N = true) (hgd : wantedA t ops ⟨some d, .load ty' x, ty, pos, af, gd⟩ = some true) (hk : PlanL C ops t0 r0 (⟨some d, V, [], [g], []⟩ :: qs) rest ⟨(d, V) :: t, r⟩ k) : PlanL C ops t0 r0 qs (⟨some d, .load ty' x, ty, pos, af, gd⟩ :: rest) ⟨t, r⟩ k := planL_1 hgd rfl hn hx (by simp [Op.operands, Call.operands]) [g] (fun r' hF => (op_load_own rfl ((hF g (List.mem_singleton.2 rfl)).trans hg) hoff hj hi (oneOk_spec h1) hle hp)) hk
theorem p_idxL {α : Type} {E : Enc α} {xs : List α} {kd : IntKind} {m : Int} {el : α} {e : TypeId} {i : TyI} (hE : sliceE C.P ty' = some e) (hi : tyI C.P e = some i) (hx : evalA t x = some (.sem (listS E xs))) (hy : evalA t y = some (.v (.int kd m))) (hsz : i.size = E.sz) (hne : Nat.blt 0 E.sz = true) (h0 : 0 ≤ m) (hel : xs[m.toNat]? = some el) (hn : Nat.blt d C.N = true) (hgd : wantedA t ops ⟨some d, .indexAddr ty' x y, ty, pos, af, gd⟩ = some true) (hk : PlanL C ops t0 r0 (⟨some d, .sem (adrS (E.f el)), [], [], []⟩ :: qs) rest ⟨(d, .sem (adrS (E.f el))) :: t, r⟩ k) : PlanL C ops t0 r0 qs (⟨some d, .indexAddr ty' x y, ty, pos, af, gd⟩ :: rest) ⟨t, r⟩ k := planL_2 hgd rfl hn hx hy (by simp [Op.operands, Call.operands]) (by simp [Op.operands, Call.operands]) [] (fun r' _ => (op_index_list rfl hE hi hsz h0 hel (Nat.le_of_ble_eq_true hne))) hk
theorem p_idxO {α : Type} {e' : TypeId} {E : Enc α} {xs : List α} {kd : IntKind} {m : Int} {e : TypeId} {i : TyI} (hE : sliceE C.P ty' = some e) (hi : tyI C.P e = some i) (hx : evalA t x = some (.res g)) (hg : look r g = some (.obj (ownS e' E xs))) (hy : evalA t y = some (.v (.int kd m))) (hsz : i.size = E.sz) (h0 : 0 ≤ m) (hlt : m.toNat < xs.length) (hn : Nat.blt d C.N = true) (hgd : wantedA t ops ⟨some d, .indexAddr ty' x y, ty, pos, af, gd⟩ = some true) (hk : PlanL C ops t0 r0 (⟨some d, .ptr g (m.toNat * E.sz), [], [g], []⟩ :: qs) rest ⟨(d, .ptr g (m.toNat * E.sz)) :: t, r⟩ k) : PlanL C ops t0 r0 qs (⟨some d, .indexAddr ty' x y, ty, pos, af, gd⟩ :: rest) ⟨t, r⟩ k := planL_2 hgd rfl hn hx hy (by simp [Op.operands, Call.operands]) (by simp [Op.operands, Call.operands]) [g] (fun r' hF => (op_index_own rfl ((hF g (List.mem_singleton.2 rfl)).trans hg) hE hi hsz h0 hlt)) hk
theorem p_lenL {α : Type} {E : Enc α} {xs : List α} {e : TypeId} (hE : sliceE C.P ty' = some e) (hx : evalA t x = some (.sem (listS E xs))) (hn : Nat.blt d C.N = true) (hgd : wantedA t ops ⟨some d, .call { callee := .builtin .len, args := #[x], argTypes := #[ty'] }, ty, pos, af, gd⟩ = some true) (hk : PlanL C ops t0 r0 (⟨some d, .v (.int .i64 xs.length), [], [], []⟩ :: qs) rest ⟨(d, .v (.int .i64 xs.length)) :: t, r⟩ k) : PlanL C ops t0 r0 qs (⟨some d, .call { callee := .builtin .len, args := #[x], argTypes := #[ty'] }, ty, pos, af, gd⟩ :: rest) ⟨t, r⟩ k := planL_1 hgd rfl hn hx (by simp [Op.operands, Call.operands]) [] (fun r' _ => (op_len_list rfl hE)) hk
theorem p_lenO {α : Type} {e' : TypeId} {E : Enc α} {xs : List α} {e : TypeId} (hE : sliceE C.P ty' = some e) (hx : evalA t x = some (.res g)) (hg : look r g = some (.obj (ownS e' E xs))) (hn : Nat.blt d C.N = true) (hgd : wantedA t ops ⟨some d, .call { callee := .builtin .len, args := #[x], argTypes := #[ty'] }, ty, pos, af, gd⟩ = some true) (hk : PlanL C ops t0 r0 (⟨some d, .v (.int .i64 xs.length), [], [g], []⟩ :: qs) rest ⟨(d, .v (.int .i64 xs.length)) :: t, r⟩ k) : PlanL C ops t0 r0 qs (⟨some d, .call { callee := .builtin .len, args := #[x], argTypes := #[ty'] }, ty, pos, af, gd⟩ :: rest) ⟨t, r⟩ k := planL_1 hgd rfl hn hx (by simp [Op.operands, Call.operands]) [g] (fun r' hF => (op_len_own rfl ((hF g (List.mem_singleton.2 rfl)).trans hg) hE)) hk
theorem p_lenN {e : TypeId} (hE : sliceE C.P ty' = some e) (hx : evalA t x = some (.v (.slice none 0 0))) (hn : Nat.blt d C.N = true) (hgd : wantedA t ops ⟨some d, .call { callee := .builtin .len, args := #[x], argTypes := #[ty'] }, ty, pos, af, gd⟩ = some true) (hk : PlanL C ops t0 r0 (⟨some d, .v (.int .i64 0), [], [], []⟩ :: qs) rest ⟨(d, .v (.int .i64 0)) :: t, r⟩ k) : PlanL C ops t0 r0 qs (⟨some d, .call { callee := .builtin .len, args := #[x], argTypes := #[ty'] }, ty, pos, af, gd⟩ :: rest) ⟨t, r⟩ k := planL_1 hgd rfl hn hx (by simp [Op.operands, Call.operands]) [] (fun r' _ => (op_len_nil rfl hE)) hk
theorem p_lenS {s : ByteArray} (hE : C.P.underlying ty' = some .string) (hx : evalA t x = some (.v (.string s))) (hn : Nat.blt d C.N = true) (hgd : wantedA t ops ⟨some d, .call { callee := .builtin .len, args := #[x], argTypes := #[ty'] }, ty, pos, af, gd⟩ = some true) (hk : PlanL C ops t0 r0 (⟨some d, .v (.int .i64 s.size), [], [], []⟩ :: qs) rest ⟨(d, .v (.int .i64 s.size)) :: t, r⟩ k) : PlanL C ops t0 r0 qs (⟨some d, .call { callee := .builtin .len, args := #[x], argTypes := #[ty'] }, ty, pos, af, gd⟩ :: rest) ⟨t, r⟩ k := planL_1 hgd rfl hn hx (by simp [Op.operands, Call.operands]) [] (fun r' _ => (op_len_str rfl hE)) hk
theorem p_sliceH {α : Type} {E : Enc α} {xs : List α} {kd : IntKind} {m : Int} {e : TypeId} {i : TyI} (hE : sliceE C.P ty' = some e) (hi : tyI C.P e = some i) (hx : evalA t x = some (.sem (listS E xs))) (hy : evalA t y = some (.v (.int kd m))) (hsz : i.size = E.sz) (h0 : 0 ≤ m) (hm : m ≤ xs.length) (hn : Nat.blt d C.N = true) (hgd : wantedA t ops ⟨some d, .slice ty' x none (some y) none, ty, pos, af, gd⟩ = some true) (hk : PlanL C ops t0 r0 (⟨some d, .sem (listS E (xs.take m.toNat)), [], [], []⟩ :: qs) rest ⟨(d, .sem (listS E (xs.take m.toNat))) :: t, r⟩ k) : PlanL C ops t0 r0 qs (⟨some d, .slice ty' x none (some y) none, ty, pos, af, gd⟩ :: rest) ⟨t, r⟩ k := planL_2 hgd rfl hn hx hy (by simp [Op.operands, Call.operands]) (by simp [Op.operands, Call.operands]) [] (fun r' _ => (op_slice_h rfl hE hi hsz h0 hm)) hk
theorem p_sliceL {α : Type} {E : Enc α} {xs : List α} {kd : IntKind} {m : Int} {e : TypeId} {i : TyI} (hE : sliceE C.P ty' = some e) (hi : tyI C.P e = some i) (hx : evalA t x = some (.sem (listS E xs))) (hy : evalA t y = some (.v (.int kd m))) (hsz : i.size = E.sz) (h0 : 0 ≤ m) (hm : m ≤ xs.length) (hn : Nat.blt d C.N = true) (hgd : wantedA t ops ⟨some d, .slice ty' x (some y) none none, ty, pos, af, gd⟩ = some true) (hk : PlanL C ops t0 r0 (⟨some d, .sem (listS E (xs.drop m.toNat)), [], [], []⟩ :: qs) rest ⟨(d, .sem (listS E (xs.drop m.toNat))) :: t, r⟩ k) : PlanL C ops t0 r0 qs (⟨some d, .slice ty' x (some y) none none, ty, pos, af, gd⟩ :: rest) ⟨t, r⟩ k := planL_2 hgd rfl hn hx hy (by simp [Op.operands, Call.operands]) (by simp [Op.operands, Call.operands]) [] (fun r' _ => (op_slice_l rfl hE hi hsz h0 hm)) hk
end
theorem p_b {ps : List (Nat × Operand)} {pl : List (Nat × Nat)} {i : TyI} {l l' : List AV} (hpl : placesI C.P ty' = some pl) (hi : tyI C.P ty' = some i) (hr : evalAs t (opsOf ps) = some l) (hf : fillA (fun n => pl[n]?) (i.zero.map .v) (zipFl ps l) = some l') (hn : Nat.blt d C.N = true) (hg : wantedA t ops ⟨some d, .build ty' ps.toArray, ty, pos, af, gd⟩ = some true) (hk : PlanL C ops t0 r0 (⟨some d, .agg l', [], [], []⟩ :: qs) rest ⟨(d, .agg l') :: t, r⟩ k) : PlanL C ops t0 r0 qs (⟨some d, .build ty' ps.toArray, ty, pos, af, gd⟩ :: rest) ⟨t, r⟩ k := planL_b hg rfl hn (evalAs_zip hr).1 (fun x hx => by
  simp only [Op.operands, List.toList_toArray]
  clear hr hf hg hk
  induction ps with
  | nil => cases hx
  | cons p ps ih =>
    rcases List.mem_cons.1 hx with rfl | hx
    · simp
    · have := ih hx
      simp only [List.mem_map, List.map_cons, List.mem_cons] at this ⊢
      exact .inr this) [] (fun _ _ => op_build l rfl hpl hi (evalAs_zip hr).2 hf) hk
theorem p_l {α : Type} (E : Enc α) (ys : List α) {e : TypeId} {i : TyI} {l : List AV} {n : Nat} {ps : List (Nat × Operand)} (hE : sliceE C.P ty' = some e) (hi : tyI C.P e = some i) (hr : evalAs t (opsOf ps) = some l) (hps : ps = seqP 0 (opsOf ps)) (hxn : (opsOf ps).length = n) (hsz : i.size = E.sz) (hz : i.zero.length = i.size) (hy : ys.length = n) (hmax : Nat.ble (n * i.size) 16777216 = true) (hok : okL E.sz l = true) (hl : lineA l = E.all ys) (hn : Nat.blt d C.N = true) (hg : wantedA t ops ⟨some d, .buildSlice ty' n ps.toArray, ty, pos, af, gd⟩ = some true) (hk : PlanL C ops t0 r0 (⟨some d, .sem (listS E ys), [], [], []⟩ :: qs) rest ⟨(d, .sem (listS E ys)) :: t, r⟩ k) : PlanL C ops t0 r0 qs (⟨some d, .buildSlice ty' n ps.toArray, ty, pos, af, gd⟩ :: rest) ⟨t, r⟩ k := planL_l hg rfl hn (evalAs_spec hr).1 (fun x hx => by
  simp only [Op.operands, List.toList_toArray]
  clear hr hg hk hps hxn
  induction ps with
  | nil => cases hx
  | cons p ps ih =>
    rcases List.mem_cons.1 hx with rfl | hx
    · simp
    · have := ih hx
      simp only [List.mem_map, List.map_cons, List.mem_cons] at this ⊢
      exact .inr this) [] (fun _ _ => op_buildSlice E ys l (congrArg (fun z => Op.buildSlice ty' n (List.toArray z)) hps) hxn hE hi hsz hz (evalAs_spec hr).2 hy (Nat.le_of_ble_eq_true hmax) hok hl) hk
theorem p_c {f : FuncId} {l : List AV} {xs : List Operand} {ts : Array TypeId} (hF : Fun C.P f l [] V []) (hr : evalAs t xs = some l) (hc : callB C.P f = true) (hV : V.noRef = true) (hn : Nat.blt d C.N = true) (hg : wantedA t ops ⟨some d, .call { callee := .value (.func f), args := xs.toArray, argTypes := ts }, ty, pos, af, gd⟩ = some true) (hk : PlanL C ops t0 r0 (⟨some d, V, [], [], []⟩ :: qs) rest ⟨(d, V) :: t, r⟩ k) : PlanL C ops t0 r0 qs (⟨some d, .call { callee := .value (.func f), args := xs.toArray, argTypes := ts }, ty, pos, af, gd⟩ :: rest) ⟨t, r⟩ k := planL_f hg rfl hn (evalAs_spec hr).1 (fun x hx => by simp [Op.operands, Call.operands, hx]) [] (fun _ _ => op_call hF rfl hc (evalAs_spec hr).2 hV) hk
theorem renR_app {m : Nat → Nat} {r : List (Nat × RK)} : ∀ {l r' : List (Nat × RK)}, renR m l (r' ++ r) = renR m l r' ++ r
  | [], r' => rfl
  | p :: l, r' => by rw [renR, renR, renR_app]; rfl
theorem deadR_app {m : Nat → Nat} {r : List (Nat × RK)} : ∀ {l r' : List (Nat × RK)}, deadR m l (r' ++ r) = deadR m l r' ++ r
  | [], r' => rfl
  | p :: l, r' => by rw [deadR, deadR, deadR_app]; rfl
theorem call_app {m : Nat → Nat} {r1 r2 r : List (Nat × RK)} : renR m r1 (deadR m r2 r) = renR m r1 (deadR m r2 []) ++ r := by
  rw [← renR_app, ← deadR_app]; rfl
theorem wkR_foot {r r' : List (Nat × RK)} {m : Nat → Nat} : ∀ {l : List (Nat × RK)}, WkR r m l → (∀ g ∈ idsM m l, look r' g = look r g) → WkR r' m l
  | [], _, _ => trivial
  | p :: l, h, hf => ⟨(hf _ List.mem_cons_self).trans h.1, wkR_foot h.2 fun g hg => hf g (List.mem_cons_of_mem _ hg)⟩
theorem freshAll_of {r r' r0c : List (Nat × RK)} : ∀ {l : List Nat}, freshAll r r0c l = true → (∀ g ∈ l, freshR g r' = true) → freshAll r' r0c l = true
  | [], _, _ => rfl
  | i :: l, h, hf => by
    simp only [freshAll, Bool.and_eq_true] at h ⊢
    exact ⟨⟨hf i List.mem_cons_self, h.1.2⟩, freshAll_of h.2 fun g hg => hf g (List.mem_cons_of_mem _ hg)⟩
theorem rd2_ok {o : Oper} {X Y : AV} (hm : x ∈ o.op.operands.toList) (hm' : y ∈ o.op.operands.toList) : ([(x, X), (y, Y)].all fun q => opndOk ops o q.1) = true := by simp [opnd_mem hm, opnd_mem hm']
theorem p_allocD {i : TyI} (hi : tyI C.P ty' = some i) (h0 : look C.r0 d = none) (hn : Nat.blt d C.N = true) (hgd : wantedA t ops ⟨some d, .alloc ty', ty, pos, af, gd⟩ = some true) (hk : PlanL C ops t0 r0 (⟨some d, .ptr d 0, [(d, .box ty' (i.zero.map .v))], [], [d]⟩ :: qs) rest ⟨(d, .ptr d 0) :: t, (d, .box ty' (i.zero.map .v)) :: r⟩ k) : PlanL C ops t0 r0 qs (⟨some d, .alloc ty', ty, pos, af, gd⟩ :: rest) ⟨t, r⟩ k :=
  planL_eff [] _ [] [d] rfl hgd rfl hn trivial (fun r' _ hN => op_alloc d rfl hi (hN d (List.mem_singleton.2 rfl)) h0) hk
theorem p_storeB {T' : TypeId} {l : List AV} {off : Nat} {i : TyI} (hi : tyI C.P ty' = some i) (hx : evalA t x = some (.ptr g off)) (hy : evalA t y = some V) (hg : look r g = some (.box T' l)) (hV : okC V = true) (hc : AV.cellL (cellsA V) = true) (hl : (cellsA V).length = i.size) (hle : Nat.ble (off + i.size) l.length = true) (hgd : wantedA t ops ⟨none, .store ty' x y, ty, pos, af, gd⟩ = some true) (hk : PlanL C ops t0 r0 (⟨none, .v undef, [(g, .box T' (spliceL l off (cellsA V)))], [g], []⟩ :: qs) rest ⟨t, (g, .box T' (spliceL l off (cellsA V))) :: r⟩ k) : PlanL C ops t0 r0 qs (⟨none, .store ty' x y, ty, pos, af, gd⟩ :: rest) ⟨t, r⟩ k :=
  planL_eff0 _ [(g, .box T' (spliceL l off (cellsA V)))] [g] [] (rd2_ok (by simp [Op.operands]) (by simp [Op.operands])) hgd rfl (rd2 hx hy) (fun r' hF _ => op_store_box rfl ((hF g (List.mem_singleton.2 rfl)).trans hg) hi hV hc hl hle) hk
theorem p_appendD {α : Type} {e : TypeId} {E : Enc α} {xs ys : List α} {i : TyI} (hE : sliceE C.P ty' = some e) (hi : tyI C.P e = some i) (hx : evalA t x = some (.res g)) (hg : look r g = some (.obj (ownS e E xs))) (hy : evalA t y = some (.sem (listS E ys))) (hsz : i.size = E.sz) (hz : i.zero.length = E.sz) (h0 : Nat.blt 0 E.sz = true) (hby : Nat.ble i.bytes 100000000 = true) (hm : xs.length + ys.length ≤ 1000000) (hr0 : look C.r0 d = none) (hn : Nat.blt d C.N = true) (hgd : wantedA t ops ⟨some d, .call { callee := .builtin .append, args := #[x, y], argTypes := #[ty', ty'] }, ty, pos, af, gd⟩ = some true) (hk : PlanL C ops t0 r0 (⟨some d, .res d, [(d, .obj (ownS e E (xs ++ ys))), (g, .dead)], [g], [d]⟩ :: qs) rest ⟨(d, .res d) :: t, (d, .obj (ownS e E (xs ++ ys))) :: (g, .dead) :: r⟩ k) : PlanL C ops t0 r0 qs (⟨some d, .call { callee := .builtin .append, args := #[x, y], argTypes := #[ty', ty'] }, ty, pos, af, gd⟩ :: rest) ⟨t, r⟩ k :=
  planL_eff _ [(d, .obj (ownS e E (xs ++ ys))), (g, .dead)] [g] [d] (rd2_ok (by simp [Op.operands, Call.operands]) (by simp [Op.operands, Call.operands])) hgd rfl hn (rd2 hx hy) (fun r' hF hN => op_append d rfl ((hF g (List.mem_singleton.2 rfl)).trans hg) hE hi hsz hz (Nat.le_of_ble_eq_true h0) hm (Nat.le_of_ble_eq_true hby) (hN d (List.mem_singleton.2 rfl)) hr0) hk
theorem p_lO {α : Type} (E : Enc α) (ys : List α) {e : TypeId} {i : TyI} {l : List AV} {n : Nat} {ps : List (Nat × Operand)} (hE : sliceE C.P ty' = some e) (hi : tyI C.P e = some i) (hr : evalAs t (opsOf ps) = some l) (hps : ps = seqP 0 (opsOf ps)) (hxn : (opsOf ps).length = n) (hsz : i.size = E.sz) (hz : i.zero.length = i.size) (hy : ys.length = n) (hmax : Nat.ble (n * i.size) 16777216 = true) (hnn : Nat.ble n 1000000 = true) (hok : okL E.sz l = true) (hl : lineA l = E.all ys) (h0 : look C.r0 d = none) (hn : Nat.blt d C.N = true) (hgd : wantedA t ops ⟨some d, .buildSlice ty' n ps.toArray, ty, pos, af, gd⟩ = some true) (hk : PlanL C ops t0 r0 (⟨some d, .res d, [(d, .obj (ownS e E ys))], [], [d]⟩ :: qs) rest ⟨(d, .res d) :: t, (d, .obj (ownS e E ys)) :: r⟩ k) : PlanL C ops t0 r0 qs (⟨some d, .buildSlice ty' n ps.toArray, ty, pos, af, gd⟩ :: rest) ⟨t, r⟩ k :=
  planL_eff _ [(d, .obj (ownS e E ys))] [] [d] (List.all_eq_true.2 fun q hq => opnd_mem (by
    have hx := zip_mem hq
    simp only [Op.operands, List.toList_toArray]
    clear hr hgd hk hps hxn hq
    induction ps with
    | nil => cases hx
    | cons p ps ih =>
      rcases List.mem_cons.1 hx with hx | hx
      · simp [hx]
      · have := ih hx
        simp only [List.mem_map, List.map_cons, List.mem_cons] at this ⊢
        exact .inr this)) hgd rfl hn (evalAs_spec hr).1 (fun r' _ hN => op_litO d E ys l (congrArg (fun z => Op.buildSlice ty' n (List.toArray z)) hps) hxn hE hi hsz hz (evalAs_spec hr).2 hy (Nat.le_of_ble_eq_true hmax) (Nat.le_of_ble_eq_true hnn) hok hl (hN d (List.mem_singleton.2 rfl)) h0) hk
theorem f_ok {f : FuncId} {xs : List Operand} {ts : Array TypeId} {l : List AV} {V : AV} {ty : TypeId} {dd : Option Nat} : (((Operand.func f, V) :: xs.zip l).all fun q => opndOk ops ⟨dd, .call { callee := .value (.func f), args := xs.toArray, argTypes := ts }, ty, pos, af, gd⟩ q.1) = true := by
  rw [List.all_cons, Bool.and_eq_true]
  exact ⟨rfl, List.all_eq_true.2 fun q hq => opnd_mem (by simp [Op.operands, Call.operands, zip_mem hq])⟩
theorem p_cR {f : FuncId} {r2 r1 : List (Nat × RK)} {l : List AV} {xs : List Operand} {ts : Array TypeId} (m : Nat → Nat) (hF : Fun C.P f l r2 V r1) (hr : evalAs t xs = some (AV.renL m l)) (hc : callB C.P f = true) (hw : WkR r m r2) (hn0 : nodupB (idsM m r2) = true) (hl0 : liveAll r2 = true) (hn1 : nodupB (idsM m r1) = true) (hfr : freshAll r C.r0 (newIds m r2 r1) = true) (hnew : allNotIn (idsM m r2) (newIds m r2 r1) = true) (hcl : closedR (idsOf r1 ++ idsOf r2) r1 = true) (hrv : V.inL (idsOf r1 ++ idsOf r2) = true) (hn : Nat.blt d C.N = true) (hgd : wantedA t ops ⟨some d, .call { callee := .value (.func f), args := xs.toArray, argTypes := ts }, ty, pos, af, gd⟩ = some true) (hk : PlanL C ops t0 r0 (⟨some d, V.ren m, renR m r1 (deadR m r2 []), idsM m r2, newIds m r2 r1⟩ :: qs) rest ⟨(d, V.ren m) :: t, renR m r1 (deadR m r2 []) ++ r⟩ k) : PlanL C ops t0 r0 qs (⟨some d, .call { callee := .value (.func f), args := xs.toArray, argTypes := ts }, ty, pos, af, gd⟩ :: rest) ⟨t, r⟩ k :=
  planL_eff _ _ _ _ f_ok hgd rfl hn (rdC (evalAs_spec hr).1) (fun r' hF' hN => by
    rw [← call_app]
    exact op_callR m hF rfl hc ((evalAs_spec hr).2.trans (renL_length m l)) (wkR_foot hw hF') hn0 hl0 hn1 (freshAll_of hfr hN) hnew hcl hrv) hk
theorem p_cO {f : FuncId} {l : List AV} {xs : List Operand} {ts : Array TypeId} {R : Res} (hF : Fun C.P f l [] (.res 0) [(0, .obj R)]) (hr : evalAs t xs = some l) (hc : callB C.P f = true) (hl : AV.noRefs l = true) (h0 : notIn d (idsOf C.r0) = true) (hn : Nat.blt d C.N = true) (hgd : wantedA t ops ⟨some d, .call { callee := .value (.func f), args := xs.toArray, argTypes := ts }, ty, pos, af, gd⟩ = some true) (hk : PlanL C ops t0 r0 (⟨some d, .res d, [(d, .obj R)], [], [d]⟩ :: qs) rest ⟨(d, .res d) :: t, (d, .obj R) :: r⟩ k) : PlanL C ops t0 r0 qs (⟨some d, .call { callee := .value (.func f), args := xs.toArray, argTypes := ts }, ty, pos, af, gd⟩ :: rest) ⟨t, r⟩ k :=
  planL_eff _ [(d, .obj R)] [] [d] f_ok hgd rfl hn (rdC (evalAs_spec hr).1) (fun r' _ hN => by
    have h1 := op_callR (C := C) (r := r') (o := ⟨some d, .call { callee := .value (.func f), args := xs.toArray, argTypes := ts }, ty, pos, af, gd⟩) (xs := xs) (ts := ts) (fun _ => d) hF rfl hc (evalAs_spec hr).2 trivial rfl rfl rfl (by simp [newIds, notIn, idsOf, freshAll, hN d (List.mem_singleton.2 rfl), h0]) rfl rfl rfl
    rw [AV.renL_noRefs hl] at h1
    exact h1) hk
end
end Go.Proofs.Ytjkidecaciomgaa
/- VL, part 13: rows that are written in place, made, copied into; a value by its name; proved walks taken over. -/
namespace Go.Proofs.Ytjkidecaciomgaa
set_option linter.unusedVariables false
set_option linter.unusedSimpArgs false
open Go.RowKit

/-- A proved walk, as a contract. -/
theorem fun_of_calls {P : Program} {f : FuncId} {l : List Value} {u : Value} (h : ∀ w, Calls P f l.toArray w fun e w' => e = .returned u ∧ Below w.heap.size w w') : Fun P f (l.map .v) [] (.v u) [] := fun ι F S w vals hh hv => by
  have hval : ∀ {l vals : List Value}, AVRs ι S w (l.map .v) vals → vals = l := by
    intro l
    induction l with
    | nil => intro vals h; simpa [AVRs] using h
    | cons x l ih =>
      intro vals h
      simp only [List.map_cons, AVRs, AVR] at h
      obtain ⟨u, r, rfl, rfl, h2⟩ := h
      rw [ih h2]
  rw [hval hv]
  refine (h w).mono fun e w' ⟨he, hb⟩ => ?_
  exact ⟨ι, F, S, u, he, ⟨fun _ _ _ h => (by cases h), fun _ _ h => (by cases h), fun _ _ _ _ h => (by cases h), fun _ _ h => (by cases h), fun k hk => Nat.lt_of_lt_of_le (hh.bnd k hk) hb.size⟩, by simp [AVR], ⟨fun _ h => h, fun k _ hk => hb.block k hk⟩, fun _ _ _ _ => rfl, But.of_below hb, fun k hk => .inl hk, fun _ _ h => (by cases h)⟩

section
variable {C : Cx} {k : List Item} {t t0 : List (Nat × AV)} {r r0 : List (Nat × RK)} {ops : Array Oper} {rest : List Oper} {qs : List PIt}
variable {d : Nat} {ty ty' : TypeId} {pos : String} {af : Array Edge} {x y z : Operand} {V : AV} {g : Nat} {o : Oper}
/-- Two ways, by the guard's bool. -/
theorem v_gsplit {op : Op} {dd : Option Nat} {j : Nat} {want : Bool} {oj : Oper} {b : Bool} (hj : ops[j]? = some oj) (hd : oj.dst = some d) (hb : look t d = some (.v (.bool b))) (h1 : b = true → RunL C ops (⟨dd, op, ty, pos, af, some (j, want)⟩ :: rest) ⟨(d, .v (.bool true)) :: t, r⟩ k) (h0 : b = false → RunL C ops (⟨dd, op, ty, pos, af, some (j, want)⟩ :: rest) ⟨(d, .v (.bool false)) :: t, r⟩ k) : RunL C ops (⟨dd, op, ty, pos, af, some (j, want)⟩ :: rest) ⟨t, r⟩ k := runL_split d hb h1 h0
theorem v_psplit {dd : Option Nat} {n : Nat} {b : Bool} (hb : look t n = some (.v (.bool b))) (h1 : b = true → RunL C ops (⟨dd, .pick (.tmp n) y z, ty, pos, af, none⟩ :: rest) ⟨(n, .v (.bool true)) :: t, r⟩ k) (h0 : b = false → RunL C ops (⟨dd, .pick (.tmp n) y z, ty, pos, af, none⟩ :: rest) ⟨(n, .v (.bool false)) :: t, r⟩ k) : RunL C ops (⟨dd, .pick (.tmp n) y z, ty, pos, af, none⟩ :: rest) ⟨t, r⟩ k := runL_split n hb h1 h0
theorem planL_split {l : List Oper} (n : Nat) {b : Bool} (hb : look t n = some (.v (.bool b))) (h1 : b = true → PlanL C ops t0 r0 qs l ⟨(n, .v (.bool true)) :: t, r⟩ k) (h0 : b = false → PlanL C ops t0 r0 qs l ⟨(n, .v (.bool false)) :: t, r⟩ k) : PlanL C ops t0 r0 qs l ⟨t, r⟩ k := by
  cases b
  · exact planL_know n hb Le.refl (h0 rfl)
  · exact planL_know n hb Le.refl (h1 rfl)
theorem p_gsplit {op : Op} {dd : Option Nat} {j : Nat} {want : Bool} {oj : Oper} {b : Bool} (hj : ops[j]? = some oj) (hd : oj.dst = some d) (hb : look t d = some (.v (.bool b))) (h1 : b = true → PlanL C ops t0 r0 qs (⟨dd, op, ty, pos, af, some (j, want)⟩ :: rest) ⟨(d, .v (.bool true)) :: t, r⟩ k) (h0 : b = false → PlanL C ops t0 r0 qs (⟨dd, op, ty, pos, af, some (j, want)⟩ :: rest) ⟨(d, .v (.bool false)) :: t, r⟩ k) : PlanL C ops t0 r0 qs (⟨dd, op, ty, pos, af, some (j, want)⟩ :: rest) ⟨t, r⟩ k := planL_split d hb h1 h0
theorem p_psplit {dd : Option Nat} {n : Nat} {b : Bool} {gd : Option (Nat × Bool)} (hb : look t n = some (.v (.bool b))) (h1 : b = true → PlanL C ops t0 r0 qs (⟨dd, .pick (.tmp n) y z, ty, pos, af, gd⟩ :: rest) ⟨(n, .v (.bool true)) :: t, r⟩ k) (h0 : b = false → PlanL C ops t0 r0 qs (⟨dd, .pick (.tmp n) y z, ty, pos, af, gd⟩ :: rest) ⟨(n, .v (.bool false)) :: t, r⟩ k) : PlanL C ops t0 r0 qs (⟨dd, .pick (.tmp n) y z, ty, pos, af, gd⟩ :: rest) ⟨t, r⟩ k := planL_split n hb h1 h0

/-! ### Calls: the arguments first, then the contract -/
theorem v_cx {f : FuncId} {l : List AV} {xs : List Operand} {ts : Array TypeId} (hr : evalAs t xs = some l) (hc : callB C.P f = true) (hF : Fun C.P f l [] V []) (hV : V.noRef = true) (hn : Nat.blt d C.N = true) (hk : RunL C ops rest ⟨(d, V) :: t, r⟩ k) : RunL C ops (⟨some d, .call { callee := .value (.func f), args := xs.toArray, argTypes := ts }, ty, pos, af, none⟩ :: rest) ⟨t, r⟩ k := v_c hF hr hc hV hn hk
theorem p_cx {f : FuncId} {l : List AV} {xs : List Operand} {ts : Array TypeId} {gd : Option (Nat × Bool)} (hr : evalAs t xs = some l) (hc : callB C.P f = true) (hF : Fun C.P f l [] V []) (hV : V.noRef = true) (hn : Nat.blt d C.N = true) (hg : wantedA t ops ⟨some d, .call { callee := .value (.func f), args := xs.toArray, argTypes := ts }, ty, pos, af, gd⟩ = some true) (hk : PlanL C ops t0 r0 (⟨some d, V, [], [], []⟩ :: qs) rest ⟨(d, V) :: t, r⟩ k) : PlanL C ops t0 r0 qs (⟨some d, .call { callee := .value (.func f), args := xs.toArray, argTypes := ts }, ty, pos, af, gd⟩ :: rest) ⟨t, r⟩ k := p_c hF hr hc hV hn hg hk
theorem v_cOx {f : FuncId} {l : List AV} {xs : List Operand} {ts : Array TypeId} {R : Res} (hr : evalAs t xs = some l) (hc : callB C.P f = true) (hF : Fun C.P f l [] (.res 0) [(0, .obj R)]) (hl : AV.noRefs l = true) (hf : freshR d r = true) (hft : freshT d t = true) (h0 : notIn d (idsOf C.r0) = true) (hn : Nat.blt d C.N = true) (hk : RunL C ops rest ⟨(d, .res d) :: t, (d, .obj R) :: r⟩ k) : RunL C ops (⟨some d, .call { callee := .value (.func f), args := xs.toArray, argTypes := ts }, ty, pos, af, none⟩ :: rest) ⟨t, r⟩ k := v_cO hF hr hc hl hf hft h0 hn hk
theorem p_cOx {f : FuncId} {l : List AV} {xs : List Operand} {ts : Array TypeId} {R : Res} {gd : Option (Nat × Bool)} (hr : evalAs t xs = some l) (hc : callB C.P f = true) (hF : Fun C.P f l [] (.res 0) [(0, .obj R)]) (hl : AV.noRefs l = true) (h0 : notIn d (idsOf C.r0) = true) (hn : Nat.blt d C.N = true) (hg : wantedA t ops ⟨some d, .call { callee := .value (.func f), args := xs.toArray, argTypes := ts }, ty, pos, af, gd⟩ = some true) (hk : PlanL C ops t0 r0 (⟨some d, .res d, [(d, .obj R)], [], [d]⟩ :: qs) rest ⟨(d, .res d) :: t, (d, .obj R) :: r⟩ k) : PlanL C ops t0 r0 qs (⟨some d, .call { callee := .value (.func f), args := xs.toArray, argTypes := ts }, ty, pos, af, gd⟩ :: rest) ⟨t, r⟩ k := p_cO hF hr hc hl h0 hn hg hk

/-! ### Calls that leave the resources as they are -/
mutual
theorem AV.ren_id : ∀ x : AV, x.ren idN = x
  | .v x => rfl
  | .sem p => rfl
  | .res g => rfl
  | .ptr g o => rfl
  | .fn f l => by simp only [AV.ren]; rw [AV.renL_id l]
  | .agg l => by simp only [AV.ren]; rw [AV.renL_id l]
  | .tup l => by simp only [AV.ren]; rw [AV.renL_id l]
theorem AV.renL_id : ∀ l : List AV, AV.renL idN l = l
  | [] => rfl
  | x :: l => by simp only [AV.renL]; rw [AV.ren_id x, AV.renL_id l]
end
theorem RK.ren_id (x : RK) : x.ren idN = x := by
  cases x <;> simp only [RK.ren]
  rw [AV.renL_id]
/-- These resources are there. -/
def WkS (r : List (Nat × RK)) : List (Nat × RK) → Prop
  | [] => True
  | p :: l => look r p.1 = some p.2 ∧ WkS r l
theorem WkS.wk {r : List (Nat × RK)} : ∀ {l : List (Nat × RK)}, WkS r l → WkR r idN l
  | [], _ => trivial
  | p :: l, h => ⟨by rw [RK.ren_id]; exact h.1, WkS.wk h.2⟩
theorem WkS.foot {r r' : List (Nat × RK)} : ∀ {l : List (Nat × RK)}, WkS r l → (∀ g ∈ idsOf l, look r' g = look r g) → WkS r' l
  | [], _, _ => trivial
  | p :: l, h, hf => ⟨(hf _ List.mem_cons_self).trans h.1, WkS.foot h.2 fun g hg => hf g (List.mem_cons_of_mem _ hg)⟩
theorem idsM_id {α : Type} : ∀ l : List (Nat × α), idsM idN l = idsOf l
  | [] => rfl
  | p :: l => by simp [idsM, idsOf, idsM_id l]
theorem look_same {r : List (Nat × RK)} : ∀ {l : List (Nat × RK)}, WkS r l → ∀ g, look (renR idN l (deadR idN l r)) g = look r g := by
  have h1 : ∀ (l r' : List (Nat × RK)) (g : Nat), g ∉ idsOf l → look (renR idN l r') g = look r' g := by
    intro l
    induction l with
    | nil => intro r' g _; rfl
    | cons p l ih =>
      intro r' g hg
      simp only [idsOf, List.mem_cons, not_or] at hg
      simp only [renR]
      rw [look_cons, if_neg (fun e => hg.1 e.symm)]
      exact ih r' g hg.2
  have h2 : ∀ (l r' : List (Nat × RK)) (g : Nat), g ∉ idsOf l → look (deadR idN l r') g = look r' g := by
    intro l
    induction l with
    | nil => intro r' g _; rfl
    | cons p l ih =>
      intro r' g hg
      simp only [idsOf, List.mem_cons, not_or] at hg
      simp only [deadR]
      rw [look_cons, if_neg (fun e => hg.1 e.symm)]
      exact ih r' g hg.2
  have h3 : ∀ (l : List (Nat × RK)) (r' : List (Nat × RK)), WkS r l → ∀ g, g ∈ idsOf l → look (renR idN l r') g = look r g := by
    intro l
    induction l with
    | nil => intro r' _ g hg; cases hg
    | cons p l ih =>
      intro r' hw g hg
      simp only [renR]
      rw [look_cons]
      by_cases e : p.1 = g
      · rw [if_pos e, RK.ren_id, ← hw.1, e]
      · rw [if_neg e]
        simp only [idsOf, List.mem_cons] at hg
        exact ih r' hw.2 g (hg.resolve_left fun e' => e e'.symm)
  intro l hw g
  by_cases hg : g ∈ idsOf l
  · exact h3 l _ hw g hg
  · rw [h1 l _ g hg, h2 l _ g hg]
theorem newIds_same (m : Nat → Nat) (r0 : List (Nat × RK)) : ∀ l : List (Nat × RK), (∀ g ∈ idsOf l, g ∈ idsOf r0) → newIds m r0 l = []
  | [], _ => rfl
  | p :: l, h => by
    have : notIn p.1 (idsOf r0) = false := by
      cases hb : notIn p.1 (idsOf r0)
      · rfl
      · exact absurd (h p.1 List.mem_cons_self) (notIn_iff.1 hb)
    simp only [newIds, this, cond_false]
    exact newIds_same m r0 l fun g hg => h g (List.mem_cons_of_mem _ hg)
theorem op_callS {f : FuncId} {r2 : List (Nat × RK)} {l : List AV} {xs : List Operand} {ts : Array TypeId} (hF : Fun C.P f l r2 V r2) (ho : o.op = .call { callee := .value (.func f), args := xs.toArray, argTypes := ts }) (hc : callB C.P f = true) (hlen : xs.length = l.length) (hw : WkS r r2) (hn0 : nodupB (idsOf r2) = true) (hl0 : liveAll r2 = true) (hcl : closedR (idsOf r2 ++ idsOf r2) r2 = true) (hrv : V.inL (idsOf r2 ++ idsOf r2) = true) : OpEff C r o ((.func f, .v (.func (.func f) #[] #[])) :: xs.zip l) V r [] := fun ι F S w ρ hs hr => by
  have hnew := newIds_same idN r2 r2 fun g hg => hg
  have h := op_callR (C := C) (r := r) (o := o) idN hF ho hc hlen hw.wk (by rw [idsM_id]; exact hn0) hl0 (by rw [idsM_id]; exact hn0) (by rw [hnew]; rfl) (by rw [hnew]; rfl) hcl hrv
  rw [AV.renL_id, AV.ren_id, hnew] at h
  refine (h ι F S w ρ hs hr).mono fun u w' ⟨ι', F', S', h1, h2⟩ => ⟨ι', F', S', h1.congr fun g => (look_same hw g).symm, h2⟩
theorem v_cSx {f : FuncId} {r2 : List (Nat × RK)} {l : List AV} {xs : List Operand} {ts : Array TypeId} (hr : evalAs t xs = some l) (hc : callB C.P f = true) (hF : Fun C.P f l r2 V r2) (hw : WkS r r2) (hn0 : nodupB (idsOf r2) = true) (hl0 : liveAll r2 = true) (hcl : closedR (idsOf r2 ++ idsOf r2) r2 = true) (hrv : V.inL (idsOf r2 ++ idsOf r2) = true) (hn : Nat.blt d C.N = true) (hk : RunL C ops rest ⟨(d, V) :: t, r⟩ k) : RunL C ops (⟨some d, .call { callee := .value (.func f), args := xs.toArray, argTypes := ts }, ty, pos, af, none⟩ :: rest) ⟨t, r⟩ k :=
  runL_eff _ [] rfl rfl hn (rdC (evalAs_spec hr).1) rfl (op_callS hF rfl hc (evalAs_spec hr).2 hw hn0 hl0 hcl hrv) hk
theorem p_cSx {f : FuncId} {r2 : List (Nat × RK)} {l : List AV} {xs : List Operand} {ts : Array TypeId} {gd : Option (Nat × Bool)} (hr : evalAs t xs = some l) (hc : callB C.P f = true) (hF : Fun C.P f l r2 V r2) (hw : WkS r r2) (hn0 : nodupB (idsOf r2) = true) (hl0 : liveAll r2 = true) (hcl : closedR (idsOf r2 ++ idsOf r2) r2 = true) (hrv : V.inL (idsOf r2 ++ idsOf r2) = true) (hn : Nat.blt d C.N = true) (hgd : wantedA t ops ⟨some d, .call { callee := .value (.func f), args := xs.toArray, argTypes := ts }, ty, pos, af, gd⟩ = some true) (hk : PlanL C ops t0 r0 (⟨some d, V, [], idsOf r2, []⟩ :: qs) rest ⟨(d, V) :: t, r⟩ k) : PlanL C ops t0 r0 qs (⟨some d, .call { callee := .value (.func f), args := xs.toArray, argTypes := ts }, ty, pos, af, gd⟩ :: rest) ⟨t, r⟩ k :=
  planL_eff _ [] _ [] f_ok hgd rfl hn (rdC (evalAs_spec hr).1) (fun r' hF' _ => op_callS hF rfl hc (evalAs_spec hr).2 (hw.foot hF') hn0 hl0 hcl hrv) hk
/-- A call that turns the resources and takes new names, the arguments first. -/
theorem v_cRx {f : FuncId} {r2 r1 : List (Nat × RK)} {l : List AV} {xs : List Operand} {ts : Array TypeId} (m : Nat → Nat) (hF : Fun C.P f l r2 V r1) (hr : evalAs t xs = some (AV.renL m l)) (hc : callB C.P f = true) (hw : WkR r m r2) (hn0 : nodupB (idsM m r2) = true) (hl0 : liveAll r2 = true) (hn1 : nodupB (idsM m r1) = true) (hfr : freshAll r C.r0 (newIds m r2 r1) = true) (hft : freshTs t (newIds m r2 r1) = true) (hnew : allNotIn (idsM m r2) (newIds m r2 r1) = true) (hcl : closedR (idsOf r1 ++ idsOf r2) r1 = true) (hrv : V.inL (idsOf r1 ++ idsOf r2) = true) (hk : RunL C ops rest ⟨t, renR m r1 (deadR m r2 r)⟩ k) : RunL C ops (⟨none, .call { callee := .value (.func f), args := xs.toArray, argTypes := ts }, ty, pos, af, none⟩ :: rest) ⟨t, r⟩ k :=
  v_callR0 m hF hc (evalAs_spec hr).1 ((evalAs_spec hr).2.trans (renL_length m l)) hw hn0 hl0 hn1 hfr hft hnew hcl hrv hk

/-! ### A box written as a whole -/
theorem splice_whole {α : Type} (l cs : List α) (h : l.length = cs.length) : spliceL l 0 cs = cs := by
  rw [spliceL_eq _ _ _ (by omega), List.take_zero, List.nil_append, Nat.zero_add, ← h, List.drop_length, List.append_nil]
theorem v_storeW {T' : TypeId} {l : List AV} {i : TyI} (hi : tyI C.P ty' = some i) (hx : evalA t x = some (.ptr g 0)) (hy : evalA t y = some V) (hg : look r g = some (.box T' l)) (hV : okC V = true) (hc : AV.cellL (cellsA V) = true) (hl : (cellsA V).length = i.size) (hw : l.length = i.size) (hk : RunL C ops rest ⟨t, (g, .box T' (cellsA V)) :: r⟩ k) : RunL C ops (⟨none, .store ty' x y, ty, pos, af, none⟩ :: rest) ⟨t, r⟩ k := by
  refine v_storeB hi hx hy hg hV hc hl (Nat.ble_eq_true_of_le (by omega)) ?_
  rw [splice_whole _ _ (by omega)]
  exact hk
theorem p_storeW {T' : TypeId} {l : List AV} {i : TyI} {gd : Option (Nat × Bool)} (hi : tyI C.P ty' = some i) (hx : evalA t x = some (.ptr g 0)) (hy : evalA t y = some V) (hg : look r g = some (.box T' l)) (hV : okC V = true) (hc : AV.cellL (cellsA V) = true) (hl : (cellsA V).length = i.size) (hw : l.length = i.size) (hgd : wantedA t ops ⟨none, .store ty' x y, ty, pos, af, gd⟩ = some true) (hk : PlanL C ops t0 r0 (⟨none, .v undef, [(g, .box T' (cellsA V))], [g], []⟩ :: qs) rest ⟨t, (g, .box T' (cellsA V)) :: r⟩ k) : PlanL C ops t0 r0 qs (⟨none, .store ty' x y, ty, pos, af, gd⟩ :: rest) ⟨t, r⟩ k := by
  refine p_storeB hi hx hy hg hV hc hl (Nat.ble_eq_true_of_le (by omega)) hgd ?_
  rw [splice_whole _ _ (by omega)]
  exact hk

/-! ### A row written in place -/
theorem spliceL_mid {α : Type} : ∀ (cs a b c : List α) (f : Nat), f + cs.length ≤ b.length → spliceL (a ++ b ++ c) (a.length + f) cs = a ++ spliceL b f cs ++ c
  | [], a, b, c, f, _ => rfl
  | x :: cs, a, b, c, f, h => by
    simp only [List.length_cons] at h
    rw [spliceL, spliceL, ← spliceL_mid cs a (b.set f x) c (f + 1) (by simp; omega)]
    congr 1
    rw [List.append_assoc, List.set_append_right _ _ (by omega), List.set_append_left _ _ (by omega), List.append_assoc]
    congr 3
    omega
theorem Enc.all_split {α : Type} (E : Enc α) {xs : List α} {j : Nat} {v : α} (hj : xs[j]? = some v) : E.all xs = (E.all xs).take (j * E.sz) ++ E.f v ++ (E.all xs).drop ((j + 1) * E.sz) := by
  have hlt := (List.getElem?_eq_some_iff.1 hj).1
  have h := E.all_set (x := v) hlt
  have : xs.set j v = xs := by
    apply List.ext_getElem?
    intro i
    rw [List.getElem?_set]
    by_cases e : j = i
    · subst e; rw [if_pos rfl, if_pos hlt, hj]
    · rw [if_neg e]
  rwa [this] at h
theorem Enc.all_splice {α : Type} (E : Enc α) {xs : List α} {j f : Nat} {v v' : α} {cs : List AV} (hj : xs[j]? = some v) (hle : f + cs.length ≤ E.sz) (hv : E.f v' = spliceL (E.f v) f cs) : E.all (xs.set j v') = spliceL (E.all xs) (j * E.sz + f) cs := by
  have hlt := (List.getElem?_eq_some_iff.1 hj).1
  have hlen := E.all_len xs
  have hle2 : j * E.sz ≤ xs.length * E.sz := Nat.mul_le_mul_right _ (by omega)
  rw [E.all_set hlt, hv]
  have h := E.all_split hj
  generalize ha : (E.all xs).take (j * E.sz) = a at *
  have hal : a.length = j * E.sz := by rw [← ha, List.length_take]; omega
  generalize (E.all xs).drop ((j + 1) * E.sz) = c at *
  rw [h, ← hal, spliceL_mid _ _ _ _ _ (by rw [E.len]; exact hle)]
theorem spliceL_take {α : Type} : ∀ (cs l : List α) (o n : Nat), o + cs.length ≤ n → (spliceL l o cs).take n = spliceL (l.take n) o cs
  | [], l, o, n, _ => rfl
  | c :: cs, l, o, n, h => by
    simp only [List.length_cons] at h
    rw [spliceL, spliceL, spliceL_take cs _ _ _ (by omega), List.take_set]
theorem op_store_own {α : Type} {e : TypeId} {E : Enc α} {xs : List α} {off j f : Nat} {v v' : α} {i : TyI} (ho : o.op = .store ty x y) (hg : look r g = some (.obj (ownS e E xs))) (hoff : off = j * E.sz + f) (hj : xs[j]? = some v) (hi : tyI C.P ty = some i) (hk : okC V = true) (hl : (cellsA V).length = i.size) (hle : f + i.size ≤ E.sz) (hlf : AV.leaves (cellsA V) = true) (hv : E.f v' = spliceL (E.f v) f (cellsA V)) : OpEff C r o [(x, .ptr g off), (y, V)] (.v undef) ((g, .obj (ownS e E (xs.set j v'))) :: r) [] := fun ι F S w ρ hs hr => by
  have hx := hr (x, .ptr g off) (by simp)
  have hy := hr (y, V) (by simp)
  simp only [AVR] at hx
  obtain ⟨b0, hb, hx⟩ := hx
  obtain ⟨⟨us, h1, h2⟩, h3⟩ := hs.hs.ob g _ hg
  have hlt := (List.getElem?_eq_some_iff.1 hj).1
  rcases h1.2 with ⟨_, h0⟩ | ⟨b, cap, cur, hvv, hbase, hh, hn, hcap, hsz, htk⟩
  · omega
  · rw [hvv] at hb
    obtain rfl : b = b0 := by simpa [baseOf] using hb
    have hvc := cellsA_R hy hk
    have hvl : (ρ y).cells.toList.length = i.size := by rw [hvc.length]; exact hl
    have hcl : cur.toList.length = cur.size := Array.length_toList
    have hone := hvc.leaf_one hlf
    have hm1 : (j + 1) * E.sz ≤ xs.length * E.sz := Nat.mul_le_mul_right _ (by omega)
    have hm2 : xs.length * E.sz ≤ cap * E.sz := Nat.mul_le_mul_right _ hn
    rw [Nat.add_mul, Nat.one_mul] at hm1
    have hst := run_storeCells_at C.P b off e (ρ y).cells.toList 0 cur w hh (by omega) hone
    rw [Nat.add_zero] at hst
    have hsz2 : (ρ y).cells.size = i.size := by rw [← Array.length_toList]; exact hvl
    have hrun : (Instr.storeAt ty (ρ x) (ρ y)).run C.P w = .ok () (w.setRow b (cur.toList.take off ++ (ρ y).cells.toList ++ cur.toList.drop (off + (ρ y).cells.toList.length)).toArray) := by
      rw [hx]
      simp only [Instr.storeAt, Instr.sureAddr, storeVar, Sem.run_bind, Sem.run_pure, Result.andThen_ok, run_sizeOf hi, hsz2, ne_eq, not_true, if_false]
      exact hst
    rw [← spliceL_eq _ _ _ (by omega)] at hrun
    have hFg : ∀ k, F g k ↔ k = b := fun k => by rw [h3, hvv]; simp [Value.ownBlock, eq_comm]
    have hbut : But (F g) w (w.setRow b (spliceL cur.toList off (ρ y).cells.toList).toArray) := ⟨rfl, rfl, rfl, by simp, fun k _ hn => setRow_other w b k _ fun e => hn ((hFg k).2 e)⟩
    have hFut : Fut S w S (w.setRow b (spliceL cur.toList off (ρ y).cells.toList).toArray) := ⟨fun _ h => h, fun k hk hl => hbut.block k hl fun hf => hs.hs.out g _ hg rfl k hf hk⟩
    obtain ⟨hw, _⟩ := hs.turn (x' := .obj (ownS e E (xs.set j v'))) hg rfl hbut (fun T l' e => by cases e) (fun R e0 => by
      cases e0
      refine ⟨⟨spliceL us off (ρ y).cells.toList, ⟨by rw [spliceL_length, h1.1, List.length_set], .inr ⟨b, cap, _, by rw [hvv, List.length_set], hbase, setRow_heap w b cur _ e (0, 0) hh, by rw [List.length_set]; exact hn, hcap, by rw [List.size_toArray, spliceL_length, Array.length_toList]; exact hsz, ?_⟩⟩, ?_⟩, h3⟩
      · rw [List.toList_toArray, List.length_set, spliceL_take _ _ _ _ (by omega), htk]
      · rw [E.all_splice hj (by rw [hl]; exact hle) hv, ← hoff]
        exact (h2.fut hFut fun _ _ => rfl).splice ((hvc.leaf_any hlf).fut hFut fun _ _ => rfl))
    refine Does.skip (w' := w.setRow b (spliceL cur.toList off (ρ y).cells.toList).toArray) ?_ ⟨ι, F, S, hw, hFut, fun _ _ => rfl, by simp [AVR]⟩
    simp [execOp, ho, hrun]
theorem v_storeO {α : Type} {e : TypeId} {E : Enc α} {xs : List α} {off j f : Nat} {v : α} {i : TyI} (v' : α) (hi : tyI C.P ty' = some i) (hx : evalA t x = some (.ptr g off)) (hy : evalA t y = some V) (hg : look r g = some (.obj (ownS e E xs))) (hoff : off = j * E.sz + f) (hj : xs[j]? = some v) (hk : okC V = true) (hl : (cellsA V).length = i.size) (hle : f + i.size ≤ E.sz) (hlf : AV.leaves (cellsA V) = true) (hv : E.f v' = spliceL (E.f v) f (cellsA V)) (hn : RunL C ops rest ⟨t, (g, .obj (ownS e E (xs.set j v'))) :: r⟩ k) : RunL C ops (⟨none, .store ty' x y, ty, pos, af, none⟩ :: rest) ⟨t, r⟩ k :=
  runL_eff0 _ [] rfl rfl (rd2 hx hy) rfl (op_store_own rfl hg hoff hj hi hk hl hle hlf hv) hn
theorem p_storeO {α : Type} {e : TypeId} {E : Enc α} {xs : List α} {off j f : Nat} {v : α} {i : TyI} (v' : α) {gd : Option (Nat × Bool)} (hi : tyI C.P ty' = some i) (hx : evalA t x = some (.ptr g off)) (hy : evalA t y = some V) (hg : look r g = some (.obj (ownS e E xs))) (hoff : off = j * E.sz + f) (hj : xs[j]? = some v) (hk : okC V = true) (hl : (cellsA V).length = i.size) (hle : f + i.size ≤ E.sz) (hlf : AV.leaves (cellsA V) = true) (hv : E.f v' = spliceL (E.f v) f (cellsA V)) (hgd : wantedA t ops ⟨none, .store ty' x y, ty, pos, af, gd⟩ = some true) (hk : PlanL C ops t0 r0 (⟨none, .v undef, [(g, .obj (ownS e E (xs.set j v')))], [g], []⟩ :: qs) rest ⟨t, (g, .obj (ownS e E (xs.set j v'))) :: r⟩ k) : PlanL C ops t0 r0 qs (⟨none, .store ty' x y, ty, pos, af, gd⟩ :: rest) ⟨t, r⟩ k :=
  planL_eff0 _ [(g, .obj (ownS e E (xs.set j v')))] [g] [] (rd2_ok (by simp [Op.operands]) (by simp [Op.operands])) hgd rfl (rd2 hx hy) (fun r' hF _ => op_store_own rfl ((hF g (List.mem_singleton.2 rfl)).trans hg) hoff hj hi ‹_› hl hle hlf hv) hk

/-! ### A row made -/
theorem all_replicate {α : Type} (E : Enc α) (z : α) (n : Nat) : E.all (List.replicate n z) = (List.replicate n (E.f z)).flatten := by
  rw [Enc.all, List.flatMap_def, List.map_replicate]
theorem madeCells_rep (z : Array Value) (n : Nat) : (madeCells z (n * z.size)).toList = (List.replicate n z.toList).flatten := by
  induction n with
  | zero => simp [madeCells]
  | succ n ih =>
    rw [List.replicate_succ', List.flatten_append, ← ih]
    apply List.ext_getElem?
    intro j
    have hm : (n + 1) * z.size = n * z.size + z.size := by rw [Nat.add_mul, Nat.one_mul]
    rw [List.getElem?_append]
    simp only [madeCells, hm, Array.toList_map, Array.toList_range, List.length_map, List.length_range, List.getElem?_map, List.flatten_cons, List.flatten_nil, List.append_nil]
    by_cases h1 : j < n * z.size
    · rw [if_pos h1, List.getElem?_range (by omega), List.getElem?_range h1]
    · rw [if_neg h1]
      by_cases h2 : j < n * z.size + z.size
      · rw [List.getElem?_range h2]
        have e : j % z.size = j - n * z.size := by
          have hj : j = (j - n * z.size) + n * z.size := by omega
          conv => lhs; rw [hj]
          rw [Nat.add_mul_mod_self_right, Nat.mod_eq_of_lt (by omega)]
        simp only [Option.map_some, e]
        rw [Array.getElem?_toList, Array.getElem?_eq_getElem (by omega), getElem!_pos]
      · rw [List.getElem?_eq_none (by simp; omega), List.getElem?_eq_none (by simp; omega)]
        rfl
theorem AVRs_flat {ι : Nat → Value} {S : Bl} {w : World} {l : List AV} {us : List Value} (h : AVRs ι S w l us) : ∀ n, AVRs ι S w (List.replicate n l).flatten (List.replicate n us).flatten
  | 0 => rfl
  | n + 1 => by
    rw [List.replicate_succ, List.replicate_succ, List.flatten_cons, List.flatten_cons]
    exact h.append (AVRs_flat h n)
theorem op_make {α : Type} (g : Nat) (E : Enc α) (z : α) {e : TypeId} {i : TyI} {n : Nat} {kd : IntKind} (ho : o.op = .makeSlice ty x y) (hE : sliceE C.P ty = some e) (hi : tyI C.P e = some i) (hsz : i.size = E.sz) (hzl : i.zero.length = E.sz) (hz : LeL (i.zero.map .v) (E.f z)) (hby : i.bytes ≤ 1000000) (hn : n ≤ 1000000) (hf : freshR g r = true) (h0 : look C.r0 g = none) : OpEff C r o [(x, .v (.int kd n)), (y, .v (.int kd n))] (.res g) ((g, .obj (ownS e E (List.replicate n z))) :: r) [g] := fun ι F S w ρ hs hr => by
  have hx := hr (x, .v (.int kd n)) (by simp)
  have hy := hr (y, .v (.int kd n)) (by simp)
  simp only [AVR] at hx hy
  have hu := sliceE_spec hE
  obtain ⟨ti, dd, zv, t1, t2, t3, t4, t5, t6, t7⟩ := tyI_info hi
  have hzs : zv.cells.size = E.sz := by rw [← Array.length_toList, t7]; exact hzl
  have hbn : ti.bytes * n ≤ 1000000 * 1000000 := Nat.mul_le_mul (by omega) hn
  obtain ⟨w', hrun, hown, hgr⟩ := run_make_full (P := C.P) w 0 ty e ti zv E.sz hu t1 t3 (by omega) kd kd n (by omega) (by simp [maxLen]; omega) (Nat.zero_le _)
  have hb : Below w.heap.size w w' := ⟨hgr.os, hgr.tape, hgr.output, hgr.size, fun k hk => hgr.block k hk (by simp)⟩
  have hw := hs.same hb
  have hFut : Fut S w S w' := ⟨fun _ h => h, fun k _ hk => hb.block k hk⟩
  refine Does.value (v := .slice (some ⟨w.heap.size, 0, none⟩) n n) (w' := w') (by simp [execOp, ho, hx, hy, hrun]) ⟨_, _, S, hw.add (g := g) (x := .obj (ownS e E (List.replicate n z))) (v := .slice (some ⟨w.heap.size, 0, none⟩) n n) (G := fun k => k = w.heap.size) hf h0 (fun T l e => by cases e) (fun R e => ?_) (fun k hk => ?_) (fun k hk hS => ?_) (fun g' y hg' hy hne k hk hk' => ?_), hFut, fun j hj => newI_other (mem_one hj), ?_⟩
  · cases e
    refine ⟨⟨_, by rw [List.length_replicate]; exact hown, ?_⟩, fun k => by simp [Value.ownBlock, eq_comm]⟩
    rw [all_replicate, ← hzs, madeCells_rep, t7]
    exact AVRs_flat (hz.R (AVRs_v i.zero)) n
  · subst hk; exact .inl hs.but.size
  · subst hk; have := hs.hs.bnd _ hS; omega
  · subst hk'; have := hs.hs.lt hg' hy hk; omega
  · simp only [AVR, newI_same]
    exact ⟨trivial, rfl⟩
theorem v_make {α : Type} (E : Enc α) (z : α) {e : TypeId} {i : TyI} {n : Nat} {kd : IntKind} (hE : sliceE C.P ty' = some e) (hi : tyI C.P e = some i) (hx : evalA t x = some (.v (.int kd n))) (hy : evalA t y = some (.v (.int kd n))) (hsz : i.size = E.sz) (hzl : i.zero.length = E.sz) (hz : LeL (i.zero.map .v) (E.f z)) (hby : Nat.ble i.bytes 1000000 = true) (hnn : n ≤ 1000000) (hf : freshR d r = true) (hft : freshT d t = true) (h0 : look C.r0 d = none) (hn : Nat.blt d C.N = true) (hk : RunL C ops rest ⟨(d, .res d) :: t, (d, .obj (ownS e E (List.replicate n z))) :: r⟩ k) : RunL C ops (⟨some d, .makeSlice ty' x y, ty, pos, af, none⟩ :: rest) ⟨t, r⟩ k :=
  runL_eff _ [d] rfl rfl hn (rd2 hx hy) (by simp [freshTs, hft]) (op_make d E z rfl hE hi hsz hzl hz (Nat.le_of_ble_eq_true hby) hnn hf h0) hk

/-! ### A resource's value, by its name -/
/-- The resource is known by u. -/
def atS (u : Value) (R : Res) : Res where
  H := fun w S F v => v = u ∧ R.H w S F v
  one := fun h => R.one h.2
  bnd := fun h => R.bnd h.2
  fut := fun hm hw h => ⟨h.1, R.fut hm hw h.2⟩
theorem runL_name {l : List Oper} (n g : Nat) {R : Res} (hx : look t n = some (.res g)) (hg : look r g = some (.obj R)) (h : ∀ u, u.oneCell' = true → RunL C ops l ⟨(n, .v u) :: t, (g, .obj (atS u R)) :: r⟩ k) : RunL C ops l ⟨t, r⟩ k := .mk fun a w hs => by
  obtain ⟨ι, F, S, hA⟩ := hs
  have hR := hA.sw.hs.ob g _ hg
  obtain ⟨hw, _⟩ := hA.sw.turn (x' := .obj (atS (ι g) R)) hg rfl (But.refl _ _) (fun _ _ e => by cases e) (fun R' e => by cases e; exact ⟨rfl, hR⟩)
  refine (h (ι g) (R.one hR)).go a w ⟨ι, F, S, hw, fun m z hz => ?_, hA.sz, hA.df⟩
  rw [look_cons] at hz
  by_cases hm : n = m
  · subst hm
    rw [if_pos rfl] at hz
    cases hz
    obtain ⟨u, h1, h2⟩ := hA.ts n _ hx
    simp only [AVR] at h2
    exact ⟨u, h1, by simp only [AVR]; exact h2.1⟩
  · rw [if_neg hm] at hz
    exact hA.ts m z hz
/-- A row as another kind of row. -/
theorem run_recode (g : Nat) {α β : Type} {e : TypeId} {E : Enc α} {E' : Enc β} {xs : List α} {ys : List β} (hg : look r g = some (.obj (ownS e E xs))) (hsz : E.sz = E'.sz) (hl : xs.length = ys.length) (hle : LeL (E.all xs) (E'.all ys)) (h : Run C k ⟨t, (g, .obj (ownS e E' ys)) :: r⟩) : Run C k ⟨t, r⟩ := .mk fun a w hs => by
  obtain ⟨ι, F, S, hA⟩ := hs
  obtain ⟨⟨us, h1, h2⟩, h3⟩ := hA.sw.hs.ob g _ hg
  obtain ⟨hw, _⟩ := hA.sw.turn (x' := .obj (ownS e E' ys)) hg rfl (But.refl _ _) (fun _ _ e => by cases e) (fun R' e => by cases e; exact ⟨⟨us, by rw [← hsz, ← hl]; exact h1, hle.R h2⟩, h3⟩)
  exact h.go a w ⟨ι, F, S, hw, hA.ts, hA.sz, hA.df⟩
def LeU (u : Value) (p : Sem) (x y : AV) : Prop := ∀ ι S w v, p.R w S u → AVR ι S w x v → AVR ι S w y v
def LeUs (u : Value) (p : Sem) : List AV → List AV → Prop
  | [], [] => True
  | x :: l, y :: l' => LeU u p x y ∧ LeUs u p l l'
  | _, _ => False
theorem LeU.refl {u : Value} {p : Sem} {x : AV} : LeU u p x x := fun _ _ _ _ _ h => h
theorem LeU.here {u : Value} {p : Sem} : LeU u p (.v u) (.sem p) := fun ι S w v hp h => by
  simp only [AVR] at h ⊢
  rw [h]; exact hp
theorem LeUs.refl {u : Value} {p : Sem} : ∀ {l : List AV}, LeUs u p l l
  | [] => trivial
  | _ :: _ => ⟨LeU.refl, LeUs.refl⟩
theorem LeUs.append {u : Value} {p : Sem} : ∀ {a a' b b' : List AV}, LeUs u p a a' → LeUs u p b b' → LeUs u p (a ++ b) (a' ++ b')
  | [], [], b, b', _, h => h
  | _ :: a, _ :: a', b, b', h, h' => ⟨h.1, LeUs.append h.2 h'⟩
theorem LeUs.R {ι : Nat → Value} {S : Bl} {w : World} {u : Value} {p : Sem} (hp : p.R w S u) : ∀ {l l' : List AV} {us : List Value}, LeUs u p l l' → AVRs ι S w l us → AVRs ι S w l' us
  | [], [], us, _, h => h
  | x :: l, y :: l', us, hl, h => by
    simp only [AVRs] at h
    obtain ⟨v, r, e, h1, h2⟩ := h
    exact ⟨v, r, e, hl.1 _ _ _ _ hp h1, LeUs.R hp hl.2 h2⟩
/-- The row g2, known by u, is left as it is from here on; where u stands in row g1 that says what it reads as. -/
theorem run_sink (g g2 : Nat) {α β γ : Type} {e e2 : TypeId} {E : Enc α} {E' : Enc β} {E2 : Enc γ} {xs : List α} {ys : List β} {ks : List γ} {u : Value} (hg : look r g = some (.obj (ownS e E xs))) (hg2 : look r g2 = some (.obj (atS u (ownS e2 E2 ks)))) (hne : Nat.beq g g2 = false) (hsz : E.sz = E'.sz) (hl : xs.length = ys.length) (hle : LeUs u (listS E2 ks) (E.all xs) (E'.all ys)) (h : Run C k ⟨t, (g, .obj (ownS e E' ys)) :: (g2, .dead) :: r⟩) : Run C k ⟨t, r⟩ := .mk fun a w hs => by
  obtain ⟨ι, F, S, hA⟩ := hs
  have hne' : g ≠ g2 := fun e => by subst e; simp at hne
  have hd := hA.sw.drop g2 hg2 rfl
  have hF : Fut S w (fun k => S k ∨ F g2 k) w := ⟨fun k hk => .inl hk, fun _ _ _ => rfl⟩
  have hg' : look ((g2, RK.dead) :: r) g = some (.obj (ownS e E xs)) := by rw [look_cons, if_neg (Ne.symm hne')]; exact hg
  obtain ⟨⟨us, h1, h2⟩, h3⟩ := hd.hs.ob g _ hg'
  obtain ⟨hu, hR2⟩ := hA.sw.hs.ob g2 _ hg2
  have hp : (listS E2 ks).R w (fun k => S k ∨ F g2 k) u := by
    rw [← hu]
    exact ownS_list hR2 (fun k hk => .inl hk) (fun k hk => .inr hk)
  obtain ⟨hw, _⟩ := hd.turn (x' := .obj (ownS e E' ys)) hg' rfl (But.refl _ _) (fun _ _ e => by cases e) (fun R' e => by cases e; exact ⟨⟨us, by rw [← hsz, ← hl]; exact h1, hle.R hp h2⟩, h3⟩)
  exact h.go a w ⟨ι, F, _, hw, hA.ts.fut hF fun _ _ _ _ _ => rfl, hA.sz, hA.df⟩
/-- 'copy' into a row that is known by u. -/
theorem op_copyU {e : TypeId} {α : Type} {E : Enc α} {xs ys : List α} {u : Value} (ho : o.op = .call { callee := .builtin .copy, args := #[x, y], argTypes := #[ty, ty] }) (hg : look r g = some (.obj (atS u (ownS e E xs)))) {e' : TypeId} {i : TyI} (hE : sliceE C.P ty = some e') (hi : tyI C.P e' = some i) (hsz : i.size = 1) (hs1 : E.sz = 1) (hl : xs.length = ys.length) : OpEff C r o [(x, .v u), (y, .sem (listS E ys))] (.v (.int .i64 ys.length)) ((g, .obj (atS u (ownS e E ys))) :: r) [] := fun ι F S w ρ hs hr => by
  have hx := hr (x, .v u) (by simp)
  have hy := hr (y, .sem (listS E ys)) (by simp)
  simp only [AVR] at hx hy
  obtain ⟨A, c, hy, hc, hA⟩ := hy
  obtain ⟨hu, ⟨us, h1, h2⟩, h3⟩ := hs.hs.ob g _ hg
  have hund := sliceE_spec hE
  obtain ⟨ti, dd, zv, t1, t2, t3, t4, t5, t6, t7⟩ := tyI_info hi
  have hinf : (C.P.info? e').map (·.size) = some 1 := by rw [t1]; simp [t5, hsz]
  by_cases h0 : ys.length = 0
  · have hys : ys = [] := List.eq_nil_of_length_eq_zero h0
    have hxs : xs = [] := List.eq_nil_of_length_eq_zero (by omega)
    subst hys
    subst hxs
    have hform : ∃ A' c', u = .slice A' 0 c' := by
      rcases h1.2 with ⟨hv, _⟩ | ⟨b, cap, cur, hv, _⟩
      · exact ⟨none, 0, by rw [← hu]; exact hv⟩
      · exact ⟨_, cap, by rw [← hu]; exact hv⟩
    obtain ⟨A', c', hu'⟩ := hform
    have hrun := run_copy_none (P := C.P) w ty ty o.type e' A' A 0 c' 0 c hund hinf (by simp)
    refine Does.value (v := goInt 0) (w' := w) ?_ ⟨ι, F, S, hs.congr fun g' => ?_, Fut.refl _ _, fun _ _ => rfl, by simp [AVR, goInt]⟩
    · subst hu'
      simp [execOp, ho, resolve, invoke, builtin, hx, hy, hrun]
    · rw [look_cons]
      by_cases e' : g = g'
      · subst e'; rw [if_pos rfl, hg]
      · rw [if_neg e']
  · rcases h1.2 with ⟨_, h0'⟩ | ⟨b, cap, cur, hv, hbase, hh, hn, hcap, hsz', htk⟩
    · omega
    · rcases hA with hA | ⟨b2, off, rfl, hb2, us2, v1, v2⟩
      · exfalso
        have := E.all_len ys
        rw [hA, hs1] at this
        simp at this
        omega
      · have hl2 : us2.length = ys.length := by rw [v1.length, E.all_len, hs1, Nat.mul_one]
        have hone := v1.leaf_one (E.all_leaf ys)
        rw [hs1, Nat.mul_one] at hsz' htk
        have hrun := run_copy_row (P := C.P) w ty ty o.type e' b 0 xs.length cap ⟨b2, off, none⟩ ys.length c cur e us2 hund hinf hh (by rw [hl2]; simp [hl]) (fun j v hj => v2 j v hj) (by omega) hone
        rw [List.take_zero, List.nil_append, Nat.zero_add] at hrun
        have hFg : ∀ k, F g k ↔ k = b := fun k => by rw [h3, hv]; simp [Value.ownBlock, eq_comm]
        have hbut : But (F g) w (w.setRow b (us2 ++ cur.toList.drop us2.length).toArray) := ⟨rfl, rfl, rfl, by simp, fun k _ hn => setRow_other w b k _ fun e => hn ((hFg k).2 e)⟩
        have hFut : Fut S w S (w.setRow b (us2 ++ cur.toList.drop us2.length).toArray) := ⟨fun _ h => h, fun k hk hl => hbut.block k hl fun hf => hs.hs.out g _ hg rfl k hf hk⟩
        obtain ⟨hw, _⟩ := hs.turn (x' := .obj (atS u (ownS e E ys))) hg rfl hbut (fun T l' e => by cases e) (fun R e0 => by
          cases e0
          refine ⟨hu, ⟨us2, ⟨by rw [hl2, hs1, Nat.mul_one], .inr ⟨b, cap, _, by rw [hv, hl], hbase, setRow_heap w b cur _ e (0, 0) hh, by omega, hcap, ?_, ?_⟩⟩, (v1.fut hFut fun _ _ => rfl)⟩, h3⟩
          · rw [hs1, Nat.mul_one, List.size_toArray, List.length_append, List.length_drop]
            have : cur.toList.length = cur.size := Array.length_toList
            omega
          · rw [hs1, Nat.mul_one, List.toList_toArray, ← hl2, List.take_left])
        refine Does.value (v := goInt us2.length) (w' := w.setRow b (us2 ++ cur.toList.drop us2.length).toArray) ?_ ⟨ι, F, S, hw, hFut, fun _ _ => rfl, by simp [AVR, goInt, hl2]⟩
        have hux : ρ x = .slice (some ⟨b, 0, none⟩) xs.length cap := by rw [hx, ← hu]; exact hv
        simp [execOp, ho, resolve, invoke, builtin, hux, hy, hrun]
theorem v_copyU {e : TypeId} {α : Type} {E : Enc α} {xs ys : List α} {u : Value} (g : Nat) {e' : TypeId} {i : TyI} (hE : sliceE C.P ty' = some e') (hi : tyI C.P e' = some i) (hx : evalA t x = some (.v u)) (hy : evalA t y = some (.sem (listS E ys))) (hg : look r g = some (.obj (atS u (ownS e E xs)))) (hsz : i.size = 1) (hs1 : E.sz = 1) (hl : xs.length = ys.length) (hn : Nat.blt d C.N = true) (hk : RunL C ops rest ⟨(d, .v (.int .i64 ys.length)) :: t, (g, .obj (atS u (ownS e E ys))) :: r⟩ k) : RunL C ops (⟨some d, .call { callee := .builtin .copy, args := #[x, y], argTypes := #[ty', ty'] }, ty, pos, af, none⟩ :: rest) ⟨t, r⟩ k :=
  runL_eff _ [] rfl rfl hn (rd2 hx hy) rfl (op_copyU rfl hg hE hi hsz hs1 hl) hk
end
end Go.Proofs.Ytjkidecaciomgaa
/- VL, part 14: what is made is left as it is from here on. -/
namespace Go.Proofs.Ytjkidecaciomgaa
set_option linter.unusedVariables false
set_option linter.unusedSimpArgs false
open Go.RowKit

/-- Where g stands, that says what it reads as. -/
def sinkA (g : Nat) (p : Sem) : AV → AV
  | .res i => bif Nat.beq i g then .sem p else .res i
  | x => x
section
variable {C : Cx} {k : List Item} {t : List (Nat × AV)} {r : List (Nat × RK)}
theorem sink_R {ι : Nat → Value} {S : Bl} {w : World} {g : Nat} {p : Sem} (hp : p.R w S (ι g)) : ∀ {l : List AV} {us : List Value}, AVRs ι S w l us → AVRs ι S w (l.map (sinkA g p)) us
  | [], us, h => h
  | x :: l, us, h => by
    simp only [AVRs, List.map_cons] at h ⊢
    obtain ⟨u, r, e, h1, h2⟩ := h
    refine ⟨u, r, e, ?_, sink_R hp h2⟩
    cases x <;> simp only [sinkA] <;> try exact h1
    rename_i i
    cases hb : Nat.beq i g with
    | false => exact h1
    | true =>
      have := Nat.eq_of_beq_eq_true hb
      subst this
      simp only [AVR] at h1
      rw [cond_true]
      simp only [AVR]
      rw [h1.1]
      exact hp
/-- A row that a box names is left as it is. -/
theorem run_freezeIn (g g1 : Nat) {T : TypeId} {l : List AV} {α : Type} {e : TypeId} {E : Enc α} {xs : List α} (hg : look r g = some (.box T l)) (hg1 : look r g1 = some (.obj (ownS e E xs))) (hne : Nat.beq g g1 = false) (h : Run C k ⟨t, (g, .box T (l.map (sinkA g1 (listS E xs)))) :: (g1, .dead) :: r⟩) : Run C k ⟨t, r⟩ := .mk fun a w hs => by
  obtain ⟨ι, F, S, hA⟩ := hs
  have hne' : g ≠ g1 := fun e => by subst e; simp at hne
  have hd := hA.sw.drop g1 hg1 rfl
  have hF : Fut S w (fun k => S k ∨ F g1 k) w := ⟨fun k hk => .inl hk, fun _ _ _ => rfl⟩
  have hg' : look ((g1, RK.dead) :: r) g = some (.box T l) := by rw [look_cons, if_neg (Ne.symm hne')]; exact hg
  obtain ⟨b, h1, h2, cs, h3, h4⟩ := hd.hs.bx g T l hg'
  have hp : (listS E xs).R w (fun k => S k ∨ F g1 k) (ι g1) := ownS_list (hA.sw.hs.ob g1 _ hg1) (fun k hk => .inl hk) (fun k hk => .inr hk)
  obtain ⟨hw, _⟩ := hd.turn (x' := .box T (l.map (sinkA g1 (listS E xs)))) hg' rfl (But.refl _ _) (fun T' l' e => by cases e; exact ⟨b, h1, h2, cs, h3, sink_R hp h4⟩) (fun R' e => by cases e)
  exact h.go a w ⟨ι, F, _, hw, hA.ts.fut hF fun _ _ _ _ _ => rfl, hA.sz, hA.df⟩
/-- A box is left as it is. -/
theorem run_pub (n g : Nat) {T : TypeId} {l : List AV} (hx : look t n = some (.ptr g 0)) (hg : look r g = some (.box T l)) (hl : AV.leaves l = true) (h : Run C k ⟨(n, .sem (adrS l)) :: t, (g, .dead) :: r⟩) : Run C k ⟨t, r⟩ := .mk fun a w hs => by
  obtain ⟨ι, F, S, hA⟩ := hs
  have hF : Fut S w (fun k => S k ∨ F g k) w := ⟨fun k hk => .inl hk, fun _ _ _ => rfl⟩
  refine h.go a w ⟨ι, F, _, hA.sw.drop g hg rfl, fun m z hz => ?_, hA.sz, hA.df⟩
  rw [look_cons] at hz
  by_cases hm : n = m
  · subst hm
    rw [if_pos rfl] at hz
    cases hz
    obtain ⟨u, h1, h2⟩ := hA.ts n _ hx
    simp only [AVR] at h2
    obtain ⟨b', hb', rfl⟩ := h2
    obtain ⟨b, e1, e2, cs, e3, e4⟩ := hA.sw.hs.bx g T l hg
    rw [e1] at hb'
    obtain rfl : b = b' := by simpa [baseOf] using hb'
    refine ⟨_, h1, ?_⟩
    simp only [AVR]
    refine ⟨b, 0, rfl, .inr ((e2 b).2 rfl), cs.toList, (e4.leaf_any hl).fut hF fun _ _ => rfl, fun j u hu => ?_⟩
    rw [Addr.add_lit, Nat.zero_add, cell_of_row w b _ cs T (0, 0) e3, ← Array.getElem?_toList]
    exact hu
  · rw [if_neg hm] at hz
    obtain ⟨u, h1, h2⟩ := hA.ts m z hz
    exact ⟨u, h1, h2.fut hF fun _ _ => rfl⟩
/-- nil in a box, as a row of the call's own. -/
theorem run_ownB (g i g' : Nat) {T : TypeId} {l : List AV} {α : Type} (e : TypeId) (E : Enc α) (hg : look r g = some (.box T l)) (hi : l[i]? = some (.v (.slice none 0 0))) (hne : Nat.beq g g' = false) (hl : AV.hasL g' l = false) (hf : freshR g' r = true) (hft : freshT g' t = true) (h0 : look C.r0 g' = none) (h : Run C k ⟨t, (g, .box T (l.set i (.res g'))) :: (g', .obj (ownS e E [])) :: r⟩) : Run C k ⟨t, r⟩ := .mk fun a w hs => by
  obtain ⟨ι, F, S, hA⟩ := hs
  have hne' : g ≠ g' := fun e => by subst e; simp at hne
  have hw := hA.sw.add (x := .obj (ownS e E [])) (v := .slice none 0 0) (G := fun _ => False) hf h0 (fun T l he => by cases he) (fun R he => by cases he; exact ownS_nil e E w S) (fun k hk => hk.elim) (fun k hk => hk.elim) (fun _ _ _ _ _ _ _ hk => hk)
  have hg' : look ((g', RK.obj (ownS e E [])) :: r) g = some (.box T l) := by rw [look_cons, if_neg (Ne.symm hne')]; exact hg
  obtain ⟨b, h1, h2, cs, h3, h4⟩ := hw.hs.bx g T l hg'
  obtain ⟨u, hu1, hu2⟩ := h4.get hi
  simp only [AVR] at hu2
  subst hu2
  have hset : cs.toList.set i (.slice none 0 0) = cs.toList := by
    apply List.ext_getElem?
    intro j
    rw [List.getElem?_set]
    by_cases e : i = j
    · subst e
      rw [if_pos rfl, if_pos (List.getElem?_eq_some_iff.1 hu1).1, hu1]
    · rw [if_neg e]
  have h5 := h4.set (i := i) (x := .res g') (u := .slice none 0 0) (by simp [AVR, newI_same, Value.oneCell'])
  rw [hset] at h5
  obtain ⟨hw2, _⟩ := hw.turn (x' := .box T (l.set i (.res g'))) hg' rfl (But.refl _ _) (fun T' l' e => by cases e; exact ⟨b, h1, h2, cs, h3, h5⟩) (fun R' e => by cases e)
  exact h.go a w ⟨_, _, _, hw2, hA.ts.fut (Fut.refl _ _) fun n x hx g hg => newI_other fun e => (by subst e; rw [freshT_look hft hx] at hg; cases hg), hA.sz, hA.df⟩
theorem runL_ownB {ops : Array Oper} {ls : List Oper} (g i g' : Nat) {T : TypeId} {l : List AV} {α : Type} (e : TypeId) (E : Enc α) (hg : look r g = some (.box T l)) (hi : l[i]? = some (.v (.slice none 0 0))) (hne : Nat.beq g g' = false) (hl : AV.hasL g' l = false) (hf : freshR g' r = true) (hft : freshT g' t = true) (h0 : look C.r0 g' = none) (h : RunL C ops ls ⟨t, (g, .box T (l.set i (.res g'))) :: (g', .obj (ownS e E [])) :: r⟩ k) : RunL C ops ls ⟨t, r⟩ k := .mk fun a w hs => by
  obtain ⟨ι, F, S, hA⟩ := hs
  have hne' : g ≠ g' := fun e => by subst e; simp at hne
  have hw := hA.sw.add (x := .obj (ownS e E [])) (v := .slice none 0 0) (G := fun _ => False) hf h0 (fun T l he => by cases he) (fun R he => by cases he; exact ownS_nil e E w S) (fun k hk => hk.elim) (fun k hk => hk.elim) (fun _ _ _ _ _ _ _ hk => hk)
  have hg' : look ((g', RK.obj (ownS e E [])) :: r) g = some (.box T l) := by rw [look_cons, if_neg (Ne.symm hne')]; exact hg
  obtain ⟨b, h1, h2, cs, h3, h4⟩ := hw.hs.bx g T l hg'
  obtain ⟨u, hu1, hu2⟩ := h4.get hi
  simp only [AVR] at hu2
  subst hu2
  have hset : cs.toList.set i (.slice none 0 0) = cs.toList := by
    apply List.ext_getElem?
    intro j
    rw [List.getElem?_set]
    by_cases e : i = j
    · subst e
      rw [if_pos rfl, if_pos (List.getElem?_eq_some_iff.1 hu1).1, hu1]
    · rw [if_neg e]
  have h5 := h4.set (i := i) (x := .res g') (u := .slice none 0 0) (by simp [AVR, newI_same, Value.oneCell'])
  rw [hset] at h5
  obtain ⟨hw2, _⟩ := hw.turn (x' := .box T (l.set i (.res g'))) hg' rfl (But.refl _ _) (fun T' l' e => by cases e; exact ⟨b, h1, h2, cs, h3, h5⟩) (fun R' e => by cases e)
  exact h.go a w ⟨_, _, _, hw2, hA.ts.fut (Fut.refl _ _) fun n x hx g hg => newI_other fun e => (by subst e; rw [freshT_look hft hx] at hg; cases hg), hA.sz, hA.df⟩
end
/-- A body that ends. -/
theorem run_end {C : Cx} {σ : VS} (m : Nat → Nat) (l : List AV) (hf : C.P.funcs[C.f]? = some C.fn) (hl : ResA C.P σ C.fn.results.toList l) (hrv : oneA l = C.rv.ren m) (hk : KeepM m C.r0) (hr : WkR σ.r m C.r1) (hn : nodupB (idsM m C.r1) = true) : Run C [] σ := .mk fun a w hs => by
  obtain ⟨ι, F, S, hA⟩ := hs
  obtain ⟨us, h1, h2⟩ := resA_run hA.sw.hs hA.ts hl
  have key : ∃ u, (results C.fn a.tmps).run C.P w = .ok u w ∧ AVR ι S w (oneA l) u := by
    have hm : (C.fn.results.mapM (resF a.tmps)).run C.P w = Result.ok us.toArray w := by
      rw [Array.mapM_eq_mapM_toList]
      simp only [Sem.run_map, h1, Result.andThen_ok]
    refine ⟨_, by
      have he : results C.fn a.tmps = (do let vs ← C.fn.results.mapM (resF a.tmps); pure (if h : vs.size = 1 then vs[0] else .tuple vs)) := by
        unfold results
        congr 1
      rw [he, Sem.run_bind, hm, Result.andThen_ok]
      rfl, ?_⟩
    have hlen := h2.length
    match l, us, h2, hlen with
    | [x], [u], h2, _ =>
      simp only [AVRs] at h2
      obtain ⟨u', r, e, h3, _⟩ := h2
      cases e
      simpa [oneA] using h3
    | [], [], h2, _ => exact ⟨[], by simp, h2⟩
    | x :: y :: l, u :: v :: us, h2, _ => exact ⟨u :: v :: us, by simp, h2⟩
    | [x], [], _, h => simp at h
    | [x], _ :: _ :: _, _, h => simp at h
    | [], _ :: _, _, h => simp at h
    | _ :: _ :: _, [], _, h => simp at h
    | _ :: _ :: _, [_], _, h => simp at h
  obtain ⟨u, h3, h4⟩ := key
  intro b cs hbf hbk
  refine ⟨.returned u, w, { b.at a [] with mode := .returning }, ?_, .one step_end, hbf, rfl, hA.df, hbk, C.fn, by show C.P.funcs[b.fn]? = _; rw [hbf]; exact hf, h3⟩
  rw [hrv] at h4
  refine ⟨fun g => ι (m g), fun g => F (m g), S, u, rfl, hA.sw.hs.ren hr hn, AVR.ren.1 h4, hA.sw.fut, fun g x hg hx => ?_, hA.sw.but, hA.sw.sb, fun g x hg hx => hA.sw.own _ _ (hr.look hg) (by rw [RK.live_ren]; exact hx)⟩
  show ι (m g) = C.ι0 g
  rw [hk.look hg]; exact hA.sw.keep g x hg hx
/-- A contract without resources, as a walk: all that was there may be read. -/
theorem Fun.calls {P : Program} {f : FuncId} {l : List AV} {u : Value} (h : Fun P f l [] (.v u) []) {w : World} {vals : List Value} (hv : AVRs ι0 (fun k => k < w.heap.size) w l vals) : Calls P f vals.toArray w fun e w' => e = .returned u ∧ Below w.heap.size w w' :=
  (h ι0 (fun _ _ => False) (fun k => k < w.heap.size) w vals ⟨fun _ _ _ h => (by cases h), fun _ _ h => (by cases h), fun _ _ _ _ h => (by cases h), fun _ _ h => (by cases h), fun _ h => h⟩ hv).mono fun e w' hr => by
    obtain ⟨ι', F', S', u', rfl, h1, h2, h3, h4, h5, h6, h7⟩ := hr
    simp only [AVR] at h2
    subst h2
    exact ⟨rfl, h5.os, h5.tape, h5.output, h5.size, fun k hk => h5.block k hk (fun ⟨_, _, h, _⟩ => by cases h)⟩
end Go.Proofs.Ytjkidecaciomgaa
/- VL, part 15: a map of its own, from integers to truth: a set. -/
namespace Go.Proofs.Ytjkidecaciomgaa
set_option linter.unusedVariables false
set_option linter.unusedSimpArgs false
open Go.RowKit
open Go.MapKept (IsKey)

/-- The entries are those of a set. -/
def FitM (es : Array MapEntry) (M : List Int) : Prop := (∀ x ∈ es.toList, ∃ n : Int, x.key = .int .i64 n ∧ x.val = .bool true ∧ n ∈ M) ∧ ∀ n ∈ M, ∃ x ∈ es.toList, x.key = .int .i64 n
def mapS (M : List Int) : Res where
  H := fun w S F v => ∃ b es clock, v = .map (some b) ∧ (∀ k, F k ↔ k = b) ∧ w.heap[b]? = some (.map es clock) ∧ FitM es M
  one := by
    rintro w S F v ⟨b, es, clock, rfl, _⟩
    rfl
  bnd := by
    rintro w S F v ⟨b, es, clock, rfl, hF, hb, _⟩ k hk
    rw [hF] at hk
    subst hk
    exact (Array.getElem?_eq_some_iff.1 hb).1
  fut := by
    rintro w w' S S' F v hm hw ⟨b, es, clock, rfl, hF, hb, h⟩
    exact ⟨b, es, clock, rfl, hF, by rw [hw b (.inr ((hF b).2 rfl)) (Array.getElem?_eq_some_iff.1 hb).1]; exact hb, h⟩
def zeroV (P : Program) (T : TypeId) : Option Value := (P.info? T).bind fun i => i.zero
theorem zeroV_run {P : Program} {T : TypeId} {z : Value} (h : zeroV P T = some z) (w : World) : (zeroValue T).run P w = .ok z w := by
  unfold zeroV at h
  cases hi : P.info? T with
  | none => rw [hi] at h; cases h
  | some i =>
    rw [hi] at h
    simp only [Option.bind_some] at h
    simp [zeroValue, typeInfo, hi, h]
def mapK (P : Program) (T : TypeId) : Option (TypeId × TypeId) := match P.underlying T with | some (.map k e) => some (k, e) | _ => none
theorem mapK_spec {P : Program} {T k e : TypeId} (h : mapK P T = some (k, e)) : P.underlying T = some (.map k e) := by
  unfold mapK at h
  split at h
  · next h1 => cases h; exact h1
  · cases h
section
variable {C : Cx} {r : List (Nat × RK)} {o : Oper} {x y z : Operand} {ty kt et : TypeId} {g : Nat}
theorem op_makeMap (g : Nat) (ho : o.op = .makeMap ty none) (hf : freshR g r = true) (h0 : look C.r0 g = none) : OpEff C r o [] (.res g) ((g, .obj (mapS [])) :: r) [g] := fun ι F S w ρ hs hr => by
  have hrun : (Instr.makeMap ty none).run C.P w = .ok (.map (some w.heap.size)) (w.alloc (.map #[] 0)) := by
    simp [Instr.makeMap]
  have hb : Below w.heap.size w (w.alloc (.map #[] 0)) := (Below.refl _ _).alloc (Nat.le_refl _) _
  have hw := hs.same hb
  have hFut : Fut S w S (w.alloc (.map #[] 0)) := ⟨fun _ h => h, fun k _ hk => hb.block k hk⟩
  refine Does.value (v := .map (some w.heap.size)) (w' := w.alloc (.map #[] 0)) (by simp [execOp, ho, hrun]) ?_
  refine ⟨_, _, S, hw.add (g := g) (x := .obj (mapS [])) (v := .map (some w.heap.size)) (G := fun k => k = w.heap.size) hf h0 (fun T l e => by cases e) (fun R e => ?_) (fun k hk => ?_) (fun k hk hS => ?_) (fun g' y hg' hy hne k hk hk' => ?_), hFut, fun j hj => newI_other (mem_one hj), ?_⟩
  · cases e
    exact ⟨w.heap.size, #[], 0, rfl, fun _ => Iff.rfl, heap_alloc_new w _, fun x hx => by simp at hx, fun n hn => by simp at hn⟩
  · subst hk; exact .inl hs.but.size
  · subst hk; have := hs.hs.bnd _ hS; omega
  · subst hk'; have := hs.hs.lt hg' hy hk; omega
  · simp only [AVR, newI_same]
    exact ⟨trivial, rfl⟩
theorem op_lookup {n : Int} {M : List Int} (ho : o.op = .lookup ty x y false) (hg : look r g = some (.obj (mapS M))) (hm : mapK C.P ty = some (kt, et)) (hk : C.P.underlying kt = some (.int .i64)) (hz : zeroV C.P et = some (.bool false)) : OpPure C r o [(x, .res g), (y, .v (.int .i64 n))] (.v (.bool (decide (n ∈ M)))) := OpPure.here fun ι F S w ρ hs hr => by
  have hx := hr (x, .res g) (by simp)
  have hy := hr (y, .v (.int .i64 n)) (by simp)
  simp only [AVR] at hx hy
  obtain ⟨b, es, clock, hv, hF, hb, h1, h2⟩ := hs.hs.ob g _ hg
  have hkey : IsKey (.int .i64) (.int .i64 n) := rfl
  have hks : ∀ x ∈ es.toList, IsKey (.int .i64) x.key := fun x hx => by
    obtain ⟨m, h3, _⟩ := h1 x hx
    rw [h3]; rfl
  refine ⟨.bool (decide (n ∈ M)), ?_, by simp [AVR]⟩
  have hrun : (Instr.lookup ty (.map (some b)) (.int .i64 n) false).run C.P w = .ok (.bool (decide (n ∈ M))) w := by
    rcases Go.MapKept.findNow_spec hkey es.toList 0 hks with ⟨h3, h4⟩ | ⟨j, e, h3, h4, h5⟩
    · have hn : n ∉ M := fun hn => by
        obtain ⟨x, hx, he⟩ := h2 n hn
        exact h4 x hx he
      simp [Instr.lookup, run_underlying (mapK_spec hm), Go.MapKept.run_getObj_map hb, Go.MapKept.run_checkKey hk hkey, Go.MapKept.run_findKey hk h3, zeroV_run hz, Result.andThen, hn]
    · obtain ⟨m, h6, h7, h8⟩ := h1 e (List.mem_of_getElem? h4)
      have hn : n ∈ M := by
        rw [h6] at h5
        cases h5
        exact h8
      simp [Instr.lookup, run_underlying (mapK_spec hm), Go.MapKept.run_getObj_map hb, Go.MapKept.run_checkKey hk hkey, Go.MapKept.run_findKey hk h3, Result.andThen, hn, h7]
  simp [execOp, ho, hx.1, hv, hy, hrun]
theorem op_mapUpdate {n : Int} {M : List Int} (ho : o.op = .mapUpdate ty x y z) (hg : look r g = some (.obj (mapS M))) (hm : mapK C.P ty = some (kt, et)) (hk : C.P.underlying kt = some (.int .i64)) : OpEff C r o [(x, .res g), (y, .v (.int .i64 n)), (z, .v (.bool true))] (.v undef) ((g, .obj (mapS (n :: M))) :: r) [] := fun ι F S w ρ hs hr => by
  have hx := hr (x, .res g) (by simp)
  have hy := hr (y, .v (.int .i64 n)) (by simp)
  have hz := hr (z, .v (.bool true)) (by simp)
  simp only [AVR] at hx hy hz
  obtain ⟨b, es, clock, hv, hF, hb, h1, h2⟩ := hs.hs.ob g _ hg
  have hkey : IsKey (.int .i64) (.int .i64 n) := rfl
  have hks : ∀ x ∈ es.toList, IsKey (.int .i64) x.key := fun x hx => by
    obtain ⟨m, h3, _⟩ := h1 x hx
    rw [h3]; rfl
  have hrun : ∃ es' clock', (Instr.mapUpdate ty (.map (some b)) (.int .i64 n) (.bool true)).run C.P w = .ok () { w with heap := w.heap.setIfInBounds b (.map es' clock') } ∧ FitM es' (n :: M) := by
    rcases Go.MapKept.findNow_spec hkey es.toList 0 hks with ⟨h3, h4⟩ | ⟨j, e, h3, h4, h5⟩
    · refine ⟨es.push ⟨.int .i64 n, .bool true, clock⟩, clock + 1, ?_, fun x hx => ?_, fun m hm => ?_⟩
      · simp [Instr.mapUpdate, run_underlying (mapK_spec hm), Go.MapKept.run_getObj_map hb, Go.MapKept.run_checkKey hk hkey, Go.MapKept.run_findKey hk h3, Go.MapKept.run_setObj_map _ hb, Result.andThen]
      · simp only [Array.toList_push, List.mem_append, List.mem_singleton] at hx
        rcases hx with hx | rfl
        · obtain ⟨m, h6, h7, h8⟩ := h1 x hx
          exact ⟨m, h6, h7, List.mem_cons_of_mem _ h8⟩
        · exact ⟨n, rfl, rfl, List.mem_cons_self⟩
      · simp only [Array.toList_push, List.mem_append, List.mem_singleton]
        rcases List.mem_cons.1 hm with rfl | hm
        · exact ⟨_, .inr rfl, rfl⟩
        · obtain ⟨x, hx, he⟩ := h2 m hm
          exact ⟨x, .inl hx, he⟩
    · have hj : es[j]? = some e := by simpa using h4
      refine ⟨es.modify j (fun e' => { e' with key := .int .i64 n, val := .bool true }), clock, ?_, fun x hx => ?_, fun m hm => ?_⟩
      · simp [Instr.mapUpdate, run_underlying (mapK_spec hm), Go.MapKept.run_getObj_map hb, Go.MapKept.run_checkKey hk hkey, Go.MapKept.run_findKey hk h3, hj, h5, Go.MapKept.run_keyThatStays hkey, Go.MapKept.run_setObj_map _ hb, Result.andThen]
      · rcases MapFrom.mem_modify hx with hx | ⟨e', _, rfl⟩
        · obtain ⟨m, h6, h7, h8⟩ := h1 x hx
          exact ⟨m, h6, h7, List.mem_cons_of_mem _ h8⟩
        · exact ⟨n, rfl, rfl, List.mem_cons_self⟩
      · have hjl : j < es.size := (Array.getElem?_eq_some_iff.1 hj).1
        have hnew : ∃ x ∈ (es.modify j (fun e' => { e' with key := .int .i64 n, val := .bool true })).toList, x.key = .int .i64 n := by
          refine ⟨{ e with key := .int .i64 n, val := .bool true }, List.mem_of_getElem? (i := j) ?_, rfl⟩
          rw [Array.getElem?_toList, Array.getElem?_modify, if_pos rfl, hj]
          rfl
        rcases List.mem_cons.1 hm with rfl | hm
        · exact hnew
        · obtain ⟨x, hx, he⟩ := h2 m hm
          obtain ⟨i, hi⟩ := List.getElem?_of_mem hx
          by_cases hij : j = i
          · subst hij
            rw [h4] at hi
            cases hi
            rw [he] at h5
            cases h5
            exact hnew
          · refine ⟨x, List.mem_of_getElem? (i := i) ?_, he⟩
            rw [Array.getElem?_toList, Array.getElem?_modify, if_neg hij]
            simpa using hi
  obtain ⟨es', clock', hrun, hfit⟩ := hrun
  obtain ⟨hs1, hs2⟩ := Go.MapKept.heap_set (o' := .map es' clock') hb
  have hbut : But (F g) w { w with heap := w.heap.setIfInBounds b (.map es' clock') } := ⟨rfl, rfl, rfl, by simp, fun k _ hn => hs2 k fun e => hn ((hF k).2 e)⟩
  have hFut : Fut S w S { w with heap := w.heap.setIfInBounds b (.map es' clock') } := ⟨fun _ h => h, fun k hk hl => hbut.block k hl fun hf => hs.hs.out g _ hg rfl k hf hk⟩
  obtain ⟨hw, _⟩ := hs.turn (x' := .obj (mapS (n :: M))) hg rfl hbut (fun T l' e => by cases e) (fun R e0 => by
    cases e0
    exact ⟨b, es', clock', hv, hF, hs1, hfit⟩)
  refine Does.skip (w' := { w with heap := w.heap.setIfInBounds b (.map es' clock') }) ?_ ⟨ι, F, S, hw, hFut, fun _ _ => rfl, by simp [AVR]⟩
  simp [execOp, ho, hx.1, hv, hy, hz, hrun]
end
section
variable {C : Cx} {k : List Item} {t : List (Nat × AV)} {r : List (Nat × RK)} {ops : Array Oper} {rest : List Oper}
variable {d : Nat} {ty ty' kt et : TypeId} {pos : String} {af : Array Edge} {x y z : Operand} {g : Nat}
/-- Less is known, by other names. -/
theorem runL_weak (m : Nat → Nat) {l : List Oper} {σ σ2 : VS} (hk : KeepM m C.r0) (hr : WkR σ.r m σ2.r) (ht : WkT σ.t m σ2.t) (hn : nodupB (idsM m σ2.r) = true) (h : RunL C ops l σ2 k) : RunL C ops l σ k := .mk fun a w hs => by
  obtain ⟨ι, F, S, hA⟩ := hs
  refine h.go a w ⟨fun g => ι (m g), fun g => F (m g), S, ⟨hA.sw.hs.ren hr hn, hA.sw.but, fun g x hg hx => hA.sw.own _ _ (hr.look hg) (by rw [RK.live_ren]; exact hx), hA.sw.sb, hA.sw.fut, fun g x hg hx => ?_⟩, fun n x hx => ?_, hA.sz, hA.df⟩
  · rw [hk.look hg]; exact hA.sw.keep g x hg hx
  · obtain ⟨u, h1, h2⟩ := hA.ts n _ (ht.look hx)
    exact ⟨u, h1, AVR.ren.1 h2⟩
theorem v_makeMap (hf : freshR d r = true) (hft : freshT d t = true) (h0 : look C.r0 d = none) (hn : Nat.blt d C.N = true) (hk : RunL C ops rest ⟨(d, .res d) :: t, (d, .obj (mapS [])) :: r⟩ k) : RunL C ops (⟨some d, .makeMap ty' none, ty, pos, af, none⟩ :: rest) ⟨t, r⟩ k :=
  runL_eff [] [d] rfl rfl hn trivial (by simp [freshTs, hft]) (op_makeMap d rfl hf h0) hk
theorem v_lookup {n : Int} {M : List Int} (hm : mapK C.P ty' = some (kt, et)) (hkt : C.P.underlying kt = some (.int .i64)) (hz : zeroV C.P et = some (.bool false)) (hx : evalA t x = some (.res g)) (hg : look r g = some (.obj (mapS M))) (hy : evalA t y = some (.v (.int .i64 n))) (hn : Nat.blt d C.N = true) (hk : RunL C ops rest ⟨(d, .v (.bool (decide (n ∈ M)))) :: t, r⟩ k) : RunL C ops (⟨some d, .lookup ty' x y false, ty, pos, af, none⟩ :: rest) ⟨t, r⟩ k :=
  runL_pure _ rfl rfl hn (rd2 hx hy) (op_lookup rfl hg hm hkt hz) hk
theorem v_mapUpdate {n : Int} {M : List Int} (hm : mapK C.P ty' = some (kt, et)) (hkt : C.P.underlying kt = some (.int .i64)) (hx : evalA t x = some (.res g)) (hg : look r g = some (.obj (mapS M))) (hy : evalA t y = some (.v (.int .i64 n))) (hz : evalA t z = some (.v (.bool true))) (hn : RunL C ops rest ⟨t, (g, .obj (mapS (n :: M))) :: r⟩ k) : RunL C ops (⟨none, .mapUpdate ty' x y z, ty, pos, af, none⟩ :: rest) ⟨t, r⟩ k :=
  runL_eff0 _ [] rfl rfl (rdX hx (rd2 hy hz)) rfl (op_mapUpdate rfl hg hm hkt) hn
end
end Go.Proofs.Ytjkidecaciomgaa
