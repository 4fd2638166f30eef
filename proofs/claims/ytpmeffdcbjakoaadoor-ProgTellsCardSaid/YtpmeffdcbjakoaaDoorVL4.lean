/- VL, part 4: lists that are read, rows of the call's own; operations that make or turn resources. -/
import Derived.Test.YtpmeffdcbjakoaaDoorVL3
import Derived.Test.YtpmeffdcbjakoaaDoorApp
namespace Go.Proofs.YtpmeffdcbjakoaaDoor
set_option linter.unusedVariables false
set_option linter.unusedSimpArgs false
open Go.RowKit

/-! ### Cells that are public -/
def AV.leaf : AV → Bool
  | .v x => x.oneCell'
  | .sem _ => true
  | .res _ => false
  | .ptr _ _ => false
  | .fn _ _ => false
  | .agg _ => false
  | .tup _ => false
def AV.leaves : List AV → Bool
  | [] => true
  | x :: l => and (AV.leaf x) (AV.leaves l)
theorem AV.leaves_iff : ∀ {l : List AV}, AV.leaves l = true ↔ ∀ y ∈ l, y.leaf = true
  | [] => by simp [AV.leaves]
  | x :: l => by
    simp only [AV.leaves, Bool.and_eq_true, List.mem_cons, forall_eq_or_imp]
    rw [AV.leaves_iff]
theorem AV.leaf_has {x : AV} (h : x.leaf = true) (g : Nat) : x.has g = false := by
  cases x <;> simp_all [AV.leaf, AV.has]
theorem AV.leaves_has {l : List AV} (h : AV.leaves l = true) (g : Nat) : AV.hasL g l = false := by
  induction l with
  | nil => rfl
  | cons x l ih =>
    simp only [AV.leaves, Bool.and_eq_true] at h
    simp [AV.hasL, AV.leaf_has h.1, ih h.2]
def ι0 : Nat → Value := fun _ => undef
section
variable {ι ι' : Nat → Value} {S S' : Bl} {w w' : World}
theorem AVR.leaf_one {x : AV} {u : Value} (h : AVR ι S w x u) (hx : x.leaf = true) : u.oneCell' = true := by
  cases x <;> simp_all [AV.leaf, AVR]
  rename_i p
  exact p.one h
theorem AVRs.leaf_one : ∀ {l : List AV} {us : List Value}, AVRs ι S w l us → AV.leaves l = true → ∀ u ∈ us, u.oneCell' = true
  | [], us, h, _, u, hu => by simp only [AVRs] at h; subst h; cases hu
  | x :: l, us, h, hl, u, hu => by
    simp only [AVRs] at h
    obtain ⟨u0, r, rfl, h1, h2⟩ := h
    simp only [AV.leaves, Bool.and_eq_true] at hl
    rcases List.mem_cons.1 hu with rfl | hu
    · exact h1.leaf_one hl.1
    · exact h2.leaf_one hl.2 u hu
theorem AVRs.leaf_any {l : List AV} {us : List Value} (h : AVRs ι S w l us) (hl : AV.leaves l = true) : AVRs ι' S w l us :=
  h.fut (Fut.refl _ _) fun g hg => by rw [AV.leaves_has hl] at hg; cases hg
theorem AVR.leaf_any {x : AV} {u : Value} (h : AVR ι S w x u) (hl : x.leaf = true) : AVR ι' S w x u :=
  h.fut (Fut.refl _ _) fun g hg => by rw [AV.leaf_has hl] at hg; cases hg
end

/-- How an element lies in cells. -/
structure Enc (α : Type) where
  sz : Nat
  f : α → List AV
  len : ∀ x, (f x).length = sz
  leaf : ∀ x, AV.leaves (f x) = true
def Enc.all {α : Type} (E : Enc α) (xs : List α) : List AV := xs.flatMap E.f
section
variable {α : Type} {E : Enc α}
theorem leaves_append : ∀ {l l' : List AV}, AV.leaves l = true → AV.leaves l' = true → AV.leaves (l ++ l') = true
  | [], l', _, h => h
  | x :: l, l', h, h' => by
    simp only [AV.leaves, Bool.and_eq_true, List.cons_append] at h ⊢
    exact ⟨h.1, leaves_append h.2 h'⟩
theorem Enc.all_leaf (E : Enc α) : ∀ xs : List α, AV.leaves (E.all xs) = true
  | [] => rfl
  | x :: xs => by
    rw [Enc.all, List.flatMap_cons]
    exact leaves_append (E.leaf x) (E.all_leaf xs)
theorem Enc.all_len (E : Enc α) : ∀ xs : List α, (E.all xs).length = xs.length * E.sz
  | [] => by simp [Enc.all]
  | x :: xs => by
    rw [Enc.all, List.flatMap_cons, List.length_append, E.len, List.length_cons, Nat.add_mul, Nat.one_mul]
    have := E.all_len xs
    rw [Enc.all] at this
    omega
theorem Enc.all_append (E : Enc α) (xs ys : List α) : E.all (xs ++ ys) = E.all xs ++ E.all ys := by simp [Enc.all]
theorem Enc.all_at (E : Enc α) : ∀ {xs : List α} {i : Nat} {x : α}, xs[i]? = some x → ((E.all xs).drop (i * E.sz)).take E.sz = E.f x
  | [], i, x, h => by simp at h
  | y :: xs, 0, x, h => by
    cases h
    rw [Enc.all, List.flatMap_cons, Nat.zero_mul, List.drop_zero, List.take_append_of_le_length (by rw [E.len]; exact Nat.le_refl _), List.take_of_length_le (by rw [E.len]; exact Nat.le_refl _)]
  | y :: xs, i + 1, x, h => by
    rw [Enc.all, List.flatMap_cons, show (i + 1) * E.sz = (E.f y).length + i * E.sz by rw [E.len y, Nat.add_mul]; omega, List.drop_length_add_append]
    exact E.all_at (by simpa using h)
theorem Enc.all_set (E : Enc α) : ∀ {xs : List α} {i : Nat} {x : α}, i < xs.length → E.all (xs.set i x) = (E.all xs).take (i * E.sz) ++ E.f x ++ (E.all xs).drop ((i + 1) * E.sz)
  | [], i, x, h => by simp at h
  | y :: xs, 0, x, h => by
    simp only [List.set_cons_zero, Enc.all, List.flatMap_cons, Nat.zero_mul, List.take_zero, List.nil_append, Nat.zero_add, Nat.one_mul]
    rw [List.drop_append_of_le_length (by rw [E.len]; exact Nat.le_refl _), List.drop_of_length_le (by rw [E.len]; exact Nat.le_refl _), List.nil_append]
  | y :: xs, i + 1, x, h => by
    have ih := E.all_set (xs := xs) (i := i) (x := x) (by simpa using h)
    simp only [Enc.all] at ih
    simp only [List.set_cons_succ, Enc.all, List.flatMap_cons, ih]
    have hl := E.len y
    have e1 : (i + 1) * E.sz = (E.f y).length + i * E.sz := by rw [hl, Nat.add_mul]; omega
    have e2 : (i + 1 + 1) * E.sz = (E.f y).length + (i + 1) * E.sz := by rw [hl, Nat.add_mul (i + 1)]; omega
    rw [e2, e1, List.take_length_add_append, List.drop_length_add_append]
    rw [show (E.f y).length + i * E.sz = (i + 1) * E.sz from e1.symm]
    simp
end

def RowAt (w : World) (S : Bl) (A : Option Addr) (l : List AV) : Prop :=
  l = [] ∨ ∃ b off, A = some ⟨b, off, none⟩ ∧ S b ∧ ∃ us, AVRs ι0 S w l us ∧ ∀ j u, us[j]? = some u → w.cell? ((⟨b, off, none⟩ : Addr).add j) = some u
theorem cell_fut {w w' : World} {S : Bl} (hw : ∀ k, S k → k < w.heap.size → w'.heap[k]? = w.heap[k]?) {b off j : Nat} {u : Value} (hb : S b) (h : w.cell? ((⟨b, off, none⟩ : Addr).add j) = some u) : w'.cell? ((⟨b, off, none⟩ : Addr).add j) = some u := by
  have hlt := World.block_lt_of_cell? w _ h
  rw [block_of_add] at hlt
  rw [World.cell?_of_block (w := w) (by rw [block_of_add]; exact hw b hb hlt)]
  exact h
theorem RowAt.fut {w w' : World} {S S' : Bl} {A : Option Addr} {l : List AV} (hm : ∀ k, S k → S' k) (hw : ∀ k, S k → k < w.heap.size → w'.heap[k]? = w.heap[k]?) (h : RowAt w S A l) : RowAt w' S' A l := by
  rcases h with h | ⟨b, off, hA, hb, us, h1, h2⟩
  · exact .inl h
  · exact .inr ⟨b, off, hA, hm b hb, us, h1.fut ⟨hm, hw⟩ (fun _ _ => rfl), fun j u hu => cell_fut hw hb (h2 j u hu)⟩
/-- A slice that reads as a list. -/
def listS {α : Type} (E : Enc α) (xs : List α) : Sem where
  R := fun w S v => ∃ A c, v = .slice A xs.length c ∧ xs.length ≤ c ∧ RowAt w S A (E.all xs)
  one := by
    rintro w S v ⟨A, c, rfl, _⟩
    rfl
  fut := by
    rintro w w' S S' v hm hw ⟨A, c, rfl, hl, h⟩
    exact ⟨A, c, rfl, hl, h.fut hm hw⟩
/-- The address of cells. -/
def adrS (l : List AV) : Sem where
  R := fun w S v => ∃ b off, v = .pointer (some ⟨b, off, none⟩) ∧ S b ∧ ∃ us, AVRs ι0 S w l us ∧ ∀ j u, us[j]? = some u → w.cell? ((⟨b, off, none⟩ : Addr).add j) = some u
  one := by
    rintro w S v ⟨b, off, rfl, _⟩
    rfl
  fut := by
    rintro w w' S S' v hm hw ⟨b, off, rfl, hb, us, h1, h2⟩
    exact ⟨b, off, rfl, hm b hb, us, h1.fut ⟨hm, hw⟩ (fun _ _ => rfl), fun j u hu => cell_fut hw hb (h2 j u hu)⟩
theorem ownBlock_lt {w : World} {b e sz n k : Nat} {v : Value} {us : List Value} (h : w.ownsRow b e sz v n us) (hk : v.ownBlock = some k) : k < w.heap.size := (h.lt k hk).2
theorem ownsRow_move {w w' : World} {b e sz n : Nat} {v : Value} {us : List Value} (h : w.ownsRow b e sz v n us) (hm : ∀ k, v.ownBlock = some k → w'.heap[k]? = w.heap[k]?) : w'.ownsRow b e sz v n us := by
  refine ⟨h.1, ?_⟩
  rcases h.2 with h2 | ⟨g, cap, cur, rfl, hg, hh, r⟩
  · exact .inl h2
  · exact .inr ⟨g, cap, cur, rfl, hg, (hm g (by simp [Value.ownBlock])).trans hh, r⟩
/-- A row of the call's own. -/
def ownS {α : Type} (e : TypeId) (E : Enc α) (xs : List α) : Res where
  H := fun w S F v => (∃ us, w.ownsRow 0 e E.sz v xs.length us ∧ AVRs ι0 S w (E.all xs) us) ∧ ∀ k, F k ↔ v.ownBlock = some k
  one := by
    rintro w S F v ⟨⟨us, h, _⟩, _⟩
    rcases h.2 with ⟨rfl, _⟩ | ⟨g, cap, cur, rfl, _⟩ <;> rfl
  bnd := by
    rintro w S F v ⟨⟨us, h, _⟩, hF⟩ k hk
    exact ownBlock_lt h ((hF k).1 hk)
  fut := by
    rintro w w' S S' F v hm hw ⟨⟨us, h1, h2⟩, hF⟩
    refine ⟨⟨us, ownsRow_move h1 fun k hk => hw k (.inr ((hF k).2 hk)) (ownBlock_lt h1 hk), h2.fut ⟨hm, fun k hk hl => hw k (.inl hk) hl⟩ (fun _ _ => rfl)⟩, hF⟩
theorem ownS_nil {α : Type} (e : TypeId) (E : Enc α) (w : World) (S : Bl) : (ownS e E ([] : List α)).H w S (fun _ => False) (.slice none 0 0) := ⟨⟨[], World.ownsRow_nil _ _ _ _, by simp [Enc.all, AVRs]⟩, fun k => by simp [Value.ownBlock]⟩
/-- What is owned may be read. -/
theorem ownS_list {α : Type} {e : TypeId} {E : Enc α} {xs : List α} {w : World} {S S' F : Bl} {v : Value} (h : (ownS e E xs).H w S F v) (hS : ∀ k, S k → S' k) (hF : ∀ k, F k → S' k) : (listS E xs).R w S' v := by
  obtain ⟨⟨us, h1, h2⟩, h3⟩ := h
  have hb := h1
  rcases h1.2 with ⟨rfl, h0⟩ | ⟨g, cap, cur, rfl, hg, hh, hn, _⟩
  · have : xs = [] := List.eq_nil_of_length_eq_zero h0
    subst this
    exact ⟨none, 0, rfl, by simp, .inl rfl⟩
  · refine ⟨_, cap, rfl, hn, .inr ⟨g, 0, rfl, hF g ((h3 g).2 rfl), us, h2.fut ⟨hS, fun _ _ _ => rfl⟩ (fun _ _ => rfl), h1.cells (g := g) rfl⟩⟩

/-! ### New names -/
def freshR (g : Nat) : List (Nat × RK) → Bool
  | [] => true
  | p :: r => and (!(p.2.has g)) (freshR g r)
theorem freshR_look {g : Nat} : ∀ {r : List (Nat × RK)} {n : Nat} {x : RK}, freshR g r = true → look r n = some x → x.has g = false
  | [], n, x, _, h => by cases h
  | (k, y) :: r, n, x, hf, h => by
    simp only [freshR, Bool.and_eq_true, Bool.not_eq_true'] at hf
    rw [look_cons] at h
    by_cases e : k = n
    · rw [if_pos e] at h; cases h; exact hf.1
    · rw [if_neg e] at h; exact freshR_look hf.2 h
def freshT (g : Nat) : List (Nat × AV) → Bool
  | [] => true
  | p :: r => and (!(p.2.has g)) (freshT g r)
theorem freshT_look {g : Nat} : ∀ {r : List (Nat × AV)} {n : Nat} {x : AV}, freshT g r = true → look r n = some x → x.has g = false
  | [], n, x, _, h => by cases h
  | (k, y) :: r, n, x, hf, h => by
    simp only [freshT, Bool.and_eq_true, Bool.not_eq_true'] at hf
    rw [look_cons] at h
    by_cases e : k = n
    · rw [if_pos e] at h; cases h; exact hf.1
    · rw [if_neg e] at h; exact freshT_look hf.2 h
def newI (ι : Nat → Value) (g : Nat) (v : Value) : Nat → Value := fun i => if i = g then v else ι i
def newF (F : Nat → Bl) (g : Nat) (G : Bl) : Nat → Bl := fun i => if i = g then G else F i
theorem newI_same (ι : Nat → Value) (g : Nat) (v : Value) : newI ι g v g = v := by simp [newI]
theorem newI_other {ι : Nat → Value} {g i : Nat} {v : Value} (h : i ≠ g) : newI ι g v i = ι i := by simp [newI, h]
theorem newF_same (F : Nat → Bl) (g : Nat) (G : Bl) : newF F g G g = G := by simp [newF]
theorem newF_other {F : Nat → Bl} {g i : Nat} {G : Bl} (h : i ≠ g) : newF F g G i = F i := by simp [newF, h]

/-- A resource more, by the name g (in the place of whatever had it). -/
theorem SimW.add {C : Cx} {r : List (Nat × RK)} {ι : Nat → Value} {F : Nat → Bl} {S : Bl} {w : World} (h : SimW C r ι F S w) {g : Nat} {x : RK} {v : Value} {G : Bl} (hf : freshR g r = true) (h0 : look C.r0 g = none)
    (hbx : ∀ T l, x = .box T l → ∃ b, v = .pointer (some ⟨b, 0, none⟩) ∧ (∀ k, G k ↔ k = b) ∧ ∃ cs : Array Value, w.heap[b]? = some (.cells cs T (0, 0)) ∧ AVRs (newI ι g v) S w l cs.toList)
    (hob : ∀ R, x = .obj R → R.H w S G v)
    (hG : ∀ k, G k → C.w0.heap.size ≤ k ∨ C.D k) (hS : ∀ k, G k → ¬ S k) (hd : ∀ g' y, look r g' = some y → y.live = true → g' ≠ g → ∀ k, F g' k → ¬ G k) :
    SimW C ((g, x) :: r) (newI ι g v) (newF F g G) S w := by
  refine ⟨⟨fun n T l hn => ?_, fun n R hn => ?_, fun n n' y y' hn hn' hy hy' hne k hk => ?_, fun n y hn hy k hk => ?_, h.hs.bnd⟩, h.but, fun n y hn hy k hk => ?_, h.sb, h.fut, fun n y hn hy => ?_⟩
  · rw [look_cons] at hn
    by_cases e : g = n
    · subst e
      rw [if_pos rfl] at hn
      cases hn
      rw [newI_same, newF_same]
      exact hbx T l rfl
    · rw [if_neg e] at hn
      obtain ⟨b, h1, h2, cs, h3, h4⟩ := h.hs.bx n T l hn
      rw [newI_other (fun e' => e e'.symm), newF_other (fun e' => e e'.symm)]
      refine ⟨b, h1, h2, cs, h3, h4.fut (Fut.refl _ _) fun i hi => newI_other fun e' => ?_⟩
      subst e'
      have := freshR_look hf hn
      simp only [RK.has] at this
      rw [this] at hi
      cases hi
  · rw [look_cons] at hn
    by_cases e : g = n
    · subst e
      rw [if_pos rfl] at hn
      cases hn
      rw [newI_same, newF_same]
      exact hob R rfl
    · rw [if_neg e] at hn
      rw [newI_other (fun e' => e e'.symm), newF_other (fun e' => e e'.symm)]
      exact h.hs.ob n R hn
  · rw [look_cons] at hn hn'
    by_cases e : g = n
    · subst e
      rw [if_neg hne] at hn'
      rw [newF_same] at hk
      rw [newF_other (Ne.symm hne)]
      exact fun hk' => hd n' y' hn' hy' (Ne.symm hne) k hk' hk
    · rw [if_neg e] at hn
      rw [newF_other (Ne.symm e)] at hk
      by_cases e' : g = n'
      · subst e'
        rw [newF_same]
        exact hd n y hn hy (Ne.symm e) k hk
      · rw [if_neg e'] at hn'
        rw [newF_other (Ne.symm e')]
        exact h.hs.dis n n' y y' hn hn' hy hy' hne k hk
  · rw [look_cons] at hn
    by_cases e : g = n
    · subst e
      rw [newF_same] at hk
      exact hS k hk
    · rw [if_neg e] at hn
      rw [newF_other (Ne.symm e)] at hk
      exact h.hs.out n y hn hy k hk
  · rw [look_cons] at hn
    by_cases e : g = n
    · subst e
      rw [newF_same] at hk
      exact hG k hk
    · rw [if_neg e] at hn
      rw [newF_other (Ne.symm e)] at hk
      exact h.own n y hn hy k hk
  · rw [newI_other (fun e => by subst e; rw [h0] at hn; cases hn)]
    exact h.keep n y hn hy

/-- A resource is given up: its blocks may be public (P). -/
theorem SimW.drop {C : Cx} {r : List (Nat × RK)} {ι : Nat → Value} {F : Nat → Bl} {S : Bl} {w : World} (h : SimW C r ι F S w) (g : Nat) {x : RK} (hg : look r g = some x) (hx : x.live = true) : SimW C ((g, .dead) :: r) ι F (fun k => S k ∨ F g k) w := by
  have key : ∀ n y, look ((g, RK.dead) :: r) n = some y → y.live = true → n ≠ g ∧ look r n = some y := fun n y hn hy => by
    rw [look_cons] at hn
    by_cases e : g = n
    · rw [if_pos e] at hn; cases hn; cases hy
    · rw [if_neg e] at hn; exact ⟨Ne.symm e, hn⟩
  have hF : Fut S w (fun k => S k ∨ F g k) w := ⟨fun k hk => .inl hk, fun _ _ _ => rfl⟩
  refine ⟨⟨fun n T l hn => ?_, fun n R hn => ?_, fun n n' y y' hn hn' hy hy' hne k hk => h.hs.dis n n' y y' (key n y hn hy).2 (key n' y' hn' hy').2 hy hy' hne k hk, fun n y hn hy k hk hS => ?_, fun k hk => ?_⟩, h.but, fun n y hn hy k hk => h.own n y (key n y hn hy).2 hy k hk, fun k hk => ?_, ⟨fun k hk => .inl (h.fut.mono k hk), h.fut.same⟩, h.keep⟩
  · obtain ⟨b, h1, h2, cs, h3, h4⟩ := h.hs.bx n T l (key n _ hn rfl).2
    exact ⟨b, h1, h2, cs, h3, h4.fut hF fun _ _ => rfl⟩
  · exact R.fut hF.mono (fun _ _ _ => rfl) (h.hs.ob n R (key n _ hn rfl).2)
  · obtain ⟨h1, h2⟩ := key n y hn hy
    rcases hS with hS | hS
    · exact h.hs.out n y h2 hy k hk hS
    · exact h.hs.dis n g y x h2 hg hy hx h1 k hk hS
  · rcases hk with hk | hk
    · exact h.hs.bnd k hk
    · exact h.hs.lt hg hx hk
  · rcases hk with hk | hk
    · exact h.sb k hk
    · exact .inr (h.own g x hg hx k hk)

/-- An operation that makes, turns or takes resources; gs: the names that are new. -/
def OpEff (C : Cx) (r : List (Nat × RK)) (o : Oper) (rd : List (Operand × AV)) (V : AV) (r' : List (Nat × RK)) (gs : List Nat) : Prop :=
  ∀ ι F S w (ρ : Operand → Value), SimW C r ι F S w → (∀ p ∈ rd, AVR ι S w p.2 (ρ p.1)) → Does C.P (execOp ρ o) w fun u w' => ∃ ι' F' S', SimW C r' ι' F' S' w' ∧ Fut S w S' w' ∧ (∀ i, i ∉ gs → ι' i = ι i) ∧ AVR ι' S' w' V u
def freshTs (t : List (Nat × AV)) : List Nat → Bool
  | [] => true
  | g :: l => and (freshT g t) (freshTs t l)
theorem freshTs_look {t : List (Nat × AV)} : ∀ {gs : List Nat} {n g : Nat} {x : AV}, freshTs t gs = true → look t n = some x → x.has g = true → g ∉ gs
  | [], n, g, x, _, _, _ => by simp
  | i :: gs, n, g, x, hf, hx, hg => by
    simp only [freshTs, Bool.and_eq_true] at hf
    simp only [List.mem_cons, not_or]
    refine ⟨fun e => ?_, freshTs_look hf.2 hx hg⟩
    subst e
    have := freshT_look hf.1 hx
    rw [hg] at this
    cases this

section
variable {C : Cx} {k : List Item} {t : List (Nat × AV)} {r r' : List (Nat × RK)} {ops : Array Oper} {o : Oper} {rest : List Oper}
theorem runL_eff {d : Nat} {V : AV} (rd : List (Operand × AV)) (gs : List Nat) (hg : wantedA t ops o = some true) (hd : o.dst = some d) (hn : Nat.blt d C.N = true) (hr : Rd t rd) (hf : freshTs t gs = true) (h : OpEff C r o rd V r' gs) (hk : RunL C ops rest ⟨(d, V) :: t, r'⟩ k) : RunL C ops (o :: rest) ⟨t, r⟩ k := .mk fun a w hs => by
  obtain ⟨ι, F, S, hA⟩ := hs
  have hw := wantedA_of hg hA.ts
  have hdo := h ι F S w a.eval hA.sw (fun p hp => hA.ts.eval (hr.all p hp))
  refine wpList_step fun K hK => ?_
  rw [if_pos hw]
  refine Does.wp (hdo.mono fun u w' hu => ?_)
  obtain ⟨ι', F', S', h1, h2, h3, h4⟩ := hu
  refine hK _ _ (hk.go _ _ ⟨ι', F', S', h1, ?_, ?_, ?_⟩)
  · rw [hd]; exact hA.ts.put h2 (fun n x hx g hg => h3 g (freshTs_look hf hx hg)) (by rw [hA.sz]; exact Nat.le_of_ble_eq_true hn) h4
  · rw [hd]; simp [Act.put, hA.sz]
  · rw [hd]; simp [Act.put, hA.df]
theorem runL_eff0 {V : AV} (rd : List (Operand × AV)) (gs : List Nat) (hg : wantedA t ops o = some true) (hd : o.dst = none) (hr : Rd t rd) (hf : freshTs t gs = true) (h : OpEff C r o rd V r' gs) (hk : RunL C ops rest ⟨t, r'⟩ k) : RunL C ops (o :: rest) ⟨t, r⟩ k := .mk fun a w hs => by
  obtain ⟨ι, F, S, hA⟩ := hs
  have hw := wantedA_of hg hA.ts
  have hdo := h ι F S w a.eval hA.sw (fun p hp => hA.ts.eval (hr.all p hp))
  refine wpList_step fun K hK => ?_
  rw [if_pos hw]
  refine Does.wp (hdo.mono fun u w' hu => ?_)
  obtain ⟨ι', F', S', h1, h2, h3, h4⟩ := hu
  refine hK _ _ (hk.go _ _ ⟨ι', F', S', h1, ?_, ?_, ?_⟩)
  · rw [hd]; exact hA.ts.fut h2 (fun n x hx g hg => h3 g (freshTs_look hf hx hg))
  · rw [hd]; exact hA.sz
  · rw [hd]; exact hA.df
/-- nil, as a row of the call's own. -/
theorem runL_own {l : List Oper} (n g : Nat) {α : Type} (e : TypeId) (E : Enc α) (hx : look t n = some (.v (.slice none 0 0))) (hf : freshR g r = true) (hft : freshT g t = true) (h0 : look C.r0 g = none) (h : RunL C ops l ⟨(n, .res g) :: t, (g, .obj (ownS e E [])) :: r⟩ k) : RunL C ops l ⟨t, r⟩ k := .mk fun a w hs => by
  obtain ⟨ι, F, S, hA⟩ := hs
  have hw := hA.sw.add (x := .obj (ownS e E [])) (v := .slice none 0 0) (G := fun _ => False) hf h0 (fun T l he => by cases he) (fun R he => by cases he; exact ownS_nil e E w S) (fun k hk => hk.elim) (fun k hk => hk.elim) (fun _ _ _ _ _ _ _ hk => hk)
  refine h.go a w ⟨_, _, S, hw, fun m z hz => ?_, hA.sz, hA.df⟩
  rw [look_cons] at hz
  by_cases hm : n = m
  · subst hm
    rw [if_pos rfl] at hz
    cases hz
    obtain ⟨u, h1, h2⟩ := hA.ts n _ hx
    simp only [AVR] at h2
    subst h2
    exact ⟨_, h1, by simp [AVR, newI_same, Value.oneCell']⟩
  · rw [if_neg hm] at hz
    obtain ⟨u, h1, h2⟩ := hA.ts m z hz
    exact ⟨u, h1, h2.fut (Fut.refl _ _) fun i hi => newI_other fun e => by subst e; rw [freshT_look hft hz] at hi; cases hi⟩
theorem run_own (n g : Nat) {α : Type} (e : TypeId) (E : Enc α) (hx : look t n = some (.v (.slice none 0 0))) (hf : freshR g r = true) (hft : freshT g t = true) (h0 : look C.r0 g = none) (h : Run C k ⟨(n, .res g) :: t, (g, .obj (ownS e E [])) :: r⟩) : Run C k ⟨t, r⟩ := .mk fun a w hs => by
  obtain ⟨ι, F, S, hA⟩ := hs
  have hw := hA.sw.add (x := .obj (ownS e E [])) (v := .slice none 0 0) (G := fun _ => False) hf h0 (fun T l he => by cases he) (fun R he => by cases he; exact ownS_nil e E w S) (fun k hk => hk.elim) (fun k hk => hk.elim) (fun _ _ _ _ _ _ _ hk => hk)
  refine h.go a w ⟨_, _, S, hw, fun m z hz => ?_, hA.sz, hA.df⟩
  rw [look_cons] at hz
  by_cases hm : n = m
  · subst hm
    rw [if_pos rfl] at hz
    cases hz
    obtain ⟨u, h1, h2⟩ := hA.ts n _ hx
    simp only [AVR] at h2
    subst h2
    exact ⟨_, h1, by simp [AVR, newI_same, Value.oneCell']⟩
  · rw [if_neg hm] at hz
    obtain ⟨u, h1, h2⟩ := hA.ts m z hz
    exact ⟨u, h1, h2.fut (Fut.refl _ _) fun i hi => newI_other fun e => by subst e; rw [freshT_look hft hz] at hi; cases hi⟩
/-- A row of the call's own is left as it is from here on: slot n reads as the list. -/
theorem run_freeze (n g : Nat) {α : Type} {e : TypeId} {E : Enc α} {xs : List α} (hx : look t n = some (.res g)) (hg : look r g = some (.obj (ownS e E xs))) (h : Run C k ⟨(n, .sem (listS E xs)) :: t, (g, .dead) :: r⟩) : Run C k ⟨t, r⟩ := .mk fun a w hs => by
  obtain ⟨ι, F, S, hA⟩ := hs
  have hF : Fut S w (fun k => S k ∨ F g k) w := ⟨fun k hk => .inl hk, fun _ _ _ => rfl⟩
  refine h.go a w ⟨ι, F, _, hA.sw.drop g hg rfl, fun m z hz => ?_, hA.sz, hA.df⟩
  rw [look_cons] at hz
  by_cases hm : n = m
  · subst hm
    rw [if_pos rfl] at hz
    cases hz
    obtain ⟨u, h1, h2⟩ := hA.ts n _ hx
    simp only [AVR] at h2
    refine ⟨u, h1, ?_⟩
    simp only [AVR]
    rw [h2.1]
    exact ownS_list (hA.sw.hs.ob g _ hg) (fun k hk => .inl hk) (fun k hk => .inr hk)
  · rw [if_neg hm] at hz
    obtain ⟨u, h1, h2⟩ := hA.ts m z hz
    exact ⟨u, h1, h2.fut hF fun _ _ => rfl⟩
theorem runL_freeze {l : List Oper} (n g : Nat) {α : Type} {e : TypeId} {E : Enc α} {xs : List α} (hx : look t n = some (.res g)) (hg : look r g = some (.obj (ownS e E xs))) (h : RunL C ops l ⟨(n, .sem (listS E xs)) :: t, (g, .dead) :: r⟩ k) : RunL C ops l ⟨t, r⟩ k := .mk fun a w hs => by
  obtain ⟨ι, F, S, hA⟩ := hs
  have hF : Fut S w (fun k => S k ∨ F g k) w := ⟨fun k hk => .inl hk, fun _ _ _ => rfl⟩
  refine h.go a w ⟨ι, F, _, hA.sw.drop g hg rfl, fun m z hz => ?_, hA.sz, hA.df⟩
  rw [look_cons] at hz
  by_cases hm : n = m
  · subst hm
    rw [if_pos rfl] at hz
    cases hz
    obtain ⟨u, h1, h2⟩ := hA.ts n _ hx
    simp only [AVR] at h2
    refine ⟨u, h1, ?_⟩
    simp only [AVR]
    rw [h2.1]
    exact ownS_list (hA.sw.hs.ob g _ hg) (fun k hk => .inl hk) (fun k hk => .inr hk)
  · rw [if_neg hm] at hz
    obtain ⟨u, h1, h2⟩ := hA.ts m z hz
    exact ⟨u, h1, h2.fut hF fun _ _ => rfl⟩
end
end Go.Proofs.YtpmeffdcbjakoaaDoor
