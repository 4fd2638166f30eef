/- Slices of integers of the call's own: appended to, handed on. -/
import Derived.Test.YtpmeffdcbjakoaaApp
import Derived.Test.YtpmeffdcbjakoaaRows
import Derived.WalkKit
namespace Go.Proofs.Ytpmeffdcbjakoaa
set_option linter.unusedVariables false
set_option linter.unusedSimpArgs false
open Go.RowKit

theorem info_int : (Try.prog.info? 3).map (fun i => (i.zero, i.size, i.bytes)) = some (some (.int .i64 0), 1, 8) := by kernel_rfl
/-- A slice of integers of the call's own. -/
def OwnI (w : World) (B : Nat) (v : Value) (xs : List Int) : Prop := w.ownsRow B 3 1 v xs.length (xs.map (Value.int .i64))
theorem ownsRow_below {w w' : World} {B : Nat} {e : TypeId} {size : Nat} {v : Value} {n : Nat} {xs : List Value} (h : w.ownsRow B e size v n xs) (hb : Below w.heap.size w w') : w'.ownsRow B e size v n xs := by
  obtain ⟨h1, h2⟩ := h
  refine ⟨h1, ?_⟩
  rcases h2 with h2 | ⟨g, cap, cur, hv, hg, hh, r⟩
  · exact .inl h2
  · exact .inr ⟨g, cap, cur, hv, hg, (hb.block g (Array.getElem?_eq_some_iff.1 hh).1).trans hh, r⟩
theorem OwnI.below {w w' : World} {B : Nat} {v : Value} {xs : List Int} (h : OwnI w B v xs) (hb : Below w.heap.size w w') : OwnI w' B v xs := ownsRow_below h hb
theorem OwnI.nil (w : World) (B : Nat) : OwnI w B (.slice none 0 0) [] := World.ownsRow_nil _ _ _ _
theorem ownsRow_base {w : World} {B B' : Nat} {e : TypeId} {size : Nat} {v : Value} {n : Nat} {xs : List Value} (h : w.ownsRow B e size v n xs) (hB : B' ≤ B) : w.ownsRow B' e size v n xs := by
  obtain ⟨h1, h2⟩ := h
  refine ⟨h1, ?_⟩
  rcases h2 with h2 | ⟨g, cap, cur, hv, hg, hh, r⟩
  · exact .inl h2
  · exact .inr ⟨g, cap, cur, hv, by omega, hh, r⟩
theorem OwnI.ints {w : World} {B : Nat} {v : Value} {xs : List Int} (h : OwnI w B v xs) : ∃ A c, v = .slice A xs.length c ∧ IntsAt .i64 w A xs := by
  rcases h.2 with ⟨rfl, h0⟩ | ⟨g, cap, cur, rfl, hg, hh, _, _, _, ht⟩
  · have : xs = [] := by simpa using h0
    subst this
    exact ⟨none, 0, rfl, IntsAt.nil _ _ _⟩
  · refine ⟨some ⟨g, 0, none⟩, cap, rfl, fun hn => ⟨g, 0, rfl, fun i hi => ?_⟩⟩
    have h1 := h.cells (g := g) rfl i (.int .i64 (xs.getD i 0)) (by rw [List.getElem?_map, List.getElem?_eq_getElem hi]; simp [List.getD_eq_getElem?_getD, List.getElem?_eq_getElem hi])
    rw [flat_add_] at h1
    exact h1
where
  flat_add_ {b o i : Nat} : (⟨b, o, none⟩ : Addr).add i = ⟨b, o + i, none⟩ := by
    unfold Addr.add
    split
    · next h => subst h; rfl
    · rfl


theorem IntsAt.reads {q : IntKind} {w : World} {A : Option Addr} {xs : List Int} (h : IntsAt q w A xs) : Reads w w.heap.size 1 A xs.length (xs.map (Value.int q)) := by
  refine ⟨by simp, fun hn => ?_⟩
  obtain ⟨b, off, rfl, hc⟩ := h hn
  refine ⟨_, rfl, World.block_lt_of_cell? w _ (hc 0 hn), fun j u hu => ?_⟩
  rw [List.getElem?_map] at hu
  by_cases hj : j < xs.length
  · rw [List.getElem?_eq_getElem hj] at hu
    simp at hu
    subst hu
    rw [OwnI.ints.flat_add_, hc j hj, List.getD_eq_getElem?_getD, List.getElem?_eq_getElem hj]
    rfl
  · rw [List.getElem?_eq_none (by omega)] at hu
    cases hu

/-- 'append(v, ys...)': v of the call's own, ys whatever reads. -/
theorem wpList_append_ints {w w0 : World} {ops : Array Oper} {rest : List Oper} {o : Oper} {a : Act} {Q : Exit → Act → World → Prop} (hgd : o.guard = none) (s x : Operand)
    (ho : o.op = .call { callee := .builtin .append, args := #[s, x], argTypes := #[72, 72] })
    {v : Value} {B : Nat} {xs ys : List Int} (hs : a.eval s = v) (hown : OwnI w B v xs) {A : Option Addr} {m c : Nat} (hx : a.eval x = .slice A m c) (hm : m = ys.length) (hr : IntsAt .i64 w A ys) (hl : xs.length + ys.length ≤ 1000000) (hB : Below B w0 w) (hBw : B ≤ w.heap.size)
    (h : ∀ v' w', OwnI w' B v' (xs ++ ys) → Below B w0 w' → w.grownBy w' v.ownBlock → wpList Try.prog ops Q rest (a.put o.dst v') w') : wpList Try.prog ops Q (o :: rest) a w := by
  subst hm
  obtain ⟨i0, hi, hz0, hz1, hz2⟩ := info_parts info_int
  refine wpList_append_any _ hgd s x 72 ho B 3 i0 (.int .i64 0) 1 8 Try.underlying72 hi hz0 hz1 hz2 rfl (by decide) v _ _ hs hown _ A ys.length c (ys.map (Value.int .i64)) hx hr.reads (fun u hu => by obtain ⟨n, _, rfl⟩ := List.mem_map.1 hu; rfl) (by unfold maxLen; omega) (by omega) hBw ?_
  intro v' w' h1 h2 _
  refine h v' w' ?_ (hB.grown h2 hBw fun k hk => (hown.lt _ hk).1) h2
  unfold OwnI
  rw [List.length_append, List.map_append]
  exact h1
theorem cell_one {w : World} (n : Int) (t : TypeId) : IntsAt .i64 (w.alloc (.cells #[.int .i64 n] t)) (some ⟨w.heap.size, 0, none⟩) [n] := fun _ => ⟨_, _, rfl, fun i hi => by
  obtain rfl : i = 0 := by simpa using hi
  simp⟩
theorem OwnI.alloc {w : World} {B : Nat} {v : Value} {xs : List Int} (h : OwnI w B v xs) (o : Obj) : OwnI (w.alloc o) B v xs := h.below ((Below.refl _ _).alloc (Nat.le_refl _) _)
theorem blk_ne_own {w : World} {g : Nat} {t : TypeId} {cs : Array Value} {B : Nat} {v : Value} {xs : List Int} (h : Blk w g t cs) (ho : OwnI w B v xs) (hne : t ≠ 3) : some g ≠ v.ownBlock := by
  rcases ho.2 with ⟨rfl, _⟩ | ⟨g', cap, cur, rfl, _, hh, _⟩
  · simp [Value.ownBlock]
  · intro he
    have : g = g' := by simpa [Value.ownBlock] using he
    subst this
    exact Blk.ne_ h (show Blk w g 3 cur from hh) hne rfl
end Go.Proofs.Ytpmeffdcbjakoaa
