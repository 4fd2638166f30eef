/- Paths of the call's own: cloned, turned round. -/
import Derived.Test.YtpmeffdcbjakoaaOwnI
import Derived.Test.YtpmeffdcbjakoaaSteps
import Derived.BigRegion
import Derived.ChangeAlike
namespace Go.Proofs.Ytpmeffdcbjakoaa
set_option linter.unusedVariables false
set_option linter.unusedSimpArgs false
open Go.RowKit

def flatS (xs : List St) : List Value := xs.flatMap fun x => x.cells.toList
theorem flatS_length (xs : List St) : (flatS xs).length = xs.length * 5 := by
  induction xs with
  | nil => rfl
  | cons x r ih => simp only [flatS, List.flatMap_cons, List.length_append] at ih ⊢; rw [ih]; simp [St.cells]; omega
theorem flatS_get (xs : List St) : ∀ (i j : Nat), i < xs.length → j < 5 → (flatS xs)[i * 5 + j]? = some ((xs.getD i default).cell j) := by
  induction xs with
  | nil => intro i j h; simp at h
  | cons x r ih =>
    intro i j hi hj
    have e : flatS (x :: r) = x.cells.toList ++ flatS r := rfl
    rw [e]
    cases i with
    | zero =>
      rw [List.getElem?_append_left (by simp [St.cells]; omega)]
      match j, hj with
      | 0, _ => rfl
      | 1, _ => rfl
      | 2, _ => rfl
      | 3, _ => rfl
      | 4, _ => rfl
    | succ i =>
      rw [List.getElem?_append_right (by simp [St.cells]; omega)]
      have := ih i j (by simpa using hi) hj
      simp only [St.cells, List.length_cons, List.length_nil] at this ⊢
      rw [show (i + 1) * 5 + j - (0 + 1 + 1 + 1 + 1 + 1) = i * 5 + j by omega, this]
      simp

/-- The cells cs hold the entries xs. -/
def StIn (cs : Array Value) (xs : List St) : Prop := ∀ i j, i < xs.length → j < 5 → cs[i * 5 + j]? = some ((xs.getD i default).cell j)
/-- A path of the call's own. -/
def OwnS (w : World) (B : Nat) (v : Value) (xs : List St) : Prop :=
  (v = .slice none 0 0 ∧ xs = []) ∨ ∃ g cap cs, v = .slice (some ⟨g, 0, none⟩) xs.length cap ∧ B ≤ g ∧ Blk w g 46 cs ∧ StIn cs xs
theorem OwnS.below {w w' : World} {B : Nat} {v : Value} {xs : List St} (h : OwnS w B v xs) (hb : Below w.heap.size w w') : OwnS w' B v xs := by
  rcases h with h | ⟨g, cap, cs, hv, hg, hh, hi⟩
  · exact .inl h
  · exact .inr ⟨g, cap, cs, hv, hg, hh.below hb hh.lt, hi⟩
theorem OwnS.st {w : World} {B : Nat} {v : Value} {xs : List St} (h : OwnS w B v xs) : ∃ A c, v = .slice A xs.length c ∧ StAt w A xs := by
  rcases h with ⟨rfl, rfl⟩ | ⟨g, cap, cs, rfl, hg, hh, hi⟩
  · exact ⟨none, 0, rfl, fun h => by simp at h⟩
  · exact ⟨_, _, rfl, SliceAt.cells fun i j h1 h2 => by rw [Nat.zero_add, hh.cell]; exact hi i j h1 h2⟩
theorem OwnS.of_row {w : World} {B : Nat} {v : Value} {xs : List St} (h : w.ownsRow B 46 5 v xs.length (flatS xs)) : OwnS w B v xs := by
  rcases h.2 with ⟨rfl, h0⟩ | ⟨g, cap, cur, rfl, hg, hh, _, _, _, ht⟩
  · left; refine ⟨rfl, ?_⟩
    exact List.eq_nil_of_length_eq_zero h0
  · right
    refine ⟨g, cap, cur, rfl, hg, hh, fun i j hi hj => ?_⟩
    rw [← flatS_get xs i j hi hj, ← ht]
    rw [List.getElem?_take, if_pos (by omega), Array.getElem?_toList]
theorem StAt.reads {w : World} {A : Option Addr} {xs : List St} (h : StAt w A xs) : Reads w w.heap.size 5 A xs.length (flatS xs) := by
  refine ⟨flatS_length xs, fun hn => ?_⟩
  obtain ⟨b, off, rfl, hc⟩ := h hn
  refine ⟨_, rfl, World.block_lt_of_cell? w _ (hc 0 0 hn (by decide)), fun j u hu => ?_⟩
  have hj : j < xs.length * 5 := by
    have := flatS_length xs
    rcases Nat.lt_or_ge j (flatS xs).length with h1 | h1
    · omega
    · rw [List.getElem?_eq_none h1] at hu; cases hu
  have e : j = j / 5 * 5 + j % 5 := by omega
  rw [e, flatS_get xs (j / 5) (j % 5) (by omega) (by omega)] at hu
  cases hu
  rw [OwnI.ints.flat_add_]
  have := hc (j / 5) (j % 5) (by omega) (by omega)
  rw [← this, Nat.add_assoc, ← e]

theorem info_step : (Try.prog.info? 46).map (fun i => (i.zero, i.size, i.bytes)) = some (some (.agg #[.int .i64 0, .int .i64 0, .int .i64 0, .bool false, .bool false]), 5, 32) := by kernel_rfl

/-- slices.Clone of a path. -/
theorem clone_steps (A : Option Addr) (c : Nat) (xs : List St) (hn : A = none → xs = [] ∧ c = 0) (hl : xs.length ≤ 1000) (w : World) (hI : StAt w A xs) :
    Calls Try.prog 58 #[.slice A xs.length c] w fun e w' => ∃ v, e = .returned v ∧ OwnS w' w.heap.size v xs ∧ Below w.heap.size w w' := by
  obtain ⟨i0, hi, hz0, hz1, hz2⟩ := info_parts info_step
  rcases A with _ | ad
  · obtain ⟨rfl, rfl⟩ := hn rfl
    have hq := Lib.run_eql_slice_nil (P := Try.prog)
    go_enter Try.func58, Try.ntmps58
    go_wp2
    go_ret
    exact ⟨_, rfl, .inl ⟨rfl, rfl⟩, Below.refl _ _⟩
  · have hq : ∀ w, (binOp .eql 40 (.slice (some ad) xs.length c) (.slice none 0 0)).run Try.prog w = .ok (.bool false) w := fun w => Lib.run_eql_slice_nil (P := Try.prog) w 40 46 (some ad) xs.length c 0 0 Try.underlying40
    have hr := hI.reads
    have HR := Lib.hid hr
    clear hr hI
    go_enter Try.func58, Try.ntmps58
    go_wp2_with (at_builtin; go_must (refine wpList_append_any _ rfl _ _ 40 rfl w.heap.size 46 i0 _ 5 32 Try.underlying40 hi hz0 hz1 hz2 rfl (by decide) _ 0 [] rfl ?c0 _ (some ad) xs.length c (flatS xs) rfl (HR.out.alloc (Nat.le_refl _) _) ?c2 ?c3 ?c4 ?c5 ?_))
    case c0 => exact ⟨rfl, .inr ⟨w.heap.size, 0, #[], rfl, Nat.le_refl _, heap_alloc_new w _, Nat.le_refl _, by decide, rfl, rfl⟩⟩
    case c2 =>
      intro u hu
      unfold flatS at hu
      obtain ⟨x, _, hu⟩ := List.mem_flatMap.1 hu
      simp only [St.cells, List.mem_cons, List.not_mem_nil, or_false] at hu
      rcases hu with rfl | rfl | rfl | rfl | rfl <;> rfl
    case c3 => unfold maxLen; omega
    case c4 => omega
    case c5 => simp
    intro v' w' h1 h2 _
    have hB := ((Below.refl w.heap.size w).alloc (Nat.le_refl _) _).grown h2 (by simp) (fun k hk => by simp [Value.ownBlock] at hk; omega)
    have HO := Lib.hid h1
    clear h1 h2
    go_wp2
    go_ret
    exact ⟨_, rfl, OwnS.of_row HO.out, hB⟩

/-- An entry stored at place i. -/
def put5 (cs : Array Value) (i : Nat) (x : St) : Array Value :=
  ((((cs.setIfInBounds (i * 5) (.int .i64 x.node)).setIfInBounds (i * 5 + 1) (.int .i64 x.target)).setIfInBounds (i * 5 + 2) (.int .i64 x.related)).setIfInBounds (i * 5 + 3) (.bool x.croot)).setIfInBounds (i * 5 + 4) (.bool x.cslot)
theorem put5_size (cs : Array Value) (i : Nat) (x : St) : (put5 cs i x).size = cs.size := by simp [put5]
theorem put5_get (cs : Array Value) (i : Nat) (x : St) (hi : i * 5 + 4 < cs.size) (k j : Nat) (hj : j < 5) : (put5 cs i x)[k * 5 + j]? = if k = i then some (x.cell j) else cs[k * 5 + j]? := by
  unfold put5
  simp only [Array.getElem?_setIfInBounds, Array.size_setIfInBounds]
  by_cases h : k = i
  · subst h
    match j, hj with
    | 0, _ => simp [St.cell]; omega
    | 1, _ => simp [St.cell]; omega
    | 2, _ => simp [St.cell]; omega
    | 3, _ => simp [St.cell]; omega
    | 4, _ => simp [St.cell]; omega
  · rw [if_neg h, if_neg (by omega), if_neg (by omega), if_neg (by omega), if_neg (by omega), if_neg (by omega)]

/-- What has been turned round after i rounds. -/
def halfRev (xs : List St) (i k : Nat) : St := if k < i ∨ xs.length - i ≤ k then xs.getD (xs.length - 1 - k) default else xs.getD k default

set_option maxRecDepth 100000 in
set_option maxHeartbeats 2000000 in
theorem reverse_steps (g cap : Nat) (cs : Array Value) (xs : List St) (hl : xs.length ≤ 1000) (w : World) (hb : Blk w g 46 cs) (hI : StIn cs xs) (hsz : xs.length * 5 ≤ cs.size) :
    Calls Try.prog 59 #[.slice (some ⟨g, 0, none⟩) xs.length cap] w fun e w' => e = .returned (.tuple #[]) ∧ (∃ cs', Blk w' g 46 cs' ∧ StIn cs' xs.reverse) ∧ But (· = g) w w' := by
  go_enter Try.func59, Try.ntmps59
  go_wp2
  go_loopw [2, 3] (fun iv jv wr => ∃ (i : Nat) (cr : Array Value), 2 * i ≤ xs.length + 1 ∧ iv = .int .i64 i ∧ jv = .int .i64 ((xs.length : Int) - 1 - i) ∧ Blk wr g 46 cr ∧ cr.size = cs.size ∧ (∀ k j, k < xs.length → j < 5 → cr[k * 5 + j]? = some ((halfRev xs i k).cell j)) ∧ But (· = g) w wr) (fun i _ _ => 1000 - (intOf i).toNat)
  case atStart =>
    refine ⟨0, cs, by omega, rfl, by go_num, hb, rfl, fun k j hk hj => ?_, But.refl _ _⟩
    rw [hI k j hk hj]; unfold halfRev; rw [if_neg (by omega)]
  case round =>
    obtain ⟨i, cr, hi, rfl, rfl, hbr, hcs, hall, hB⟩ := hrel
    by_cases hlt : 2 * i + 1 < xs.length
    · obtain ⟨j, hj⟩ : ∃ j : Nat, j = xs.length - 1 - i := ⟨_, rfl⟩
      have he : (xs.length : Int) - 1 - (i : Int) = (j : Int) := by omega
      rw [he]
      have h1 : i < j := by omega
      have h2 : j < xs.length := by omega
      have a0 := (hbr.cell (i * 5)).trans (hall i 0 (by omega) (by omega))
      have a1 := (hbr.cell (i * 5 + 1)).trans (hall i 1 (by omega) (by omega))
      have a2 := (hbr.cell (i * 5 + 2)).trans (hall i 2 (by omega) (by omega))
      have a3 := (hbr.cell (i * 5 + 3)).trans (hall i 3 (by omega) (by omega))
      have a4 := (hbr.cell (i * 5 + 4)).trans (hall i 4 (by omega) (by omega))
      have b0 := (hbr.cell (j * 5)).trans (hall j 0 (by omega) (by omega))
      have b1 := (hbr.cell (j * 5 + 1)).trans (hall j 1 (by omega) (by omega))
      have b2 := (hbr.cell (j * 5 + 2)).trans (hall j 2 (by omega) (by omega))
      have b3 := (hbr.cell (j * 5 + 3)).trans (hall j 3 (by omega) (by omega))
      have b4 := (hbr.cell (j * 5 + 4)).trans (hall j 4 (by omega) (by omega))
      have z : ∀ q, wr.frozen? ⟨g, q, none⟩ = false := hbr.frozen
      simp only [St.cell] at a0 a1 a2 a3 a4 b0 b1 b2 b3 b4
      generalize hx : halfRev xs i i = x at a0 a1 a2 a3 a4
      generalize hy : halfRev xs i j = y at b0 b1 b2 b3 b4
      have HX := Lib.hid hx
      have HY := Lib.hid hy
      have HE := Lib.hid he
      have HJ := Lib.hid hj
      have HC := Lib.hid hcs
      have HALL := Lib.hid hall
      clear hx hy he hj hcs hall
      go_wp2
      go_region
      have H5 : Blk _ g 46 (put5 (put5 cr i y) j x) := (((((((((hbr.set_ (i * 5) (.int .i64 y.node)).set_ (i * 5 + 1) (.int .i64 y.target)).set_ (i * 5 + 2) (.int .i64 y.related)).set_ (i * 5 + 3) (.bool y.croot)).set_ (i * 5 + 4) (.bool y.cslot)).set_ (j * 5) (.int .i64 x.node)).set_ (j * 5 + 1) (.int .i64 x.target)).set_ (j * 5 + 2) (.int .i64 x.related)).set_ (j * 5 + 3) (.bool x.croot)).set_ (j * 5 + 4) (.bool x.cslot)
      have B5 := (((((((((hB.step ⟨g, i * 5, none⟩ (.int .i64 y.node) rfl).step ⟨g, i * 5 + 1, none⟩ (.int .i64 y.target) rfl).step ⟨g, i * 5 + 2, none⟩ (.int .i64 y.related) rfl).step ⟨g, i * 5 + 3, none⟩ (.bool y.croot) rfl).step ⟨g, i * 5 + 4, none⟩ (.bool y.cslot) rfl).step ⟨g, j * 5, none⟩ (.int .i64 x.node) rfl).step ⟨g, j * 5 + 1, none⟩ (.int .i64 x.target) rfl).step ⟨g, j * 5 + 2, none⟩ (.int .i64 x.related) rfl).step ⟨g, j * 5 + 3, none⟩ (.bool x.croot) rfl).step ⟨g, j * 5 + 4, none⟩ (.bool x.cslot) rfl
      have HB5 := Lib.hid H5.drew
      have HBB := Lib.hid B5.drew
      clear H5 B5 hbr hB z a0 a1 a2 a3 a4 b0 b1 b2 b3 b4
      go_wp2
      go_roundw
      case rel =>
        refine ⟨i + 1, put5 (put5 cr i y) j x, by omega, by go_num, by have := HE.out; go_num, HB5.out, by rw [put5_size, put5_size]; exact HC.out, fun k q hk hq => ?_, HBB.out⟩
        have hc := HC.out
        rw [put5_get _ _ _ (by rw [put5_size]; omega) _ _ hq, put5_get _ _ _ (by omega) _ _ hq, HALL.out k q hk hq, ← HX.out, ← HY.out]
        have hj := HJ.out
        by_cases e1 : k = j
        · rw [if_pos e1]
          subst e1
          unfold halfRev
          rw [if_neg (by omega), if_pos (by omega), show xs.length - 1 - k = i by omega]
        · rw [if_neg e1]
          by_cases e2 : k = i
          · rw [if_pos e2]
            subst e2
            unfold halfRev
            rw [if_neg (by omega), if_pos (by omega), ← hj]
          · rw [if_neg e2]
            unfold halfRev
            by_cases e3 : k < i ∨ xs.length - i ≤ k
            · rw [if_pos e3, if_pos (by omega)]
            · rw [if_neg e3, if_neg (by omega)]
      case measure => simp [intOf]; omega
    · go_wp2
      go_end0
      refine ⟨rfl, ⟨cr, hbr, fun k q hk hq => ?_⟩, hB⟩
      rw [List.length_reverse] at hk
      rw [hall k q hk hq]
      congr 2
      unfold halfRev
      have e : xs.reverse.getD k default = xs.getD (xs.length - 1 - k) default := by
        rw [List.getD_eq_getElem?_getD, List.getD_eq_getElem?_getD, List.getElem?_reverse hk]
      rw [e]
      by_cases e3 : k < i ∨ xs.length - i ≤ k
      · rw [if_pos e3]
      · rw [if_neg e3, show xs.length - 1 - k = k by omega]
end Go.Proofs.Ytpmeffdcbjakoaa
