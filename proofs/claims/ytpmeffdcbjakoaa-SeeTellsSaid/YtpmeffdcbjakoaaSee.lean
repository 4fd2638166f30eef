/- towncrierref01.Ints; the seat's awake; the law SeePart. -/
import Derived.Test.YtpmeffdcbjakoaaFrom
namespace Go.Proofs.Ytpmeffdcbjakoaa
set_option linter.unusedVariables false
set_option linter.unusedSimpArgs false
open Go.RowKit

theorem ints_same (A0 : Option Addr) (c0 : Nat) (xs : List Int) (A1 : Option Addr) (c1 : Nat) (ys : List Int) (w : World) (h0 : IntsAt .i64 w A0 xs) (h1 : IntsAt .i64 w A1 ys) (m0 : xs.length ≤ 1000000) (m1 : ys.length ≤ 1000000) :
    Calls Try.prog 40 #[.slice A0 xs.length c0, .slice A1 ys.length c1] w fun e w' => e = .returned (.bool (decide (xs = ys))) ∧ ∃ n, w' = w.drewN n := by
  by_cases hl : xs.length = ys.length
  · have hle : (((xs.length : Nat) : Int) != ((ys.length : Nat) : Int)) = false := by rw [hl]; simp
    have HL := Lib.hid hl
    clear hl
    go_enter Try.func40, Try.ntmps40
    go_wp2
    go_loopw [5] (fun i wr => ∃ k n : Nat, k ≤ xs.length ∧ i = .int .i64 k ∧ wr = w.drewN n ∧ ∀ j, j < k → xs.getD j 0 = ys.getD j 0) (fun i _ => 1000000 - (intOf i).toNat)
    case atStart => exact ⟨0, 0, by omega, rfl, rfl, fun j hj => by omega⟩
    case round =>
      obtain ⟨k, n, hk, rfl, rfl, hall⟩ := hrel
      by_cases hlt : k < xs.length
      · obtain ⟨b, off, rfl, a0⟩ := h0.get hlt
        obtain ⟨b', off', rfl, b0⟩ := h1.get (k := k) (by rw [← HL.out]; exact hlt)
        have hlt2 : k < ys.length := by rw [← HL.out]; exact hlt
        have HA := Lib.hid hall
        clear hall h0 h1
        generalize hx : xs.getD k 0 = x at *
        generalize hy : ys.getD k 0 = y at *
        have HX := Lib.hid hx
        have HY := Lib.hid hy
        clear hx hy
        go_wp2_with fail
        by_cases he : x = y
        · have he' : decide (x ≠ y) = false := by simp [he]
          have HE := Lib.hid he
          subst he
          go_quiet (fail)
          go_wp2
          go_roundw
          case rel =>
            refine ⟨k + 1, _, by omega, by go_num, rfl, fun j hj => ?_⟩
            by_cases e : j = k
            · subst e; rw [HX.out, HY.out]
            · exact HA.out j (by omega)
          case measure => simp [intOf]; omega
        · have he' : (x != y) = true := by simp [he]
          have HE := Lib.hid he
          go_quiet (fail)
          go_wp2
          go_ret
          refine ⟨ret_bool ?_, _, World.drewN_drewN _ _ _⟩
          symm; rw [decide_eq_false_iff_not]; rintro rfl; exact HE.out (HX.out.symm.trans HY.out)
      · go_wp2
        go_ret
        refine ⟨ret_bool ?_, _, rfl⟩
        symm; rw [decide_eq_true_iff]
        refine List.ext_getElem HL.out fun j h0 h1 => ?_
        have := hall j (by omega)
        rw [List.getD_eq_getElem?_getD, List.getD_eq_getElem?_getD, List.getElem?_eq_getElem h0, List.getElem?_eq_getElem h1] at this
        exact this
  · have hle : (((xs.length : Nat) : Int) != ((ys.length : Nat) : Int)) = true := by simp; omega
    have e1 : decide (xs = ys) = false := by rw [decide_eq_false_iff_not]; rintro rfl; exact hl rfl
    rw [e1]
    clear e1 hl
    go_enter Try.func40, Try.ntmps40
    go_wp2
    go_ret
    exact ⟨rfl, 0, rfl⟩

theorem ints_lit (w : World) (t : TypeId) (xs : List Int) : IntsAt .i64 (w.alloc (.cells (xs.map (Value.int .i64)).toArray t)) (some ⟨w.heap.size, 0, none⟩) xs := fun _ => ⟨_, _, rfl, fun i hi => by
  rw [(Blk.new w t _).cell, Nat.zero_add, List.getElem?_toArray, List.getElem?_map, List.getElem?_eq_getElem hi, List.getD_eq_getElem?_getD, List.getElem?_eq_getElem hi]
  rfl⟩
def three : List St := [⟨3, 3, 0, false, false⟩, ⟨2, 0, 0, false, false⟩, ⟨1, 0, 0, false, false⟩]
theorem seen_three : seenP three 2 = [3, 2, 1] := by decide +kernel
set_option maxRecDepth 100000 in
theorem awake15 (w : World) : Calls Try.prog 37 #[] w fun e w' => e = .returned (.bool true) ∧ Below w.heap.size w w' := by
  go_enter Try.func37, Try.ntmps37
  go_wp2_with fail
  go_at_call 38
  have HI : StAt (w.alloc (.cells #[.int .i64 3, .int .i64 3, .int .i64 0, .bool false, .bool false, .int .i64 2, .int .i64 0, .int .i64 0, .bool false, .bool false, .int .i64 1, .int .i64 0, .int .i64 0, .bool false, .bool false] 46)) (some ⟨w.heap.size, 0, none⟩) three := SliceAt.cells fun i j hi hj => by
    rw [(Blk.new w 46 _).cell]
    have hi3 : i < 3 := hi
    obtain rfl | rfl | rfl : i = 0 ∨ i = 1 ∨ i = 2 := by omega
    all_goals (obtain rfl | rfl | rfl | rfl | rfl : j = 0 ∨ j = 1 ∨ j = 2 ∨ j = 3 ∨ j = 4 := by omega) <;> rfl
  refine (from_calls (some ⟨w.heap.size, 0, none⟩) 3 three 2 (by decide) (by decide) (by decide) _ HI).mono ?_
  rintro e w1 ⟨v1, rfl, O1, hb1⟩
  rw [seen_three] at O1
  have hbw : Below w.heap.size w w1 := ((Below.refl _ w).alloc (Nat.le_refl _) _).trans (hb1.mono (by simp))
  generalize World.heap (w.alloc _) = h0 at O1
  obtain ⟨A1, c1, rfl, I1⟩ := O1.ints
  have I1a := Lib.hid (fun (t : TypeId) cs => (I1.below ((Below.refl _ w1).alloc (Nat.le_refl _) (.cells cs t))))
  have I2a := Lib.hid (fun (t : TypeId) => ints_lit w1 t [3, 2, 1])
  clear HI O1 I1 hb1
  go_wp2_with fail
  go_at_call 40
  refine (ints_same A1 c1 [3, 2, 1] (some ⟨w1.heap.size, 0, none⟩) 3 [3, 2, 1] _ (I1a.out _ _) (I2a.out _) (by decide) (by decide)).mono ?_
  rintro e w2 ⟨rfl, n, rfl⟩
  go_wp2
  go_ret
  exact ⟨rfl, below_drewN (hbw.alloc (by have := hbw.size; omega) _) n⟩
end Go.Proofs.Ytpmeffdcbjakoaa
