/- slices.Reverse of a slice of integers of the call's own. -/
import Derived.Test.YtpmeffdcbjakoaaOwnI
import Derived.BigRegion
import Derived.ChangeAlike
import Derived.Lib.Hide
import Derived.WalkSpells
import Derived.Outline
namespace Go.Proofs.Ytpmeffdcbjakoaa
set_option linter.unusedVariables false
set_option linter.unusedSimpArgs false
open Go.RowKit

def halfRevI (xs : List Int) (i k : Nat) : Int := if k < i ∨ xs.length - i ≤ k then xs.getD (xs.length - 1 - k) 0 else xs.getD k 0

set_option maxRecDepth 100000 in
set_option maxHeartbeats 2000000 in
theorem reverse_ints_blk (g cap : Nat) (cs : Array Value) (xs : List Int) (hl : xs.length ≤ 1000000) (w : World) (hb : Blk w g 3 cs) (hI : ∀ k, k < xs.length → cs[k]? = some (.int .i64 (xs.getD k 0))) (hsz : xs.length ≤ cs.size) :
    Calls Try.prog 63 #[.slice (some ⟨g, 0, none⟩) xs.length cap] w fun e w' => e = .returned (.tuple #[]) ∧ (∃ cs', Blk w' g 3 cs' ∧ cs'.size = cs.size ∧ ∀ k, k < xs.length → cs'[k]? = some (.int .i64 (xs.reverse.getD k 0))) ∧ But (· = g) w w' := by
  go_enter Try.func63, Try.ntmps63
  go_wp2
  go_loopw [2, 3] (fun iv jv wr => ∃ (i : Nat) (cr : Array Value), 2 * i ≤ xs.length + 1 ∧ iv = .int .i64 i ∧ jv = .int .i64 ((xs.length : Int) - 1 - i) ∧ Blk wr g 3 cr ∧ cr.size = cs.size ∧ (∀ k, k < xs.length → cr[k]? = some (.int .i64 (halfRevI xs i k))) ∧ But (· = g) w wr) (fun i _ _ => 1000000 - (intOf i).toNat)
  case atStart =>
    refine ⟨0, cs, by omega, rfl, by go_num, hb, rfl, fun k hk => ?_, But.refl _ _⟩
    rw [hI k hk]; unfold halfRevI; rw [if_neg (by omega)]
  case round =>
    obtain ⟨i, cr, hi, rfl, rfl, hbr, hcs, hall, hB⟩ := hrel
    by_cases hlt : 2 * i + 1 < xs.length
    · obtain ⟨j, hj⟩ : ∃ j : Nat, j = xs.length - 1 - i := ⟨_, rfl⟩
      have he : (xs.length : Int) - 1 - (i : Int) = (j : Int) := by omega
      rw [he]
      have h1 : i < j := by omega
      have h2 : j < xs.length := by omega
      have a0 := (hbr.cell i).trans (hall i (by omega))
      have b0 := (hbr.cell j).trans (hall j (by omega))
      have z : ∀ q, wr.frozen? ⟨g, q, none⟩ = false := hbr.frozen
      generalize hx : halfRevI xs i i = x at a0
      generalize hy : halfRevI xs i j = y at b0
      have HX := Lib.hid hx
      have HY := Lib.hid hy
      have HE := Lib.hid he
      have HJ := Lib.hid hj
      have HC := Lib.hid hcs
      have HALL := Lib.hid hall
      clear hx hy he hj hcs hall
      go_wp2
      go_region
      have H5 : Blk _ g 3 ((cr.setIfInBounds i (.int .i64 y)).setIfInBounds j (.int .i64 x)) := (hbr.set_ i (.int .i64 y)).set_ j (.int .i64 x)
      have B5 := (hB.step ⟨g, i, none⟩ (.int .i64 y) rfl).step ⟨g, j, none⟩ (.int .i64 x) rfl
      have HB5 := Lib.hid H5.drew
      have HBB := Lib.hid B5.drew
      clear H5 B5 hbr hB z a0 b0
      go_wp2
      go_roundw
      case rel =>
        refine ⟨i + 1, _, by omega, by go_num, by have := HE.out; go_num, HB5.out, by simp; exact HC.out, fun k hk => ?_, HBB.out⟩
        have hc := HC.out
        have hj := HJ.out
        rw [Array.getElem?_setIfInBounds, Array.getElem?_setIfInBounds, HALL.out k hk, ← HX.out, ← HY.out]
        by_cases e1 : j = k
        · rw [if_pos e1, if_pos (by simp; omega)]
          subst e1
          unfold halfRevI
          rw [if_neg (by omega), if_pos (by omega), show xs.length - 1 - j = i by omega]
        · rw [if_neg e1]
          by_cases e2 : i = k
          · rw [if_pos e2, if_pos (by omega)]
            subst e2
            unfold halfRevI
            rw [if_neg (by omega), if_pos (by omega), ← hj]
          · rw [if_neg e2]
            unfold halfRevI
            by_cases e3 : k < i ∨ xs.length - i ≤ k
            · rw [if_pos e3, if_pos (by omega)]
            · rw [if_neg e3, if_neg (by omega)]
      case measure => simp [intOf]; omega
    · go_wp2
      go_end0
      refine ⟨rfl, ⟨cr, hbr, hcs, fun k hk => ?_⟩, hB⟩
      rw [hall k hk]
      congr 2
      unfold halfRevI
      have e : xs.reverse.getD k 0 = xs.getD (xs.length - 1 - k) 0 := by
        rw [List.getD_eq_getElem?_getD, List.getD_eq_getElem?_getD, List.getElem?_reverse hk]
      rw [e]
      by_cases e3 : k < i ∨ xs.length - i ≤ k
      · rw [if_pos e3]
      · rw [if_neg e3, show xs.length - 1 - k = k by omega]

theorem reverse_ints (B : Nat) (v : Value) (xs : List Int) (hl : xs.length ≤ 1000000) (w w0 : World) (hO : OwnI w B v xs) (hB : Below B w0 w) (hBw : B ≤ w.heap.size) :
    Calls Try.prog 63 #[v] w fun e w' => e = .returned (.tuple #[]) ∧ OwnI w' B v xs.reverse ∧ Below B w0 w' ∧ But (fun k => some k = v.ownBlock) w w' := by
  rcases hO.2 with ⟨rfl, h0⟩ | ⟨g, cap, cur, rfl, hg, hh, hnc, hcm, hsz, ht⟩
  · have : xs = [] := by simpa using h0
    subst this
    go_enter Try.func63, Try.ntmps63
    go_wp2
    go_loop [2, 3] (fun iv jv => iv = .int .i64 0 ∧ jv = .int .i64 (-1)) (fun _ _ => 0)
    case atStart => exact ⟨rfl, rfl⟩
    case round =>
      obtain ⟨rfl, rfl⟩ := hrel
      go_wp2
      go_end0
      exact ⟨rfl, OwnI.nil _ _, hB, But.refl _ _⟩
  · have hget : ∀ k, k < xs.length → cur[k]? = some (.int .i64 (xs.getD k 0)) := fun k hk => by
      have e : (cur.toList.take (xs.length * 1))[k]? = (xs.map (Value.int .i64))[k]? := by rw [ht]
      rw [List.getElem?_take, if_pos (by omega), Array.getElem?_toList, List.getElem?_map, List.getElem?_eq_getElem hk] at e
      rw [e, List.getD_eq_getElem?_getD, List.getElem?_eq_getElem hk]; rfl
    refine (reverse_ints_blk g cap cur xs hl w hh hget (by omega)).mono ?_
    rintro e w' ⟨rfl, ⟨cs', h1, h2, h3⟩, hb⟩
    refine ⟨rfl, ⟨by simp, .inr ⟨g, cap, cs', by rw [List.length_reverse], hg, h1, by rw [List.length_reverse]; exact hnc, hcm, by rw [h2, hsz], ?_⟩⟩, hb.below (by rintro k rfl; exact hg) hBw hB, hb.mono fun k _ hk => by show some k = _; rw [hk]; rfl⟩
    apply List.ext_getElem?
    intro k
    rw [List.length_reverse]
    by_cases hk : k < xs.length
    · rw [List.getElem?_take, if_pos (by omega), Array.getElem?_toList, h3 k hk, List.getElem?_map, List.getElem?_eq_getElem (by simpa using hk)]
      rw [List.getD_eq_getElem?_getD, List.getElem?_eq_getElem (by simpa using hk)]; rfl
    · rw [List.getElem?_take, if_neg (by omega), List.getElem?_eq_none (by simp; omega)]
end Go.Proofs.Ytpmeffdcbjakoaa
