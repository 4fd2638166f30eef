/- The law SeeTells. -/
import Derived.Test.YtpmeffdcbjakoaaSeeRef2
import Derived.Test.YtpmeffdcbjakoaaSeeOpen
namespace Go.Proofs.Ytpmeffdcbjakoaa
set_option linter.unusedVariables false
set_option linter.unusedSimpArgs false
open Go.RowKit

theorem owns_st {w : World} {B : Nat} {v : Value} {xs : List St} (h : w.ownsRow B 46 5 v xs.length (flatS xs)) : ∃ A c, v = .slice A xs.length c ∧ StAt w A xs ∧ xs.length ≤ c ∧ c ≤ maxLen := by
  rcases h.2 with ⟨rfl, h0⟩ | ⟨g, cap, cur, rfl, hg, hh, hnc, hcm, _, _⟩
  · exact ⟨none, 0, by rw [h0], fun hn => by omega, by omega, by unfold maxLen; omega⟩
  · refine ⟨_, _, rfl, ?_, hnc, hcm⟩
    rcases OwnS.of_row h with ⟨h1, _⟩ | ⟨g', cap', cs', h1, _, h2, h3⟩
    · cases h1
    · cases h1
      exact SliceAt.cells fun i j h1 h2' => by rw [Nat.zero_add, h2.cell]; exact h3 i j h1 h2'

set_option maxRecDepth 100000 in
set_option maxHeartbeats 4000000 in
theorem seeTells_walk (A : Option Addr) (c : Nat) (xs : List St) (node : Int) (w : World) (hI : StAt w A xs) (hlc : xs.length ≤ c) (hcm : c ≤ maxLen) (hw : (Lit.int .i64 node).wf = true) :
    Calls Try.prog 11 #[.slice A xs.length c, .int .i64 node] w fun e w' => e = .returned (.bool true) ∧ Below w.heap.size w w' := by
  have hl63 : xs.length ≤ 2 ^ 63 - 1 := by unfold maxLen at hcm; omega
  have HA := Lib.hid (awake15 w)
  by_cases hbig : 300 < xs.length
  · clear hI hlc hcm
    go_enter Try.func11, Try.ntmps11
    go_wp2_with (go_at_call 37; refine HA.out.mono ?_; rintro e w1 ⟨rfl, hb⟩)
    go_ret
    exact ⟨rfl, hb⟩
  · obtain ⟨i0, hi, hz0, hz1, hz2⟩ := info_parts info_step
    have hn1 : xs.length ≤ 300 := by omega
    have HI := Lib.hid hI
    have hq := step_neq
    have hm : Try.prog.eqGuardType Try.prog.depth 46 = false := by kernel_rfl
    clear hI hcm
    go_enter Try.func11, Try.ntmps11
    go_wp2_with fail
    go_at_call 37
    refine HA.out.mono ?_
    rintro e w1 ⟨rfl, hb⟩
    have HR := Lib.hid (fun o => (HI.out.below hb).reads.alloc (Nat.le_refl _) o)
    have HB := Lib.hid hb
    have hsz := hb.size
    have hnew : ∀ t : TypeId, (w1.alloc (.cells #[] t)).ownsRow w.heap.size t 5 (.slice (some ⟨w1.heap.size, 0, none⟩) 0 0) 0 [] := fun t => ⟨rfl, .inr ⟨w1.heap.size, 0, #[], rfl, hsz, heap_alloc_new w1 _, Nat.le_refl _, by decide, rfl, rfl⟩⟩
    have HN := Lib.hid hnew
    clear hb hnew
    go_wp2_with (at_builtin; go_must (refine wpList_append_any _ rfl _ _ 40 rfl w.heap.size 46 i0 _ 5 32 Try.underlying40 hi hz0 hz1 hz2 rfl (by decide) _ 0 [] rfl (HN.out _) _ A xs.length c (flatS xs) rfl (HR.out _) (flatS_one xs) (by unfold maxLen; omega) (by omega) (by simp; omega) ?_); intro v2 w2 h1 h2 h3; have H1 := Lib.hid h1; have H2 := Lib.hid h2; clear h1 h2 h3)
    have HB2 := Lib.hid ((HB.out.alloc hsz _).grown H2.out (by simp; omega) (fun k hk => by cases hk; exact hsz))
    have H1' : w2.ownsRow w.heap.size 46 5 v2 xs.length (flatS xs) := by have := H1.out; rwa [Nat.zero_add, List.nil_append] at this
    clear H1 H2
    obtain ⟨Aq, cq, rfl, IQ, hq1, hq2⟩ := owns_st H1'
    have hs2 := HB2.out.size
    go_at_call 38
    refine (from_calls Aq cq xs node (by omega) hq1 hq2 w2 IQ).mono ?_
    rintro e w3 ⟨v3, rfl, O3, hb3⟩
    have hs3 := hb3.size
    go_wp2_with fail
    go_at_call 39
    refine (level_calls Aq cq xs node (by omega) w3 (IQ.below hb3)).mono ?_
    rintro e w4 ⟨rfl, hb4⟩
    have hs4 := hb4.size
    have B4 : Below w.heap.size w w4 := (HB2.out.trans (hb3.mono hs2)).trans (hb4.mono (by omega))
    obtain ⟨A3, c3, rfl, J3⟩ := (O3.below hb4).ints
    have HJ := Lib.hid J3
    have HP := Lib.hid (HI.out.below B4)
    have HQ := Lib.hid ((IQ.below hb3).below hb4)
    have HB4 := Lib.hid B4
    have hsl : (seenP xs node).length ≤ 1000000 := by
      have := (seenP_sub xs node).1.length_le
      rw [List.length_map] at this; omega
    generalize hsn : seenP xs node = sn at *
    have HSN := Lib.hid hsn
    clear hsn
    generalize hpl : (placeP xs node).2 = pl at *
    have HPL := Lib.hid hpl
    clear hpl
    clear hb3 hb4 O3 J3 B4 IQ
    go_wp2
    go_loopw [8] (fun iv wr => ∃ k n : Nat, k ≤ xs.length ∧ iv = .int .i64 k ∧ wr = w4.drewN n) (fun iv _ => 1000 - (intOf iv).toNat)
    case atStart => exact ⟨0, 0, by omega, rfl, rfl⟩
    case round =>
      obtain ⟨k, n, hk, rfl, rfl⟩ := hrel
      by_cases hlt : k < xs.length
      · obtain ⟨b, off, rfl, a0, a1, a2, a3, a4⟩ := HP.out.get hlt
        obtain ⟨b', off', rfl, b0, b1, b2, b3, b4⟩ := HQ.out.get hlt
        generalize xs.getD k default = x at *
        have he' : decide (x ≠ x) = false := by simp
        go_wp2_with fail
        go_quiet (fail)
        go_wp2
        go_roundw
        case rel => exact ⟨k + 1, _, by omega, by go_num, rfl⟩
        case measure => simp [intOf] <;> omega
      · have IP : StAt (w4.drewN n) A xs := HP.out
        go_wp2_with fail
        go_at_call 41
        refine (reffrom_calls A c xs node (by omega) (w4.drewN n) IP).mono ?_
        rintro e w5 ⟨v5, rfl, O5, hb5⟩
        rw [HSN.out] at O5
        obtain ⟨A5, c5, rfl, J5⟩ := O5.ints
        clear O5
        go_wp2_with fail
        go_at_call 40
        refine (ints_same A3 c3 sn A5 c5 sn w5 (IntsAt.below (w := w4.drewN n) HJ.out hb5) J5 (by omega) (by omega)).mono ?_
        rintro e w6 ⟨rfl, n6, rfl⟩
        rw [decide_eq_true rfl]
        go_wp2_with fail
        go_at_call 42
        refine (reflevel_calls A c xs node (by omega) (w5.drewN n6) (IP.below (below_drewN hb5 n6))).mono ?_
        rintro e w7 ⟨rfl, rfl⟩
        rw [HPL.out]
        go_wp2
        go_ret
        refine ⟨rfl, HB4.out.trans ?_⟩
        have h5 : Below w.heap.size (w4.drewN n) w5 := hb5.mono (by show w.heap.size ≤ w4.heap.size; have := HB4.out.size; omega)
        exact (below_drawn _ w4 n).trans (below_drewN h5 n6)
end Go.Proofs.Ytpmeffdcbjakoaa
