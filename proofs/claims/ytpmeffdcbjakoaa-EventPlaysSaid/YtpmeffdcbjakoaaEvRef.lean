/- Events: the reference's event (towncrierref13), and whether two events are the same. -/
import Derived.Test.YtpmeffdcbjakoaaEvNone
import Derived.Test.YtpmeffdcbjakoaaSteps
import Derived.OpenShut
import Derived.Deep.RegionHeld3
namespace Go.Proofs.Ytpmeffdcbjakoaa
set_option linter.unusedVariables false
set_option linter.unusedSimpArgs false
open Go.RowKit

/-- A path's value reads as a list. -/
def PathV (w : World) (v : Value) (xs : List St) : Prop := ∃ A c, v = .slice A xs.length c ∧ StAt w A xs
theorem PathV.below {w w' : World} {v : Value} {xs : List St} (h : PathV w v xs) (hb : Below w.heap.size w w') : PathV w' v xs := by
  obtain ⟨A, c, rfl, h⟩ := h; exact ⟨A, c, rfl, h.below hb⟩
theorem PathV.nil (w : World) : PathV w (.slice none 0 0) [] := ⟨none, 0, rfl, fun h => by simp at h⟩

set_option maxHeartbeats 2000000 in
theorem same_true (g h : Nat) (x : Ev) (p q : Value) (xs : List St) (w : World) (hg : EvAt w g 68 { x with path := p }) (hh : EvAt w h 67 { x with path := q }) (hp : PathV w p xs) (hq : PathV w q xs) (hl : xs.length ≤ 1000) :
    Calls Try.prog 36 #[.pointer (some ⟨g, 0, none⟩), .pointer (some ⟨h, 0, none⟩)] w fun e w' => e = .returned (.bool true) ∧ ∃ n, w' = w.drewN n := by
  obtain ⟨A0, k0, rfl, s0⟩ := hp
  obtain ⟨A1, k1, rfl, s1⟩ := hq
  have H := fun n => path_same A0 k0 xs A1 k1 xs (w.drewN n) s0 s1 hl hl
  simp only [decide_true] at H
  obtain ⟨⟨c0, c1, c2, c3, c4, c5⟩, ⟨c6, c7, c8, c9, c10, c11, c12, c13⟩, _⟩ := hg.all
  obtain ⟨⟨d0, d1, d2, d3, d4, d5⟩, ⟨d6, d7, d8, d9, d10, d11, d12, d13⟩, _⟩ := hh.all
  have hf := flags_eql
  have hm : Try.prog.eqGuardType Try.prog.depth 65 = false := by kernel_rfl
  have H1 := Lib.hid H
  clear H hg hh
  simp only at c0 c1 c2 c3 c4 c5 c6 c7 c8 c9 c10 c11 c12 c13 d0 d1 d2 d3 d4 d5 d6 d7 d8 d9 d10 d11 d12 d13
  go_enter Try.func36, Try.ntmps36
  go_wp2_with fail
  go_quiet ((go_at_call 56; exact Calls.quiet_of (H1.out _)))
  go_wp2
  go_ret
  exact ⟨rfl, _, rfl⟩

theorem ref_word (s : ByteArray) (w : World) (hs : s.size ≤ 140737488351232) :
    Calls Try.prog 49 #[.string s] w fun e w' => e = .returned (.bool (wordB s)) ∧ w = w' := by
  by_cases h0 : s.size < 1
  · have e1 : wordB s = false := by simp [wordB]; omega
    rw [e1]
    clear e1
    go_enter Try.func49, Try.ntmps49
    go_wp2
    go_ret
    exact ⟨rfl, rfl⟩
  · by_cases h8 : 8 < s.size
    · have e1 : wordB s = false := by simp [wordB]; omega
      rw [e1]
      clear e1
      go_enter Try.func49, Try.ntmps49
      go_wp2
      go_ret
      exact ⟨rfl, rfl⟩
    · go_enter Try.func49, Try.ntmps49
      go_wp2
      go_loop [2, 3, 4] (fun r i c => ∃ pos : Nat, pos ≤ s.size ∧ r = .bool false ∧ i = .int .i64 pos ∧ (∀ i (hi : i < s.size), i < pos → okB (s[i]'hi).toNat = true)) (fun _ i _ => s.size - (intOf i).toNat)
      case atStart => exact ⟨0, by omega, rfl, rfl, fun i hi h => by omega⟩
      case round =>
        obtain ⟨pos, hpos, rfl, rfl, hall⟩ := hrel
        by_cases hp : pos < s.size
        · by_cases hk : okB (s[pos]'hp).toNat = true
          · have hk' : (97 ≤ (s[pos]'hp).toNat ∧ (s[pos]'hp).toNat ≤ 122) ∨ (48 ≤ (s[pos]'hp).toNat ∧ (s[pos]'hp).toNat ≤ 57) := by simpa [okB] using hk
            have hall2 : Hid (∀ i (hi : i < s.size), i < pos + 1 → okB (s[i]'hi).toNat = true) := by
              intro i hi h
              by_cases e : i = pos
              · subst e; exact hk
              · exact hall i hi (by omega)
            clear hall hk
            rcases hk' with ⟨q1, q2⟩ | ⟨q1, q2⟩
            · have b1 : decide ((97 : Int) ≤ ((s[pos]'hp).toNat : Int)) = true := by simp; omega
              have b2 : decide (((s[pos]'hp).toNat : Int) ≤ 122) = true := by simp; omega
              clear q1 q2
              go_wp2
              go_round
              case rel => exact ⟨pos + 1, by omega, rfl, by go_num, hall2.out⟩
              case measure => simp [intOf]; omega
            · have r1 : ¬ 97 ≤ (s[pos]'hp).toNat := by omega
              · have b1 : decide ((97 : Int) ≤ ((s[pos]'hp).toNat : Int)) = false := by simp; omega
                have b2 : decide ((48 : Int) ≤ ((s[pos]'hp).toNat : Int)) = true := by simp; omega
                have b3 : decide (((s[pos]'hp).toNat : Int) ≤ 57) = true := by simp; omega
                clear q1 q2 r1
                go_wp2
                go_round
                case rel => exact ⟨pos + 1, by omega, rfl, by go_num, hall2.out⟩
                case measure => simp [intOf]; omega
          · have hk : okB (s[pos]'hp).toNat = false := by simpa using hk
            have e1 : wordB s = false := by simp only [wordB, not_all_of s pos hp hk, Bool.and_false]
            have H1 := Lib.hid e1
            have hk' : ¬ ((97 ≤ (s[pos]'hp).toNat ∧ (s[pos]'hp).toNat ≤ 122) ∨ (48 ≤ (s[pos]'hp).toNat ∧ (s[pos]'hp).toNat ≤ 57)) := by simp [okB] at hk; omega
            clear e1 hk hall
            by_cases r1 : 97 ≤ (s[pos]'hp).toNat
            · have b1 : decide ((97 : Int) ≤ ((s[pos]'hp).toNat : Int)) = true := by simp; omega
              have b2 : decide (((s[pos]'hp).toNat : Int) ≤ 122) = false := by simp; omega
              have b3 : decide ((48 : Int) ≤ ((s[pos]'hp).toNat : Int)) = true := by simp; omega
              have b4 : decide (((s[pos]'hp).toNat : Int) ≤ 57) = false := by simp; omega
              go_wp2
              go_ret
              exact ⟨ret_bool H1.out.symm, rfl⟩
            · have b1 : decide ((97 : Int) ≤ ((s[pos]'hp).toNat : Int)) = false := by simp; omega
              by_cases r2 : 48 ≤ (s[pos]'hp).toNat
              · have b3 : decide ((48 : Int) ≤ ((s[pos]'hp).toNat : Int)) = true := by simp; omega
                have b4 : decide (((s[pos]'hp).toNat : Int) ≤ 57) = false := by simp; omega
                go_wp2
                go_ret
                exact ⟨ret_bool H1.out.symm, rfl⟩
              · have b3 : decide ((48 : Int) ≤ ((s[pos]'hp).toNat : Int)) = false := by simp; omega
                go_wp2
                go_ret
                exact ⟨ret_bool H1.out.symm, rfl⟩
        · have e1 : wordB s = true := by
            simp only [wordB, all_of s (fun i hi => hall i hi (by omega)), Bool.and_true]; simp; omega
          have H1 := Lib.hid e1
          clear e1 hall
          go_wp2
          go_ret
          exact ⟨ret_bool H1.out.symm, rfl⟩

theorem ref_new (s : ByteArray) (r : Int) (b c d : Bool) (w : World) (hs : s.size ≤ 140737488351232) (hw : wordB s = true) (hr : 0 ≤ r) :
    Calls Try.prog 28 #[.string s, .int .i64 r, .bool b, .bool c, .bool d] w fun e w' => ∃ g, e = .returned (.tuple #[.pointer (some ⟨g, 0, none⟩), .int .i64 0]) ∧ w.heap.size ≤ g ∧ EvAt w' g 67 (Ev.fresh s r b c d) ∧ Below w.heap.size w w' := by
  have H := ref_word s w hs
  rw [hw] at H
  have H1 := Lib.hid H
  clear H hw
  go_enter Try.func28, Try.ntmps28
  go_wp2_with (go_at_call 49; refine H1.out.mono ?_; rintro e w1 ⟨rfl, rfl⟩)
  go_ret2
  exact ⟨_, rfl, Nat.le_refl _, Blk.new _ _ _, (Below.refl _ w).alloc (Nat.le_refl _) _⟩

theorem ref_new_bad (s : ByteArray) (r : Int) (b c d : Bool) (w : World) (hs : s.size ≤ 140737488351232) (hw : wordB s = false ∨ r < 0) :
    Calls Try.prog 28 #[.string s, .int .i64 r, .bool b, .bool c, .bool d] w fun e w' => e = .returned (.tuple #[.pointer none, .int .i64 1]) ∧ w = w' := by
  have H := ref_word s w hs
  by_cases hh : wordB s = false
  · rw [hh] at H
    have H1 := Lib.hid H
    clear H hw hh
    go_enter Try.func28, Try.ntmps28
    go_wp2_with (go_at_call 49; refine H1.out.mono ?_; rintro e w1 ⟨rfl, rfl⟩)
    go_ret2
    exact ⟨rfl, rfl⟩
  · have hr : r < 0 := by rcases hw with h | h; exact absurd h hh; exact h
    have hh : wordB s = true := by simpa using hh
    rw [hh] at H
    have H1 := Lib.hid H
    clear H hw hh
    go_enter Try.func28, Try.ntmps28
    go_wp2_with (go_at_call 49; refine H1.out.mono ?_; rintro e w1 ⟨rfl, rfl⟩)
    go_ret2
    exact ⟨rfl, rfl⟩

theorem ref_prevent (b : Nat) (x : Ev) (w : World) (h : EvAt w b 67 x) :
    Calls Try.prog 30 #[.pointer (some ⟨b, 0, none⟩)] w fun e w' => e = .returned (.bool x.prevents) ∧ EvAt w' b 67 x.prevented ∧ But (· = b) w w' := by
  obtain ⟨⟨c0, c1, c2, c3, c4, c5⟩, ⟨c6, c7, c8, c9, c10, c11, c12, c13⟩, ⟨z3, z4, z5, z9, z10, z11, z12, z13⟩⟩ := h.all
  by_cases hc : x.fl.cancelable = true
  · by_cases hp : x.fl.passive = true
    · have e1 : x.prevents = false := by simp [Ev.prevents, hp]
      have e2 : x.prevented = x := by simp [Ev.prevented, e1]
      rw [e1, e2]
      clear e1 e2
      go_enter Try.func30, Try.ntmps30
      go_wp2
      go_ret
      exact ⟨rfl, h, But.refl _ _⟩
    · have hp : x.fl.passive = false := by simpa using hp
      have e1 : x.prevents = true := by simp [Ev.prevents, hp, hc]
      have e2 : x.prevented = { x with fl := g_prevent x.fl } := by simp [Ev.prevented, e1]
      rw [e1, e2]
      clear e1 e2
      go_enter Try.func30, Try.ntmps30
      go_wp2
      go_ret
      exact ⟨rfl, h.set9 _, But.set _ ⟨b, 9, none⟩ _ rfl⟩
  · have hc : x.fl.cancelable = false := by simpa using hc
    have e1 : x.prevents = false := by simp [Ev.prevents, hc]
    have e2 : x.prevented = x := by simp [Ev.prevented, e1]
    rw [e1, e2]
    clear e1 e2
    by_cases hp : x.fl.passive = true
    · go_enter Try.func30, Try.ntmps30
      go_wp2
      go_ret
      exact ⟨rfl, h, But.refl _ _⟩
    · have hp : x.fl.passive = false := by simpa using hp
      go_enter Try.func30, Try.ntmps30
      go_wp2
      go_ret
      exact ⟨rfl, h, But.refl _ _⟩

theorem ref_end (b : Nat) (x : Ev) (w : World) (h : EvAt w b 67 x) :
    Calls Try.prog 35 #[.pointer (some ⟨b, 0, none⟩)] w fun e w' => e = .returned (.tuple #[]) ∧ EvAt w' b 67 x.ended ∧ But (· = b) w w' := by
  obtain ⟨⟨c0, c1, c2, c3, c4, c5⟩, ⟨c6, c7, c8, c9, c10, c11, c12, c13⟩, ⟨z3, z4, z5, z9, z10, z11, z12, z13⟩⟩ := h.all
  go_enter Try.func35, Try.ntmps35
  go_wp2
  go_end0
  refine ⟨rfl, ((((((h.set13 _).set10 _).set11 _).set12 _).set3 _).set4 _).set5 _, ?_⟩
  exact (((((((But.refl (· = b) w).step ⟨b, 13, none⟩ _ rfl).step ⟨b, 10, none⟩ _ rfl).step ⟨b, 11, none⟩ _ rfl).step ⟨b, 12, none⟩ _ rfl).step ⟨b, 3, none⟩ _ rfl).step ⟨b, 4, none⟩ _ rfl).step ⟨b, 5, none⟩ _ rfl
end Go.Proofs.Ytpmeffdcbjakoaa
