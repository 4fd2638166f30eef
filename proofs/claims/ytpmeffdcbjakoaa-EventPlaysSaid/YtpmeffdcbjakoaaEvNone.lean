/- Events: New, the document's example, and the law EventNone (a nil event does nothing). -/
import Derived.Test.YtpmeffdcbjakoaaEv
import Derived.Test.YtpmeffdcbjakoaaWord
import Derived.OpenShut
namespace Go.Proofs.Ytpmeffdcbjakoaa
set_option linter.unusedVariables false
set_option linter.unusedSimpArgs false
open Go.RowKit

def Ev.fresh (s : ByteArray) (related : Int) (b c d : Bool) : Ev := { typ := s, target := 0, related := related, current := 0, phase := 0, path := .slice none 0 0, fl := { bubbles := b, cancelable := c, composed := d, canceled := false, stop := false, stopNow := false, passive := false, dispatch := false } }

theorem new_event (s : ByteArray) (r : Int) (b c d : Bool) (w : World) (hs : s.size ≤ 140737488351232) (hw : wordB s = true) (hr : 0 ≤ r) :
    Calls Try.prog 27 #[.string s, .int .i64 r, .bool b, .bool c, .bool d] w fun e w' => ∃ g, e = .returned (.tuple #[.pointer (some ⟨g, 0, none⟩), .int .i64 0]) ∧ w.heap.size ≤ g ∧ EvAt w' g 68 (Ev.fresh s r b c d) ∧ Below w.heap.size w w' := by
  have H := word_right s w hs
  rw [hw] at H
  have H1 := Lib.hid H
  clear H hw
  go_enter Try.func27, Try.ntmps27
  go_wp2_with (go_at_call 48; refine H1.out.mono ?_; rintro e w1 ⟨rfl, hb⟩)
  go_ret2
  exact ⟨_, rfl, hb.size, Blk.new _ _ _, hb.alloc hb.size _⟩

theorem new_event_bad (s : ByteArray) (r : Int) (b c d : Bool) (w : World) (hs : s.size ≤ 140737488351232) (hw : wordB s = false ∨ r < 0) :
    Calls Try.prog 27 #[.string s, .int .i64 r, .bool b, .bool c, .bool d] w fun e w' => e = .returned (.tuple #[.pointer none, .int .i64 1]) ∧ Below w.heap.size w w' := by
  have H := word_right s w hs
  by_cases hh : wordB s = false
  · rw [hh] at H
    have H1 := Lib.hid H
    clear H hw hh
    go_enter Try.func27, Try.ntmps27
    go_wp2_with (go_at_call 48; refine H1.out.mono ?_; rintro e w1 ⟨rfl, hb⟩)
    go_ret2
    exact ⟨rfl, hb⟩
  · have hr : r < 0 := by rcases hw with h | h; exact absurd h hh; exact h
    have hh : wordB s = true := by simpa using hh
    rw [hh] at H
    have H1 := Lib.hid H
    clear H hw hh
    go_enter Try.func27, Try.ntmps27
    go_wp2_with (go_at_call 48; refine H1.out.mono ?_; rintro e w1 ⟨rfl, hb⟩)
    go_ret2
    exact ⟨rfl, hb⟩

theorem ev_awake (w : World) : Calls Try.prog 26 #[] w fun e w' => e = .returned (.bool true) ∧ Below w.heap.size w w' := by
  go_enter Try.func26, Try.ntmps26
  go_wp2_with fail
  refine (new_event _ _ _ _ _ _ (by decide) (by decide) (by omega)).mono ?_
  rintro e w1 ⟨g1, rfl, hg1, hE1, hB1⟩
  go_wp2_with fail
  refine (new_event _ _ _ _ _ _ (by decide) (by decide) (by omega)).mono ?_
  rintro e w2 ⟨g2, rfl, hg2, hE2, hB2⟩
  have hlt := hE1.lt
  replace hE1 : EvAt w2 g1 _ _ := hE1.below hB2 hlt
  replace hB2 := hB1.trans (hB2.mono hB1.size)
  have hg2' : w.heap.size ≤ g2 := Nat.le_trans hB1.size hg2
  go_wp2_with fail
  refine (prevent_any g1 _ _ hE1).mono ?_
  rintro e w3 ⟨rfl, hE3, hB3⟩
  have hE4 : EvAt w3 g2 _ _ := hB3.blk hE2 (by omega)
  replace hB3 := hB3.below (by rintro k rfl; exact hg1) hB2.size hB2
  simp only [Ev.prevents, Ev.fresh]
  go_wp2_with fail
  refine (prevent_any g2 _ _ hE4).mono ?_
  rintro e w5 ⟨rfl, hE5, hB5⟩
  replace hB5 := hB5.below (by rintro k rfl; exact hg2') hB3.size hB3
  simp only [Ev.prevents, Ev.fresh]
  go_wp2_with fail
  go_ret
  exact ⟨rfl, hB5⟩

theorem eventNone_walk (a0 : Int) (w : World) (w0 : (Lit.int .u8 a0).wf = true) :
    Calls Try.prog 9 #[.int .u8 a0] w fun e w' => e = .returned (.bool true) ∧ Below w.heap.size w w' := by
  obtain ⟨l0, l1⟩ := bounds_u8 w0
  clear w0
  go_enter Try.func9, Try.ntmps9
  go_wp2_with (go_at_call 26; refine (ev_awake _).mono ?_; rintro e w1 ⟨rfl, hB⟩)
  go_loop [4] (fun i => ∃ k : Nat, (k : Int) ≤ 256 ∧ i = .int .i64 k) (fun i => 257 - (intOf i).toNat)
  case atStart => exact ⟨0, by omega, rfl⟩
  case round =>
    obtain ⟨k, hk, rfl⟩ := hrel
    by_cases hlt : (k : Int) ≤ a0
    · go_wp2_with (first | (go_at_call 31; refine (stop_nil _).mono ?_; rintro e w1 ⟨rfl, rfl⟩) | (go_at_call 32; refine (stopNow_nil _).mono ?_; rintro e w1 ⟨rfl, rfl⟩) | (go_at_call 34; refine (end_nil _).mono ?_; rintro e w1 ⟨rfl, rfl⟩) | (go_at_call 29; refine (prevent_nil _).mono ?_; rintro e w1 ⟨rfl, rfl⟩) | (go_at_call 33; refine (begin_nil _).mono ?_; rintro e w1 ⟨rfl, rfl⟩))
      go_round
      case rel => exact ⟨k + 1, by omega, by go_num⟩
      case measure => simp [intOf]; omega
    · go_wp2
      go_ret
      exact ⟨rfl, hB⟩
end Go.Proofs.Ytpmeffdcbjakoaa
