/- The giver (package ids): contracts of its calls, and the walk of the law IdsOnce. -/
import Derived.Test.YtpmeffdcbjakoaaRows
import Derived.WalkKit
import Derived.ProofKit
import Derived.Laws.LoneSync
import Derived.WalkSpells
import Derived.OpenShut
namespace Go.Proofs.Ytpmeffdcbjakoaa
open Go.RowKit

theorem load_any (b off : Nat) (n : Int) (w : World) (h0 : w.cell? ⟨b, off, none⟩ = some (.int .i64 n)) :
    Calls Try.prog 43 #[.pointer (some ⟨b, off, none⟩)] w fun e w' => e = .returned (.int .i64 n) ∧ w = w' := by
  have hl := run_call_load (P := Try.prog) Try.func65 (by kernel_rfl) (by kernel_rfl) (by kernel_rfl) .i64 (by kernel_rfl) h0
  go_enter Try.func43, Try.ntmps43
  go_wp2
  go_ret
  exact ⟨rfl, rfl⟩

theorem cas_any (b off : Nat) (n m : Int) (w : World) (h0 : w.cell? ⟨b, off, none⟩ = some (.int .i64 n)) (z0 : w.frozen? ⟨b, off, none⟩ = false) :
    Calls Try.prog 44 #[.pointer (some ⟨b, off, none⟩), .int .i64 n, .int .i64 m] w fun e w' => e = .returned (.bool true) ∧ w' = w.setCell ⟨b, off, none⟩ (.int .i64 m) := by
  have hl := run_call_cas_hit (P := Try.prog) Try.func66 (by kernel_rfl) (by kernel_rfl) (by kernel_rfl) .i64 (by kernel_rfl) (y := m) h0 z0
  go_enter Try.func44, Try.ntmps44
  go_wp2
  go_ret
  exact ⟨rfl, rfl⟩

/-- A giver at block b: n was given last, the limit is l. -/
structure IdsAt (w : World) (b : Nat) (n l : Int) : Prop where
  c0 : w.cell? ⟨b, 0, none⟩ = some (.int .i64 n)
  c1 : w.cell? ⟨b, 1, none⟩ = some (.int .i64 l)
  z0 : w.frozen? ⟨b, 0, none⟩ = false

theorem IdsAt.mk_alloc (w : World) (n l : Int) : IdsAt (w.alloc (.cells #[.int .i64 n, .int .i64 l] 38)) w.heap.size n l := by
  constructor <;> simp

theorem IdsAt.lt {w : World} {b : Nat} {n l : Int} (h : IdsAt w b n l) : b < w.heap.size := by
  rcases Nat.lt_or_ge b w.heap.size with h' | h'
  · exact h'
  · have := h.c0; simp [World.cell?, Array.getElem?_eq_none h'] at this

theorem IdsAt.set {w : World} {b : Nat} {n l : Int} (h : IdsAt w b n l) (m : Int) : IdsAt (w.setCell ⟨b, 0, none⟩ (.int .i64 m)) b m l := by
  refine ⟨World.cell?_setCell_same w _ _ h.c0, ?_, ?_⟩
  · rw [World.cell?_setCell_other]; exact h.c1; simp
  · have := h.z0; simpa using this

theorem new_any (n : Int) (w : World) :
    Calls Try.prog 14 #[.int .i64 n] w fun e w' => ∃ b, e = .returned (.pointer (some ⟨b, 0, none⟩)) ∧ w.heap.size ≤ b ∧ IdsAt w' b 0 (max n 0) ∧ Below w.heap.size w w' := by
  by_cases h : n < 0
  · go_enter Try.func14, Try.ntmps14
    go_wp2
    go_ret
    refine ⟨_, rfl, Nat.le_refl _, ?_, (Below.refl _ _).alloc (Nat.le_refl _) _⟩
    rw [show max n 0 = 0 by omega]; exact IdsAt.mk_alloc w 0 0
  · have h : 0 ≤ n := by omega
    go_enter Try.func14, Try.ntmps14
    go_wp2
    go_ret
    refine ⟨_, rfl, Nat.le_refl _, ?_, (Below.refl _ _).alloc (Nat.le_refl _) _⟩
    rw [show max n 0 = n by omega]; exact IdsAt.mk_alloc w 0 n

/-- Only block b has turned. -/
structure But (b : Nat) (w w' : World) : Prop where
  os : w'.os = w.os
  tape : w'.tape = w.tape
  output : w'.output = w.output
  size : w.heap.size ≤ w'.heap.size
  block : ∀ k, k < w.heap.size → k ≠ b → w'.heap[k]? = w.heap[k]?

theorem But.refl (b : Nat) (w : World) : But b w w := ⟨rfl, rfl, rfl, Nat.le_refl _, fun _ _ _ => rfl⟩
theorem But.set (w : World) (a : Addr) (v : Value) : But a.block w (w.setCell a v) :=
  ⟨rfl, rfl, rfl, by simp [World.setCell], fun k _ hk => Below.heap_setCell _ _ _ _ hk⟩
theorem But.below {B b : Nat} {v w w' : World} (h : But b w w') (hb : B ≤ b) (hB : B ≤ w.heap.size) (h0 : Below B v w) : Below B v w' :=
  h0.trans ⟨h.os, h.tape, h.output, h.size, fun k hk => h.block k (by omega) (by omega)⟩

theorem next_any (b : Nat) (n l : Int) (w : World) (H : IdsAt w b n l) (b0 : 0 ≤ n) (b1 : l ≤ 9223372036854775807) :
    Calls Try.prog 15 #[.pointer (some ⟨b, 0, none⟩)] w fun e w' => e = .returned (.int .i64 (if n < l then n + 1 else 0)) ∧ IdsAt w' b (if n < l then n + 1 else n) l ∧ But b w w' := by
  obtain ⟨h0, h1, z0⟩ := H
  by_cases h : n < l
  · simp only [h, if_true]
    go_enter Try.func15, Try.ntmps15
    go_wp2
    refine wp_loop_rounds 1 ?_
    rw [rounds_succ]
    go_wp2_with (first | (go_at_call 43; refine (load_any _ _ _ _ h0).mono ?_; rintro e w' ⟨rfl, rfl⟩) | (go_at_call 44; refine (cas_any _ _ _ _ _ h0 z0).mono ?_; rintro e w' ⟨rfl, rfl⟩))
    go_ret
    exact ⟨rfl, IdsAt.set ⟨h0, h1, z0⟩ _, But.set _ ⟨b, 0, none⟩ _⟩
  · have h : l ≤ n := by omega
    simp only [show ¬ n < l by omega, if_false]
    go_enter Try.func15, Try.ntmps15
    go_wp2
    refine wp_loop_rounds 1 ?_
    rw [rounds_succ]
    go_wp2_with (go_at_call 43; refine (load_any _ _ _ _ h0).mono ?_; rintro e w' ⟨rfl, rfl⟩)
    go_ret
    exact ⟨rfl, ⟨h0, h1, z0⟩, But.refl _ _⟩

theorem last_any (b : Nat) (n l : Int) (w : World) (H : IdsAt w b n l) :
    Calls Try.prog 16 #[.pointer (some ⟨b, 0, none⟩)] w fun e w' => e = .returned (.int .i64 n) ∧ w = w' := by
  obtain ⟨h0, h1, z0⟩ := H
  go_enter Try.func16, Try.ntmps16
  go_wp2_with (go_at_call 43; refine (load_any _ _ _ _ h0).mono ?_; rintro e w' ⟨rfl, rfl⟩)
  go_ret
  exact ⟨rfl, rfl⟩

theorem next_some (b : Nat) (n l : Int) (w : World) (H : IdsAt w b n l) (b0 : 0 ≤ n) (b1 : l ≤ 9223372036854775807) (h : n < l) :
    Calls Try.prog 15 #[.pointer (some ⟨b, 0, none⟩)] w fun e w' => e = .returned (.int .i64 (n + 1)) ∧ IdsAt w' b (n + 1) l ∧ But b w w' := by
  have := next_any b n l w H b0 b1; simpa only [h, if_true] using this
theorem next_full (b : Nat) (n l : Int) (w : World) (H : IdsAt w b n l) (b0 : 0 ≤ n) (b1 : l ≤ 9223372036854775807) (h : ¬ n < l) :
    Calls Try.prog 15 #[.pointer (some ⟨b, 0, none⟩)] w fun e w' => e = .returned (.int .i64 0) ∧ IdsAt w' b n l ∧ But b w w' := by
  have := next_any b n l w H b0 b1; simpa only [h, if_false] using this

theorem awake_any (w : World) : Calls Try.prog 13 #[] w fun e w' => e = .returned (.bool true) ∧ Below w.heap.size w w' := by
  go_enter Try.func13, Try.ntmps13
  go_wp2_with (go_at_call 14; refine (new_any _ _).mono ?_; rintro e w1 ⟨b, rfl, hb, hI, hB⟩)
  refine (next_some b 0 2 w1 hI (by omega) (by omega) (by omega)).mono ?_
  rintro e w2 ⟨rfl, hI2, hB2⟩
  have hB2 := hB2.below hb (hB.size) hB
  go_wp2_with fail
  refine (next_some b 1 2 w2 hI2 (by omega) (by omega) (by omega)).mono ?_
  rintro e w3 ⟨rfl, hI3, hB3⟩
  have hB3 := hB3.below hb (hB2.size) hB2
  go_wp2_with fail
  refine (next_full b 2 2 w3 hI3 (by omega) (by omega) (by omega)).mono ?_
  rintro e w4 ⟨rfl, hI4, hB4⟩
  have hB4 := hB4.below hb (hB3.size) hB3
  go_wp2_with fail
  refine (next_full b 2 2 w4 hI4 (by omega) (by omega) (by omega)).mono ?_
  rintro e w5 ⟨rfl, hI5, hB5⟩
  have hB5 := hB5.below hb (hB4.size) hB4
  go_wp2_with fail
  go_ret
  exact ⟨rfl, hB5⟩


theorem idsOnce_walk (a0 : Int) (a1 : Int) (w : World) (w0 : (Lit.int .u8 a0).wf = true) (w1 : (Lit.int .u16 a1).wf = true) :
    Calls Try.prog 3 #[.int .u8 a0, .int .u16 a1] w fun e w' => e = .returned (.bool true) ∧ Below w.heap.size w w' := by
  have b0 : 0 ≤ a0 ∧ a0 ≤ 255 := bounds_u8 w0
  have b1 : 0 ≤ a1 ∧ a1 ≤ 65535 := bounds_u16 w1
  clear w0 w1
  obtain ⟨l0, l1⟩ := b0
  obtain ⟨t0, t1⟩ := b1
  go_enter Try.func3, Try.ntmps3
  go_wp2_with (first | (go_at_call 13; refine (awake_any _).mono ?_; rintro e w1 ⟨rfl, hB⟩) | (go_at_call 14; refine (new_any _ _).mono ?_; rintro e w2 ⟨b, rfl, hb, hI, hB2⟩))
  obtain hI : IdsAt w2 b 0 a0 := by rwa [show max a0 0 = a0 by omega] at hI
  have hB3 : Below w.heap.size w w2 := hB.trans (hB2.mono hB.size)
  have hb2 : w.heap.size ≤ b := Nat.le_trans hB.size hb
  clear hB hB2 hb
  go_loopw [6, 7, 8] (fun last i n wr => ∃ k : Nat, (k : Int) ≤ a0 ∧ last = .int .i64 k ∧ i = .int .i64 k ∧ IdsAt wr b k a0 ∧ Below w.heap.size w wr) (fun _ i _ _ => 500 - (intOf i).toNat)
  case atStart => exact ⟨0, by omega, rfl, rfl, hI, hB3⟩
  case round =>
    obtain ⟨k, hk, rfl, rfl, hI, hB⟩ := hrel
    by_cases hlt : (k : Int) < a1 % 500
    · by_cases hl : (k : Int) < a0
      · go_wp2_with (go_at_call 15; refine (next_some b _ _ _ hI (by omega) (by omega) hl).mono ?_; rintro e w3 ⟨rfl, hI3, hB3⟩)
        have hB4 := hB3.below hb2 (hB.size) hB
        go_roundw
        case rel => exact ⟨k + 1, by omega, by go_num, by go_num, hI3, hB4⟩
        case measure => simp [intOf]; omega
      · have he : ((k : Int) == a0) = true := by simp; omega
        go_wp2_with (go_at_call 15; refine (next_full b _ _ _ hI (by omega) (by omega) hl).mono ?_; rintro e w3 ⟨rfl, hI3, hB3⟩)
        have hB4 := hB3.below hb2 (hB.size) hB
        refine (last_any b _ _ _ hI3).mono ?_
        rintro e w3 ⟨rfl, rfl⟩
        go_wp2_with fail
        go_ret
        exact ⟨rfl, hB4⟩
    · go_wp2_with (go_at_call 16; refine (last_any b _ _ _ hI).mono ?_; rintro e w3 ⟨rfl, rfl⟩)
      go_ret
      exact ⟨rfl, hB⟩

end Go.Proofs.Ytpmeffdcbjakoaa
