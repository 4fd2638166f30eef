/- Do of an open latch with something that is called. -/
import Derived.Test.YtpeppnbalmmjmaaLatch
namespace Go.Proofs.Ytpeppnbalmmjmaa
set_option linter.unusedVariables false
set_option linter.unusedSimpArgs false
open Go.RowKit

set_option maxRecDepth 100000 in
theorem do_openPlays (b : Nat) (caps : Array Value) (w : World) (HB : LatchAt w b false) (S : Nat → Prop) (hS : ∀ i, S i → i < w.heap.size) (Q : World → Prop)
    (hf : ∀ w1, LatchAt w1 b true → But (fun k => k = b) w w1 → Calls Try.prog 19 caps w1 fun e w2 => e = .returned (.tuple #[]) ∧ Q w2 ∧ But S w1 w2) :
    Calls Try.prog 18 #[.pointer (some ⟨b, 0, none⟩), .func (.func 19) #[] caps] w fun e w' => e = .returned (.bool true) ∧ Q w' ∧ ∃ w1, LatchAt w1 b true ∧ But (fun k => k = b) w w1 ∧ But S w1 w' := by
  have hbs := HB.lt
  have HL := Lib.hid (fun o => load_called ⟨b, 3, none⟩ 0 false rfl (w.alloc o) ((HB.alloc o).cell 3))
  have HW : LatchAt ((w.alloc (.cells #[.pointer (some ⟨b, 0, none⟩)] 28)).alloc (.cells #[.bool false] 4)) b false := (HB.alloc _).alloc _
  have HW1 := Blk.new (w.alloc (.cells #[.pointer (some ⟨b, 0, none⟩)] 28)) 4 #[.bool false]
  have HW2 := (Blk.new w 28 #[.pointer (some ⟨b, 0, none⟩)]).alloc (.cells #[.bool false] 4)
  rw [World.size_alloc] at HW1
  have HO := Lib.hid (once_first b (w.heap.size + 1) w.heap.size _ HW HW1 HW2)
  have HU0 : But (fun k => k = b) w ((w.alloc (.cells #[.pointer (some ⟨b, 0, none⟩)] 28)).alloc (.cells #[.bool false] 4)) := ((But.refl _ w).new _).new _
  have HU := Lib.hid HU0
  have hnn := neq_fn_nil
  have HF := Lib.hid hf
  clear HB HW HW1 HW2 HU0 hf
  go_enter Try.func18, Try.ntmps18
  go_wp2_with (first
    | (go_at_call 64; refine (HL.out _).mono ?_; rintro e w1 ⟨rfl, hw1⟩; rw [hw1])
    | (go_at_call 65; refine HO.out.mono ?_; rintro e w2 ⟨rfl, hB, hC, hU⟩; have hc0 := hC.cell 0; simp at hc0)
    | (go_at_call 19; have HB2 := HU.out.trans_own hU (S := fun k => k = b) (fun k hk h => by rcases h with h | h <;> omega); refine (HF.out w2 hB HB2).mono ?_; rintro e w3 ⟨rfl, hQ, hS3⟩; have hc1 := (hS3.blk hC (fun h => by have := hS _ h; omega)).cell 0; simp at hc1; have hu1 := hU))
  go_ret
  exact ⟨rfl, hQ, w2, hB, HB2, hS3⟩

set_option maxRecDepth 100000 in
theorem do_openNone (b : Nat) (caps : Array Value) (w : World) (HB : LatchAt w b false) (S : Nat → Prop) (hS : ∀ i, S i → i < w.heap.size) (Q : World → Prop)
    (hf : ∀ w1, LatchAt w1 b true → But (fun k => k = b) w w1 → Calls Try.prog 24 caps w1 fun e w2 => e = .returned (.tuple #[]) ∧ Q w2 ∧ But S w1 w2) :
    Calls Try.prog 18 #[.pointer (some ⟨b, 0, none⟩), .func (.func 24) #[] caps] w fun e w' => e = .returned (.bool true) ∧ Q w' ∧ ∃ w1, LatchAt w1 b true ∧ But (fun k => k = b) w w1 ∧ But S w1 w' := by
  have hbs := HB.lt
  have HL := Lib.hid (fun o => load_called ⟨b, 3, none⟩ 0 false rfl (w.alloc o) ((HB.alloc o).cell 3))
  have HW : LatchAt ((w.alloc (.cells #[.pointer (some ⟨b, 0, none⟩)] 28)).alloc (.cells #[.bool false] 4)) b false := (HB.alloc _).alloc _
  have HW1 := Blk.new (w.alloc (.cells #[.pointer (some ⟨b, 0, none⟩)] 28)) 4 #[.bool false]
  have HW2 := (Blk.new w 28 #[.pointer (some ⟨b, 0, none⟩)]).alloc (.cells #[.bool false] 4)
  rw [World.size_alloc] at HW1
  have HO := Lib.hid (once_first b (w.heap.size + 1) w.heap.size _ HW HW1 HW2)
  have HU0 : But (fun k => k = b) w ((w.alloc (.cells #[.pointer (some ⟨b, 0, none⟩)] 28)).alloc (.cells #[.bool false] 4)) := ((But.refl _ w).new _).new _
  have HU := Lib.hid HU0
  have hnn := neq_fn_nil
  have HF := Lib.hid hf
  clear HB HW HW1 HW2 HU0 hf
  go_enter Try.func18, Try.ntmps18
  go_wp2_with (first
    | (go_at_call 64; refine (HL.out _).mono ?_; rintro e w1 ⟨rfl, hw1⟩; rw [hw1])
    | (go_at_call 65; refine HO.out.mono ?_; rintro e w2 ⟨rfl, hB, hC, hU⟩; have hc0 := hC.cell 0; simp at hc0)
    | (go_at_call 24; have HB2 := HU.out.trans_own hU (S := fun k => k = b) (fun k hk h => by rcases h with h | h <;> omega); refine (HF.out w2 hB HB2).mono ?_; rintro e w3 ⟨rfl, hQ, hS3⟩; have hc1 := (hS3.blk hC (fun h => by have := hS _ h; omega)).cell 0; simp at hc1; have hu1 := hU))
  go_ret
  exact ⟨rfl, hQ, w2, hB, HB2, hS3⟩

set_option maxRecDepth 100000 in
theorem do_openGive (b : Nat) (caps : Array Value) (w : World) (HB : LatchAt w b false) (S : Nat → Prop) (hS : ∀ i, S i → i < w.heap.size) (Q : World → Prop)
    (hf : ∀ w1, LatchAt w1 b true → But (fun k => k = b) w w1 → Calls Try.prog 80 caps w1 fun e w2 => e = .returned (.tuple #[]) ∧ Q w2 ∧ But S w1 w2) :
    Calls Try.prog 18 #[.pointer (some ⟨b, 0, none⟩), .func (.func 80) #[] caps] w fun e w' => e = .returned (.bool true) ∧ Q w' ∧ ∃ w1, LatchAt w1 b true ∧ But (fun k => k = b) w w1 ∧ But S w1 w' := by
  have hbs := HB.lt
  have HL := Lib.hid (fun o => load_called ⟨b, 3, none⟩ 0 false rfl (w.alloc o) ((HB.alloc o).cell 3))
  have HW : LatchAt ((w.alloc (.cells #[.pointer (some ⟨b, 0, none⟩)] 28)).alloc (.cells #[.bool false] 4)) b false := (HB.alloc _).alloc _
  have HW1 := Blk.new (w.alloc (.cells #[.pointer (some ⟨b, 0, none⟩)] 28)) 4 #[.bool false]
  have HW2 := (Blk.new w 28 #[.pointer (some ⟨b, 0, none⟩)]).alloc (.cells #[.bool false] 4)
  rw [World.size_alloc] at HW1
  have HO := Lib.hid (once_first b (w.heap.size + 1) w.heap.size _ HW HW1 HW2)
  have HU0 : But (fun k => k = b) w ((w.alloc (.cells #[.pointer (some ⟨b, 0, none⟩)] 28)).alloc (.cells #[.bool false] 4)) := ((But.refl _ w).new _).new _
  have HU := Lib.hid HU0
  have hnn := neq_fn_nil
  have HF := Lib.hid hf
  clear HB HW HW1 HW2 HU0 hf
  go_enter Try.func18, Try.ntmps18
  go_wp2_with (first
    | (go_at_call 64; refine (HL.out _).mono ?_; rintro e w1 ⟨rfl, hw1⟩; rw [hw1])
    | (go_at_call 65; refine HO.out.mono ?_; rintro e w2 ⟨rfl, hB, hC, hU⟩; have hc0 := hC.cell 0; simp at hc0)
    | (go_at_call 80; have HB2 := HU.out.trans_own hU (S := fun k => k = b) (fun k hk h => by rcases h with h | h <;> omega); refine (HF.out w2 hB HB2).mono ?_; rintro e w3 ⟨rfl, hQ, hS3⟩; have hc1 := (hS3.blk hC (fun h => by have := hS _ h; omega)).cell 0; simp at hc1; have hu1 := hU))
  go_ret
  exact ⟨rfl, hQ, w2, hB, HB2, hS3⟩

end Go.Proofs.Ytpeppnbalmmjmaa
