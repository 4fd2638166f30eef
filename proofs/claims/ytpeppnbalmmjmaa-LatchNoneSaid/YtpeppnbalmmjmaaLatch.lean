/- The latch: Do with nothing, Done, New. -/
import Derived.Test.YtpeppnbalmmjmaaOnce
namespace Go.Proofs.Ytpeppnbalmmjmaa
set_option linter.unusedVariables false
set_option linter.unusedSimpArgs false
open Go.RowKit

theorem But.trans_own {S S' : Nat → Prop} {u v w : World} (h : But S u v) (k : But S' v w) (hs : ∀ i, i < u.heap.size → S' i → S i) : But S u w :=
  ⟨k.os.trans h.os, k.tape.trans h.tape, k.output.trans h.output, Nat.le_trans h.size k.size, fun i hi hn => (k.block i (Nat.lt_of_lt_of_le hi h.size) (fun x => hn (hs i hi x))).trans (h.block i hi hn)⟩
def lcell (s : Bool) : Int := if s then 1 else 0
def latchC (s : Bool) : Array Value := #[.int .u32 (lcell s), .int .i32 0, .int .u32 0, .int .u32 (lcell s)]
/-- A latch, open or shut. -/
def LatchAt (w : World) (b : Nat) (s : Bool) : Prop := Blk w b 46 (latchC s)

set_option maxRecDepth 100000 in
set_option maxHeartbeats 1600000 in
theorem slow_latch (b c1 c2 : Nat) (w : World) (HB : LatchAt w b false) (H1 : Blk w c1 4 #[.bool false]) (H2 : Blk w c2 28 #[.pointer (some ⟨b, 0, none⟩)]) :
    Calls Try.prog 98 #[.pointer (some ⟨b, 0, none⟩), .func (.func 66) #[] #[.pointer (some ⟨c1, 0, none⟩), .pointer (some ⟨c2, 0, none⟩)]] w fun e w' => e = .returned (.tuple #[]) ∧
      LatchAt w' b true ∧ Blk w' c1 4 #[.bool true] ∧ But (fun k => k = b ∨ k = c1) w w' := by
  have n1 : b ≠ c1 := HB.ne_ H1 (by decide)
  have n2 : b ≠ c2 := HB.ne_ H2 (by decide)
  have n3 : c1 ≠ c2 := H1.ne_ H2 (by decide)
  have h0 := HB.cell 0
  have h1 := HB.cell 1
  have h3 := HB.cell 3
  have f := fun i => HB.frozen i
  have g0 := H1.cell 0
  have gf := H1.frozen 0
  have k0 := H2.cell 0
  simp [latchC, lcell] at h0 h1 h3 g0 k0
  have hl := run_call_load (P := Try.prog) Try.func97 (by kernel_rfl) (by kernel_rfl) (by kernel_rfl) .u32 (by kernel_rfl) (w := w.setCell ⟨b, 1, none⟩ (.int .i32 1)) (a := ⟨b, 0, none⟩) (x := 0) ((World.cell?_setCell_other _ ⟨b, 1, none⟩ ⟨b, 0, none⟩ _ (by simp)).trans h0)
  have hnot : ∀ (x : Bool) (w : World), (Op.unary .not (.bool x)).run Try.prog w = .ok (.bool (!x)) w := fun _ _ => rfl
  have e1 : (w.setCell ⟨b, 1, none⟩ (.int .i32 1)).cell? ⟨c1, 0, none⟩ = some (.bool false) := (World.cell?_setCell_other _ ⟨b, 1, none⟩ ⟨c1, 0, none⟩ _ (by simp [n1.symm])).trans g0
  have e2 : (w.setCell ⟨b, 1, none⟩ (.int .i32 1)).cell? ⟨c2, 0, none⟩ = some (.pointer (some ⟨b, 0, none⟩)) := (World.cell?_setCell_other _ ⟨b, 1, none⟩ ⟨c2, 0, none⟩ _ (by simp [n2.symm])).trans k0
  have q3 : ((w.setCell ⟨b, 1, none⟩ (.int .i32 1)).setCell ⟨c1, 0, none⟩ (.bool true)).drew.cell? ⟨b, 3, none⟩ = some (.int .u32 0) := by
    rw [World.cell?_drew, World.cell?_setCell_other _ ⟨c1, 0, none⟩ ⟨b, 3, none⟩ _ (by simp [n1]), World.cell?_setCell_other _ ⟨b, 1, none⟩ ⟨b, 3, none⟩ _ (by simp)]
    exact h3
  have qf : ((w.setCell ⟨b, 1, none⟩ (.int .i32 1)).setCell ⟨c1, 0, none⟩ (.bool true)).drew.frozen? ⟨b, 3, none⟩ = false := by simp [f 3]
  have hst := run_call_store (P := Try.prog) Try.func99 (by kernel_rfl) (by kernel_rfl) (by kernel_rfl) (by kernel_rfl) (k := .u32) (y := 1) q3 qf
  go_enter_defers Try.func98, Try.ntmps98
  go_wp2_with (go_at_call 109; refine (lock_free ⟨b, 1, none⟩ _ h1 (f 1)).mono ?_; rintro e w' ⟨rfl, rfl⟩)
  go_wp2
  go_region_calls
  all_goals
    go_end0
    go_wp2
    go_end0
    go_wp2
    have HB3 : Blk (((w.setCell ⟨b, 1, none⟩ (.int .i32 1)).setCell ⟨c1, 0, none⟩ (.bool true)).setCell ⟨b, 3, none⟩ (.int .u32 1)).drew b 46 #[.int .u32 0, .int .i32 1, .int .u32 0, .int .u32 1] :=
      (((Blk.set_ (show Blk w b 46 #[.int .u32 0, .int .i32 0, .int .u32 0, .int .u32 0] from HB) 1 (.int .i32 1)).far (p := ⟨c1, 0, none⟩) n1 (.bool true)).set_ 3 (.int .u32 1)).drew
    have HC3 : Blk (((w.setCell ⟨b, 1, none⟩ (.int .i32 1)).setCell ⟨c1, 0, none⟩ (.bool true)).setCell ⟨b, 3, none⟩ (.int .u32 1)).drew c1 4 #[.bool true] :=
      (((H1.far (p := ⟨b, 1, none⟩) n1.symm (.int .i32 1)).set_ 0 (.bool true)).far (p := ⟨b, 3, none⟩) n1.symm (.int .u32 1)).drew
    have HU3 : But (fun k => k = b ∨ k = c1) w (((w.setCell ⟨b, 1, none⟩ (.int .i32 1)).setCell ⟨c1, 0, none⟩ (.bool true)).setCell ⟨b, 3, none⟩ (.int .u32 1)).drew :=
      (((((But.refl _ w).step ⟨b, 1, none⟩ (.int .i32 1) (.inl rfl)).step ⟨c1, 0, none⟩ (.bool true) (.inr rfl)).step ⟨b, 3, none⟩ (.int .u32 1) (.inl rfl))).drew
    generalize (((w.setCell ⟨b, 1, none⟩ (.int .i32 1)).setCell ⟨c1, 0, none⟩ (.bool true)).setCell ⟨b, 3, none⟩ (.int .u32 1)).drew = W at *
    refine leaves_cons (f := 67) (args := #[.pointer (some ⟨b, 0, none⟩), .bool true]) (by simp) (by simp [go_sem]) ?_
    refine (store_deferred ⟨b, 0, none⟩ (.int .u32 0) .returning _ (HB3.cell 0) (HB3.frozen 0)).mono ?_
    rintro e u' w'' ⟨rfl, rfl, rfl⟩
    have HB4 := HB3.drew.set_ 0 (.int .u32 1)
    refine leaves_cons (f := 110) (args := #[.pointer (some ⟨b, 1, none⟩)]) (by simp [settle]) (by simp [go_sem]) ?_
    refine (unlock_deferred ⟨b, 1, none⟩ _ _ (HB4.cell 1) (HB4.frozen 1)).mono ?_
    rintro e u' w'' ⟨rfl, rfl, rfl⟩
    have HB5 := HB4.set_ 1 (.int .i32 0)
    have HC5 := (HC3.drew.far (p := ⟨b, 0, none⟩) n1.symm (.int .u32 1)).far (p := ⟨b, 1, none⟩) n1.symm (.int .i32 0)
    have HU5 := (HU3.drew.step ⟨b, 0, none⟩ (.int .u32 1) (.inl rfl)).step ⟨b, 1, none⟩ (.int .i32 0) (.inl rfl)
    simp [Leaves, settle, results, Try.results98]
    exact ⟨HB5, HC5, HU5⟩

set_option maxRecDepth 100000 in
theorem once_first (b c1 c2 : Nat) (w : World) (HB : LatchAt w b false) (H1 : Blk w c1 4 #[.bool false]) (H2 : Blk w c2 28 #[.pointer (some ⟨b, 0, none⟩)]) :
    Calls Try.prog 65 #[.pointer (some ⟨b, 0, none⟩), .func (.func 66) #[] #[.pointer (some ⟨c1, 0, none⟩), .pointer (some ⟨c2, 0, none⟩)]] w fun e w' => e = .returned (.tuple #[]) ∧
      LatchAt w' b true ∧ Blk w' c1 4 #[.bool true] ∧ But (fun k => k = b ∨ k = c1) w w' := by
  have HS := Lib.hid (slow_latch b c1 c2 w HB H1 H2)
  have h0 : w.cell? ⟨b, 0, none⟩ = some (.int .u32 0) := HB.cell 0
  have hnot : ∀ (x : Bool) (w : World), (Op.unary .not (.bool x)).run Try.prog w = .ok (.bool (!x)) w := fun _ _ => rfl
  go_enter Try.func65, Try.ntmps65
  go_wp2_with (first | (go_at_call 64; refine (load_called ⟨b, 0, none⟩ 0 false rfl w h0).mono ?_; rintro e w1 ⟨rfl, hw1⟩; rw [hw1]) | (go_at_call 98; refine HS.out.mono ?_; rintro e w2 ⟨rfl, hB, hC, hU⟩))
  go_end0
  exact ⟨rfl, hB, hC, hU⟩

theorem new_latch (w : World) : Calls Try.prog 17 #[] w fun e w' => e = .returned (.pointer (some ⟨w.heap.size, 0, none⟩)) ∧ w' = w.alloc (.cells (latchC false) 46) := by
  go_enter Try.func17, Try.ntmps17
  go_wp2
  go_ret
  exact ⟨rfl, rfl⟩
theorem done_calls (b : Nat) (s : Bool) (w : World) (HB : LatchAt w b s) : Calls Try.prog 20 #[.pointer (some ⟨b, 0, none⟩)] w fun e w' => e = .returned (.bool s) ∧ w' = w := by
  have HL := Lib.hid (load_called ⟨b, 3, none⟩ (lcell s) s (by cases s <;> rfl) w (HB.cell 3))
  clear HB
  go_enter Try.func20, Try.ntmps20
  go_wp2_with (go_at_call 64; refine HL.out.mono ?_; rintro e w1 ⟨rfl, hw1⟩; rw [hw1])
  go_ret
  exact ⟨rfl, rfl⟩
theorem done_none (w : World) : Calls Try.prog 20 #[.pointer none] w fun e w' => e = .returned (.bool false) ∧ w' = w := by
  go_enter Try.func20, Try.ntmps20
  go_wp2
  go_ret
  exact ⟨rfl, rfl⟩

/-- Do of a latch that is shut: whatever is handed on is not called. -/
theorem do_shut (b : Nat) (fv : Value) (w : World) (HB : LatchAt w b true) : Calls Try.prog 18 #[.pointer (some ⟨b, 0, none⟩), fv] w fun e w' => e = .returned (.bool false) ∧ Below w.heap.size w w' := by
  have HL := Lib.hid (fun o => load_called ⟨b, 3, none⟩ 1 true rfl (w.alloc o) ((HB.alloc o).cell 3))
  have hbs := HB.lt
  clear HB
  go_enter Try.func18, Try.ntmps18
  go_wp2_with (go_at_call 64; refine (HL.out _).mono ?_; rintro e w1 ⟨rfl, hw1⟩; rw [hw1])
  go_ret
  exact ⟨rfl, (Below.refl _ w).alloc (Nat.le_refl _) _⟩
theorem neq_nil_nil (w : World) : (binOp .neq 1 .nilFunc .nilFunc).run Try.prog w = .ok (.bool false) w := by kernel_rfl
theorem neq_fn_nil (f : Fn) (a b : Array Value) (w : World) : (binOp .neq 1 (.func f a b) .nilFunc).run Try.prog w = .ok (.bool true) w := by kernel_rfl
theorem do_none (fv : Value) (w : World) : Calls Try.prog 18 #[.pointer none, fv] w fun e w' => e = .returned (.bool false) ∧ Below w.heap.size w w' := by
  go_enter Try.func18, Try.ntmps18
  go_wp2
  go_ret
  exact ⟨rfl, (Below.refl _ w).alloc (Nat.le_refl _) _⟩

set_option maxRecDepth 100000 in
theorem do_nil (b : Nat) (w : World) (HB : LatchAt w b false) : Calls Try.prog 18 #[.pointer (some ⟨b, 0, none⟩), .nilFunc] w fun e w' => e = .returned (.bool true) ∧ LatchAt w' b true ∧ But (fun k => k = b) w w' := by
  have hbs := HB.lt
  have HL := Lib.hid (fun o => load_called ⟨b, 3, none⟩ 0 false rfl (w.alloc o) ((HB.alloc o).cell 3))
  have HW : LatchAt ((w.alloc (.cells #[.pointer (some ⟨b, 0, none⟩)] 28)).alloc (.cells #[.bool false] 4)) b false := (HB.alloc _).alloc _
  have HW1 := Blk.new (w.alloc (.cells #[.pointer (some ⟨b, 0, none⟩)] 28)) 4 #[.bool false]
  have HW2 := (Blk.new w 28 #[.pointer (some ⟨b, 0, none⟩)]).alloc (.cells #[.bool false] 4)
  rw [World.size_alloc] at HW1
  have HO := Lib.hid (once_first b (w.heap.size + 1) w.heap.size _ HW HW1 HW2)
  have HU0 : But (fun k => k = b) w ((w.alloc (.cells #[.pointer (some ⟨b, 0, none⟩)] 28)).alloc (.cells #[.bool false] 4)) := ((But.refl _ w).new _).new _
  have HU := Lib.hid HU0
  have hnn := neq_nil_nil
  clear HB HW HW1 HW2 HU0
  go_enter Try.func18, Try.ntmps18
  go_wp2_with (first | (go_at_call 64; refine (HL.out _).mono ?_; rintro e w1 ⟨rfl, hw1⟩; rw [hw1]) | (go_at_call 65; refine HO.out.mono ?_; rintro e w2 ⟨rfl, hB, hC, hU⟩; have hc0 := hC.cell 0; simp at hc0))
  go_ret
  exact ⟨rfl, hB, HU.out.trans_own hU fun k hk h => by rcases h with h | h <;> omega⟩

theorem awake03 (w : World) : Calls Try.prog 16 #[] w fun e w' => e = .returned (.bool true) ∧ Below w.heap.size w w' := by
  go_enter Try.func16, Try.ntmps16
  go_wp2_with fail
  go_at_call 17
  refine (new_latch w).mono ?_
  rintro e w1 ⟨rfl, hw1⟩
  have hB0 : LatchAt w1 w.heap.size false := by rw [hw1]; exact Blk.new _ _ _
  have hb0 : Below w.heap.size w w1 := by rw [hw1]; exact (Below.refl _ w).alloc (Nat.le_refl _) _
  have HB0 := Lib.hid hb0
  clear hw1 hb0
  go_wp2_with fail
  go_at_call 18
  refine (do_nil w.heap.size w1 hB0).mono ?_
  rintro e w2 ⟨rfl, hB2, hU⟩
  go_wp2_with fail
  go_at_call 18
  refine (do_shut w.heap.size _ w2 hB2).mono ?_
  rintro e w3 ⟨rfl, hb3⟩
  go_wp2
  go_ret
  have h2 : Below w.heap.size w w2 := hU.below (B := w.heap.size) (fun k hk => by omega) HB0.out.size HB0.out
  exact ⟨rfl, h2.trans (hb3.mono h2.size)⟩

/-- The calls of LatchNone: what they do to the counter. -/
theorem count1 (c : Nat) (n : Int) (hn : 0 ≤ n ∧ n ≤ 1000) (w : World) (H : Blk w c 3 #[.int .i64 n]) :
    Calls Try.prog 24 #[.pointer (some ⟨c, 0, none⟩)] w fun e w' => e = .returned (.tuple #[]) ∧ w' = w.setCell ⟨c, 0, none⟩ (.int .i64 (n + 1)) := by
  have h0 := H.cell 0
  have f0 := H.frozen 0
  simp at h0
  go_enter Try.func24, Try.ntmps24
  go_wp2
  go_end0
  exact ⟨rfl, rfl⟩
end Go.Proofs.Ytpeppnbalmmjmaa
