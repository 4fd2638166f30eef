/- Events (package event): contracts of the calls on an event that lies in a block of its own, and on none. -/
import Derived.Test.YtpmeffdcbjakoaaMem
import Derived.Test.YtpmeffdcbjakoaaRows
import Derived.WalkKit
import Derived.ProofKit
import Derived.WalkSpells
import Derived.Outline
import Derived.BigQuiet
import Derived.Deep.QuietTactic

namespace Go.Proofs.Ytpmeffdcbjakoaa
set_option linter.unusedVariables false
set_option linter.unusedSimpArgs false
open Go.RowKit

/-- Flags, as data. -/
structure Fl where
  bubbles : Bool
  cancelable : Bool
  composed : Bool
  canceled : Bool
  stop : Bool
  stopNow : Bool
  passive : Bool
  dispatch : Bool
  deriving DecidableEq

def Fl.cells (f : Fl) : Array Value := #[.bool f.bubbles, .bool f.cancelable, .bool f.composed, .bool f.canceled, .bool f.stop, .bool f.stopNow, .bool f.passive, .bool f.dispatch]

def Fl.same (f g : Fl) : Bool := (f.bubbles == g.bubbles) && ((f.cancelable == g.cancelable) && ((f.composed == g.composed) && ((f.canceled == g.canceled) && ((f.stop == g.stop) && ((f.stopNow == g.stopNow) && ((f.passive == g.passive) && ((f.dispatch == g.dispatch) && true)))))))
theorem Fl.same_iff (f g : Fl) : f.same g = decide (f = g) := by
  cases f; cases g; rw [Bool.eq_iff_iff]; simp [Fl.same]

theorem flags_eqIn (f g : Fl) (w : World) (d : Nat) : (Op.equalIn (d + 1 + 1) 65 (.agg f.cells) (.agg g.cells)).run Try.prog w = .ok (f.same g) w := by
  rw [run_equalIn_struct w (d + 1) 65 _ _ (by kernel_rfl) (by kernel_rfl)]
  unfold Program.fieldsOf
  rw [Try.underlying65]
  exact eqf_cons (by decide) (by kernel_rfl) (by kernel_rfl) (run_equalIn_bool w d 4 _ _ Try.underlying4) (eqf_cons (by decide) (by kernel_rfl) (by kernel_rfl) (run_equalIn_bool w d 4 _ _ Try.underlying4)
    (eqf_cons (by decide) (by kernel_rfl) (by kernel_rfl) (run_equalIn_bool w d 4 _ _ Try.underlying4) (eqf_cons (by decide) (by kernel_rfl) (by kernel_rfl) (run_equalIn_bool w d 4 _ _ Try.underlying4)
    (eqf_cons (by decide) (by kernel_rfl) (by kernel_rfl) (run_equalIn_bool w d 4 _ _ Try.underlying4) (eqf_cons (by decide) (by kernel_rfl) (by kernel_rfl) (run_equalIn_bool w d 4 _ _ Try.underlying4)
    (eqf_cons (by decide) (by kernel_rfl) (by kernel_rfl) (run_equalIn_bool w d 4 _ _ Try.underlying4) (eqf_cons (by decide) (by kernel_rfl) (by kernel_rfl) (run_equalIn_bool w d 4 _ _ Try.underlying4) eqf_nil)))))))

theorem flags_neq (f g : Fl) (w : World) : (binOp .neq 65 (.agg #[.bool f.bubbles, .bool f.cancelable, .bool f.composed, .bool f.canceled, .bool f.stop, .bool f.stopNow, .bool f.passive, .bool f.dispatch]) (.agg #[.bool g.bubbles, .bool g.cancelable, .bool g.composed, .bool g.canceled, .bool g.stop, .bool g.stopNow, .bool g.passive, .bool g.dispatch])).run Try.prog w = .ok (.bool (decide (f ≠ g))) w := by
  rw [run_neq_struct]
  have := flags_eqIn f g w 9998
  simp only [Fl.cells] at this
  rw [this, Fl.same_iff]
  simp [Result.andThen]

theorem flags_eql (f g : Fl) (w : World) : (binOp .eql 65 (.agg #[.bool f.bubbles, .bool f.cancelable, .bool f.composed, .bool f.canceled, .bool f.stop, .bool f.stopNow, .bool f.passive, .bool f.dispatch]) (.agg #[.bool g.bubbles, .bool g.cancelable, .bool g.composed, .bool g.canceled, .bool g.stop, .bool g.stopNow, .bool g.passive, .bool g.dispatch])).run Try.prog w = .ok (.bool (decide (f = g))) w := by
  rw [run_eql_struct]
  have := flags_eqIn f g w 9998
  simp only [Fl.cells] at this
  rw [this, Fl.same_iff]
  simp [Result.andThen]

/-- An event, as data: its path is a value. -/
structure Ev where
  typ : ByteArray
  target : Int
  related : Int
  current : Int
  phase : Int
  path : Value
  fl : Fl

def Ev.cells (x : Ev) : Array Value := #[.string x.typ, .int .i64 x.target, .int .i64 x.related, .int .i64 x.current, .int .i64 x.phase, x.path, .bool x.fl.bubbles, .bool x.fl.cancelable, .bool x.fl.composed, .bool x.fl.canceled, .bool x.fl.stop, .bool x.fl.stopNow, .bool x.fl.passive, .bool x.fl.dispatch]

/-- Event x lies in block b (of type t). -/
def EvAt (w : World) (b : Nat) (t : TypeId) (x : Ev) : Prop := Blk w b t x.cells

section
variable {w : World} {b : Nat} {t : TypeId} {x : Ev}
theorem EvAt.all (h : EvAt w b t x) :
    (w.cell? ⟨b, 0, none⟩ = some (.string x.typ) ∧ w.cell? ⟨b, 1, none⟩ = some (.int .i64 x.target) ∧ w.cell? ⟨b, 2, none⟩ = some (.int .i64 x.related) ∧ w.cell? ⟨b, 3, none⟩ = some (.int .i64 x.current) ∧ w.cell? ⟨b, 4, none⟩ = some (.int .i64 x.phase) ∧ w.cell? ⟨b, 5, none⟩ = some x.path) ∧
    (w.cell? ⟨b, 6, none⟩ = some (.bool x.fl.bubbles) ∧ w.cell? ⟨b, 7, none⟩ = some (.bool x.fl.cancelable) ∧ w.cell? ⟨b, 8, none⟩ = some (.bool x.fl.composed) ∧ w.cell? ⟨b, 9, none⟩ = some (.bool x.fl.canceled) ∧ w.cell? ⟨b, 10, none⟩ = some (.bool x.fl.stop) ∧ w.cell? ⟨b, 11, none⟩ = some (.bool x.fl.stopNow) ∧ w.cell? ⟨b, 12, none⟩ = some (.bool x.fl.passive) ∧ w.cell? ⟨b, 13, none⟩ = some (.bool x.fl.dispatch)) ∧
    (w.frozen? ⟨b, 3, none⟩ = false ∧ w.frozen? ⟨b, 4, none⟩ = false ∧ w.frozen? ⟨b, 5, none⟩ = false ∧ w.frozen? ⟨b, 9, none⟩ = false ∧ w.frozen? ⟨b, 10, none⟩ = false ∧ w.frozen? ⟨b, 11, none⟩ = false ∧ w.frozen? ⟨b, 12, none⟩ = false ∧ w.frozen? ⟨b, 13, none⟩ = false) :=
  ⟨⟨(Blk.cell h 0), (Blk.cell h 1), (Blk.cell h 2), (Blk.cell h 3), (Blk.cell h 4), (Blk.cell h 5)⟩, ⟨(Blk.cell h 6), (Blk.cell h 7), (Blk.cell h 8), (Blk.cell h 9), (Blk.cell h 10), (Blk.cell h 11), (Blk.cell h 12), (Blk.cell h 13)⟩,
    ⟨Blk.frozen h 3, Blk.frozen h 4, Blk.frozen h 5, Blk.frozen h 9, Blk.frozen h 10, Blk.frozen h 11, Blk.frozen h 12, Blk.frozen h 13⟩⟩
end

section
variable {w : World} {b : Nat} {t : TypeId} {x : Ev}
theorem EvAt.set1 (h : EvAt w b t x) (v : Int) : EvAt (w.setCell ⟨b, 1, none⟩ (.int .i64 v)) b t { x with target := v } := Blk.set_ h 1 _
theorem EvAt.set2 (h : EvAt w b t x) (v : Int) : EvAt (w.setCell ⟨b, 2, none⟩ (.int .i64 v)) b t { x with related := v } := Blk.set_ h 2 _
theorem EvAt.set3 (h : EvAt w b t x) (v : Int) : EvAt (w.setCell ⟨b, 3, none⟩ (.int .i64 v)) b t { x with current := v } := Blk.set_ h 3 _
theorem EvAt.set4 (h : EvAt w b t x) (v : Int) : EvAt (w.setCell ⟨b, 4, none⟩ (.int .i64 v)) b t { x with phase := v } := Blk.set_ h 4 _
theorem EvAt.set5 (h : EvAt w b t x) (v : Value) : EvAt (w.setCell ⟨b, 5, none⟩ v) b t { x with path := v } := Blk.set_ h 5 _
theorem EvAt.set9 (h : EvAt w b t x) (v : Bool) : EvAt (w.setCell ⟨b, 9, none⟩ (.bool v)) b t { x with fl := { x.fl with canceled := v } } := Blk.set_ h 9 _
theorem EvAt.set10 (h : EvAt w b t x) (v : Bool) : EvAt (w.setCell ⟨b, 10, none⟩ (.bool v)) b t { x with fl := { x.fl with stop := v } } := Blk.set_ h 10 _
theorem EvAt.set11 (h : EvAt w b t x) (v : Bool) : EvAt (w.setCell ⟨b, 11, none⟩ (.bool v)) b t { x with fl := { x.fl with stopNow := v } } := Blk.set_ h 11 _
theorem EvAt.set12 (h : EvAt w b t x) (v : Bool) : EvAt (w.setCell ⟨b, 12, none⟩ (.bool v)) b t { x with fl := { x.fl with passive := v } } := Blk.set_ h 12 _
theorem EvAt.set13 (h : EvAt w b t x) (v : Bool) : EvAt (w.setCell ⟨b, 13, none⟩ (.bool v)) b t { x with fl := { x.fl with dispatch := v } } := Blk.set_ h 13 _
end

/-- What a closure that sets flags promises: it turns the flags of the event by g. -/
def Sets (k : Nat) (g : Fl → Fl) : Prop := ∀ (b : Nat) (x : Ev) (w : World), EvAt w b 68 x →
  Calls Try.prog k #[.pointer (some ⟨b, 6, none⟩)] w fun e w' => e = .returned (.tuple #[]) ∧ EvAt w' b 68 { x with fl := g x.fl } ∧ But (· = b) w w'

def g_prevent (f : Fl) : Fl := { f with canceled := true }
def g_stop (f : Fl) : Fl := { f with stop := true }
def g_stopNow (f : Fl) : Fl := { f with stop := true, stopNow := true }
def g_begin (f : Fl) : Fl := { f with dispatch := true }
def g_end (f : Fl) : Fl := { f with dispatch := false, stop := false, stopNow := false, passive := false }

theorem sets_prevent : Sets 51 g_prevent := by
  intro b x w h
  obtain ⟨⟨c0, c1, c2, c3, c4, c5⟩, ⟨c6, c7, c8, c9, c10, c11, c12, c13⟩, ⟨z3, z4, z5, z9, z10, z11, z12, z13⟩⟩ := h.all
  go_enter Try.func51, Try.ntmps51
  go_wp2
  go_end0
  exact ⟨rfl, h.set9 _, But.set _ _ _ rfl⟩

theorem sets_stop : Sets 52 g_stop := by
  intro b x w h
  obtain ⟨⟨c0, c1, c2, c3, c4, c5⟩, ⟨c6, c7, c8, c9, c10, c11, c12, c13⟩, ⟨z3, z4, z5, z9, z10, z11, z12, z13⟩⟩ := h.all
  go_enter Try.func52, Try.ntmps52
  go_wp2
  go_end0
  exact ⟨rfl, h.set10 _, But.set _ _ _ rfl⟩

theorem sets_stopNow : Sets 53 g_stopNow := by
  intro b x w h
  obtain ⟨⟨c0, c1, c2, c3, c4, c5⟩, ⟨c6, c7, c8, c9, c10, c11, c12, c13⟩, ⟨z3, z4, z5, z9, z10, z11, z12, z13⟩⟩ := h.all
  go_enter Try.func53, Try.ntmps53
  go_wp2
  go_end0
  exact ⟨rfl, (h.set10 _).set11 _, ((But.refl (· = b) w).step ⟨b, 10, none⟩ _ rfl).step ⟨b, 11, none⟩ _ rfl⟩

theorem sets_begin : Sets 54 g_begin := by
  intro b x w h
  obtain ⟨⟨c0, c1, c2, c3, c4, c5⟩, ⟨c6, c7, c8, c9, c10, c11, c12, c13⟩, ⟨z3, z4, z5, z9, z10, z11, z12, z13⟩⟩ := h.all
  go_enter Try.func54, Try.ntmps54
  go_wp2
  go_end0
  exact ⟨rfl, h.set13 _, But.set _ _ _ rfl⟩

theorem sets_end : Sets 55 g_end := by
  intro b x w h
  obtain ⟨⟨c0, c1, c2, c3, c4, c5⟩, ⟨c6, c7, c8, c9, c10, c11, c12, c13⟩, ⟨z3, z4, z5, z9, z10, z11, z12, z13⟩⟩ := h.all
  go_enter Try.func55, Try.ntmps55
  go_wp2
  go_end0
  exact ⟨rfl, (((h.set13 _).set10 _).set11 _).set12 _, ((((But.refl (· = b) w).step ⟨b, 13, none⟩ _ rfl).step ⟨b, 10, none⟩ _ rfl).step ⟨b, 11, none⟩ _ rfl).step ⟨b, 12, none⟩ _ rfl⟩


theorem set_prevent (b : Nat) (x : Ev) (w : World) (h : EvAt w b 68 x) :
    Calls Try.prog 50 #[.pointer (some ⟨b, 0, none⟩), .func (.func 51) #[] #[]] w fun e w' => e = .returned (.bool (decide (g_prevent x.fl ≠ x.fl))) ∧ EvAt w' b 68 { x with fl := g_prevent x.fl } ∧ But (· = b) w w' := by
  have hlt := Blk.lt h
  have h1 : EvAt (w.alloc (.cells x.fl.cells 65)) b 68 x := Blk.alloc h _
  have hn := Blk.new w 65 x.fl.cells
  obtain ⟨⟨c0, c1, c2, c3, c4, c5⟩, ⟨c6, c7, c8, c9, c10, c11, c12, c13⟩, ⟨z3, z4, z5, z9, z10, z11, z12, z13⟩⟩ := h.all
  go_enter Try.func50, Try.ntmps50
  go_wp2_with (go_at_call 51; refine (sets_prevent b x _ h1).mono ?_; rintro e w1 ⟨rfl, h2, hb⟩)
  have hB : But (· = b) w w1 := (But.alloc _ w _).trans hb
  replace hn := hb.blk hn (by omega)
  clear c0 c1 c2 c3 c4 c5 c6 c7 c8 c9 c10 c11 c12 c13 z3 z4 z5 z9 z10 z11 z12 z13 h h1 hb
  obtain ⟨⟨c0, c1, c2, c3, c4, c5⟩, ⟨c6, c7, c8, c9, c10, c11, c12, c13⟩, _⟩ := h2.all
  have n0 := hn.cell 0; have n1 := hn.cell 1; have n2 := hn.cell 2; have n3 := hn.cell 3; have n4 := hn.cell 4; have n5 := hn.cell 5; have n6 := hn.cell 6; have n7 := hn.cell 7
  simp [Fl.cells] at n0 n1 n2 n3 n4 n5 n6 n7
  have hq := flags_neq
  have hm : Try.prog.eqGuardType Try.prog.depth 65 = false := by kernel_rfl
  go_quiet (fail)
  go_wp2
  go_ret
  exact ⟨rfl, h2.drewN _, hB.drewN _⟩

theorem set_stop (b : Nat) (x : Ev) (w : World) (h : EvAt w b 68 x) :
    Calls Try.prog 50 #[.pointer (some ⟨b, 0, none⟩), .func (.func 52) #[] #[]] w fun e w' => e = .returned (.bool (decide (g_stop x.fl ≠ x.fl))) ∧ EvAt w' b 68 { x with fl := g_stop x.fl } ∧ But (· = b) w w' := by
  have hlt := Blk.lt h
  have h1 : EvAt (w.alloc (.cells x.fl.cells 65)) b 68 x := Blk.alloc h _
  have hn := Blk.new w 65 x.fl.cells
  obtain ⟨⟨c0, c1, c2, c3, c4, c5⟩, ⟨c6, c7, c8, c9, c10, c11, c12, c13⟩, ⟨z3, z4, z5, z9, z10, z11, z12, z13⟩⟩ := h.all
  go_enter Try.func50, Try.ntmps50
  go_wp2_with (go_at_call 52; refine (sets_stop b x _ h1).mono ?_; rintro e w1 ⟨rfl, h2, hb⟩)
  have hB : But (· = b) w w1 := (But.alloc _ w _).trans hb
  replace hn := hb.blk hn (by omega)
  clear c0 c1 c2 c3 c4 c5 c6 c7 c8 c9 c10 c11 c12 c13 z3 z4 z5 z9 z10 z11 z12 z13 h h1 hb
  obtain ⟨⟨c0, c1, c2, c3, c4, c5⟩, ⟨c6, c7, c8, c9, c10, c11, c12, c13⟩, _⟩ := h2.all
  have n0 := hn.cell 0; have n1 := hn.cell 1; have n2 := hn.cell 2; have n3 := hn.cell 3; have n4 := hn.cell 4; have n5 := hn.cell 5; have n6 := hn.cell 6; have n7 := hn.cell 7
  simp [Fl.cells] at n0 n1 n2 n3 n4 n5 n6 n7
  have hq := flags_neq
  have hm : Try.prog.eqGuardType Try.prog.depth 65 = false := by kernel_rfl
  go_quiet (fail)
  go_wp2
  go_ret
  exact ⟨rfl, h2.drewN _, hB.drewN _⟩

theorem set_stopNow (b : Nat) (x : Ev) (w : World) (h : EvAt w b 68 x) :
    Calls Try.prog 50 #[.pointer (some ⟨b, 0, none⟩), .func (.func 53) #[] #[]] w fun e w' => e = .returned (.bool (decide (g_stopNow x.fl ≠ x.fl))) ∧ EvAt w' b 68 { x with fl := g_stopNow x.fl } ∧ But (· = b) w w' := by
  have hlt := Blk.lt h
  have h1 : EvAt (w.alloc (.cells x.fl.cells 65)) b 68 x := Blk.alloc h _
  have hn := Blk.new w 65 x.fl.cells
  obtain ⟨⟨c0, c1, c2, c3, c4, c5⟩, ⟨c6, c7, c8, c9, c10, c11, c12, c13⟩, ⟨z3, z4, z5, z9, z10, z11, z12, z13⟩⟩ := h.all
  go_enter Try.func50, Try.ntmps50
  go_wp2_with (go_at_call 53; refine (sets_stopNow b x _ h1).mono ?_; rintro e w1 ⟨rfl, h2, hb⟩)
  have hB : But (· = b) w w1 := (But.alloc _ w _).trans hb
  replace hn := hb.blk hn (by omega)
  clear c0 c1 c2 c3 c4 c5 c6 c7 c8 c9 c10 c11 c12 c13 z3 z4 z5 z9 z10 z11 z12 z13 h h1 hb
  obtain ⟨⟨c0, c1, c2, c3, c4, c5⟩, ⟨c6, c7, c8, c9, c10, c11, c12, c13⟩, _⟩ := h2.all
  have n0 := hn.cell 0; have n1 := hn.cell 1; have n2 := hn.cell 2; have n3 := hn.cell 3; have n4 := hn.cell 4; have n5 := hn.cell 5; have n6 := hn.cell 6; have n7 := hn.cell 7
  simp [Fl.cells] at n0 n1 n2 n3 n4 n5 n6 n7
  have hq := flags_neq
  have hm : Try.prog.eqGuardType Try.prog.depth 65 = false := by kernel_rfl
  go_quiet (fail)
  go_wp2
  go_ret
  exact ⟨rfl, h2.drewN _, hB.drewN _⟩

theorem set_begin (b : Nat) (x : Ev) (w : World) (h : EvAt w b 68 x) :
    Calls Try.prog 50 #[.pointer (some ⟨b, 0, none⟩), .func (.func 54) #[] #[]] w fun e w' => e = .returned (.bool (decide (g_begin x.fl ≠ x.fl))) ∧ EvAt w' b 68 { x with fl := g_begin x.fl } ∧ But (· = b) w w' := by
  have hlt := Blk.lt h
  have h1 : EvAt (w.alloc (.cells x.fl.cells 65)) b 68 x := Blk.alloc h _
  have hn := Blk.new w 65 x.fl.cells
  obtain ⟨⟨c0, c1, c2, c3, c4, c5⟩, ⟨c6, c7, c8, c9, c10, c11, c12, c13⟩, ⟨z3, z4, z5, z9, z10, z11, z12, z13⟩⟩ := h.all
  go_enter Try.func50, Try.ntmps50
  go_wp2_with (go_at_call 54; refine (sets_begin b x _ h1).mono ?_; rintro e w1 ⟨rfl, h2, hb⟩)
  have hB : But (· = b) w w1 := (But.alloc _ w _).trans hb
  replace hn := hb.blk hn (by omega)
  clear c0 c1 c2 c3 c4 c5 c6 c7 c8 c9 c10 c11 c12 c13 z3 z4 z5 z9 z10 z11 z12 z13 h h1 hb
  obtain ⟨⟨c0, c1, c2, c3, c4, c5⟩, ⟨c6, c7, c8, c9, c10, c11, c12, c13⟩, _⟩ := h2.all
  have n0 := hn.cell 0; have n1 := hn.cell 1; have n2 := hn.cell 2; have n3 := hn.cell 3; have n4 := hn.cell 4; have n5 := hn.cell 5; have n6 := hn.cell 6; have n7 := hn.cell 7
  simp [Fl.cells] at n0 n1 n2 n3 n4 n5 n6 n7
  have hq := flags_neq
  have hm : Try.prog.eqGuardType Try.prog.depth 65 = false := by kernel_rfl
  go_quiet (fail)
  go_wp2
  go_ret
  exact ⟨rfl, h2.drewN _, hB.drewN _⟩

theorem set_end (b : Nat) (x : Ev) (w : World) (h : EvAt w b 68 x) :
    Calls Try.prog 50 #[.pointer (some ⟨b, 0, none⟩), .func (.func 55) #[] #[]] w fun e w' => e = .returned (.bool (decide (g_end x.fl ≠ x.fl))) ∧ EvAt w' b 68 { x with fl := g_end x.fl } ∧ But (· = b) w w' := by
  have hlt := Blk.lt h
  have h1 : EvAt (w.alloc (.cells x.fl.cells 65)) b 68 x := Blk.alloc h _
  have hn := Blk.new w 65 x.fl.cells
  obtain ⟨⟨c0, c1, c2, c3, c4, c5⟩, ⟨c6, c7, c8, c9, c10, c11, c12, c13⟩, ⟨z3, z4, z5, z9, z10, z11, z12, z13⟩⟩ := h.all
  go_enter Try.func50, Try.ntmps50
  go_wp2_with (go_at_call 55; refine (sets_end b x _ h1).mono ?_; rintro e w1 ⟨rfl, h2, hb⟩)
  have hB : But (· = b) w w1 := (But.alloc _ w _).trans hb
  replace hn := hb.blk hn (by omega)
  clear c0 c1 c2 c3 c4 c5 c6 c7 c8 c9 c10 c11 c12 c13 z3 z4 z5 z9 z10 z11 z12 z13 h h1 hb
  obtain ⟨⟨c0, c1, c2, c3, c4, c5⟩, ⟨c6, c7, c8, c9, c10, c11, c12, c13⟩, _⟩ := h2.all
  have n0 := hn.cell 0; have n1 := hn.cell 1; have n2 := hn.cell 2; have n3 := hn.cell 3; have n4 := hn.cell 4; have n5 := hn.cell 5; have n6 := hn.cell 6; have n7 := hn.cell 7
  simp [Fl.cells] at n0 n1 n2 n3 n4 n5 n6 n7
  have hq := flags_neq
  have hm : Try.prog.eqGuardType Try.prog.depth 65 = false := by kernel_rfl
  go_quiet (fail)
  go_wp2
  go_ret
  exact ⟨rfl, h2.drewN _, hB.drewN _⟩

theorem set_nil (v : Value) (w : World) : Calls Try.prog 50 #[.pointer none, v] w fun e w' => e = .returned (.bool false) ∧ w = w' := by
  go_enter Try.func50, Try.ntmps50
  go_wp2
  go_ret
  exact ⟨rfl, rfl⟩

theorem stop_any (b : Nat) (x : Ev) (w : World) (h : EvAt w b 68 x) :
    Calls Try.prog 31 #[.pointer (some ⟨b, 0, none⟩)] w fun e w' => e = .returned (.tuple #[]) ∧ EvAt w' b 68 { x with fl := g_stop x.fl } ∧ But (· = b) w w' := by
  go_enter Try.func31, Try.ntmps31
  go_wp2_with (go_at_call 50; refine (set_stop b x _ h).mono ?_; rintro e w1 ⟨rfl, h2, hb⟩)
  go_end0
  exact ⟨rfl, h2, hb⟩
theorem stop_nil (w : World) : Calls Try.prog 31 #[.pointer none] w fun e w' => e = .returned (.tuple #[]) ∧ w = w' := by
  go_enter Try.func31, Try.ntmps31
  go_wp2_with (go_at_call 50; refine (set_nil _ _).mono ?_; rintro e w1 ⟨rfl, rfl⟩)
  go_end0
  exact ⟨rfl, rfl⟩
theorem stopNow_any (b : Nat) (x : Ev) (w : World) (h : EvAt w b 68 x) :
    Calls Try.prog 32 #[.pointer (some ⟨b, 0, none⟩)] w fun e w' => e = .returned (.tuple #[]) ∧ EvAt w' b 68 { x with fl := g_stopNow x.fl } ∧ But (· = b) w w' := by
  go_enter Try.func32, Try.ntmps32
  go_wp2_with (go_at_call 50; refine (set_stopNow b x _ h).mono ?_; rintro e w1 ⟨rfl, h2, hb⟩)
  go_end0
  exact ⟨rfl, h2, hb⟩
theorem stopNow_nil (w : World) : Calls Try.prog 32 #[.pointer none] w fun e w' => e = .returned (.tuple #[]) ∧ w = w' := by
  go_enter Try.func32, Try.ntmps32
  go_wp2_with (go_at_call 50; refine (set_nil _ _).mono ?_; rintro e w1 ⟨rfl, rfl⟩)
  go_end0
  exact ⟨rfl, rfl⟩
theorem begin_any (b : Nat) (x : Ev) (w : World) (h : EvAt w b 68 x) :
    Calls Try.prog 33 #[.pointer (some ⟨b, 0, none⟩)] w fun e w' => e = .returned (.bool (!x.fl.dispatch)) ∧ EvAt w' b 68 { x with fl := g_begin x.fl } ∧ But (· = b) w w' := by
  have hd : decide (g_begin x.fl ≠ x.fl) = !x.fl.dispatch := by
    obtain ⟨_, _, _, _, _, _, _, f⟩ := x.fl
    cases f <;> simp [g_begin]
  go_enter Try.func33, Try.ntmps33
  go_wp2_with (go_at_call 50; refine (set_begin b x _ h).mono ?_; rintro e w1 ⟨rfl, h2, hb⟩)
  go_ret
  exact ⟨by rw [← hd]; rfl, h2, hb⟩
theorem begin_nil (w : World) : Calls Try.prog 33 #[.pointer none] w fun e w' => e = .returned (.bool false) ∧ w = w' := by
  go_enter Try.func33, Try.ntmps33
  go_wp2_with (go_at_call 50; refine (set_nil _ _).mono ?_; rintro e w1 ⟨rfl, rfl⟩)
  go_ret
  exact ⟨rfl, rfl⟩
def Ev.ended (x : Ev) : Ev := { x with fl := g_end x.fl, current := 0, phase := 0, path := .slice none 0 0 }
theorem end_any (b : Nat) (x : Ev) (w : World) (h : EvAt w b 68 x) :
    Calls Try.prog 34 #[.pointer (some ⟨b, 0, none⟩)] w fun e w' => e = .returned (.tuple #[]) ∧ EvAt w' b 68 x.ended ∧ But (· = b) w w' := by
  go_enter Try.func34, Try.ntmps34
  go_wp2_with fail
  refine (set_end b x _ h).mono ?_
  rintro e w1 ⟨rfl, h2, hb⟩
  obtain ⟨⟨c0, c1, c2, c3, c4, c5⟩, ⟨c6, c7, c8, c9, c10, c11, c12, c13⟩, ⟨z3, z4, z5, z9, z10, z11, z12, z13⟩⟩ := h2.all
  go_wp2
  go_end0
  exact ⟨rfl, ((h2.set3 _).set4 _).set5 _, ((hb.step ⟨b, 3, none⟩ _ rfl).step ⟨b, 4, none⟩ _ rfl).step ⟨b, 5, none⟩ _ rfl⟩
theorem end_nil (w : World) : Calls Try.prog 34 #[.pointer none] w fun e w' => e = .returned (.tuple #[]) ∧ w = w' := by
  go_enter Try.func34, Try.ntmps34
  go_wp2
  refine bodyPost_ret (results_none rfl _ _ _) rfl ?_
  exact ⟨rfl, rfl⟩
def Ev.prevents (x : Ev) : Bool := x.fl.cancelable && !x.fl.passive
def Ev.prevented (x : Ev) : Ev := if x.prevents = true then { x with fl := g_prevent x.fl } else x
theorem prevent_any (b : Nat) (x : Ev) (w : World) (h : EvAt w b 68 x) :
    Calls Try.prog 29 #[.pointer (some ⟨b, 0, none⟩)] w fun e w' => e = .returned (.bool x.prevents) ∧ EvAt w' b 68 x.prevented ∧ But (· = b) w w' := by
  obtain ⟨⟨c0, c1, c2, c3, c4, c5⟩, ⟨c6, c7, c8, c9, c10, c11, c12, c13⟩, _⟩ := h.all
  by_cases hc : x.fl.cancelable = true
  · by_cases hp : x.fl.passive = true
    · have e1 : x.prevents = false := by simp [Ev.prevents, hp]
      have e2 : x.prevented = x := by simp [Ev.prevented, e1]
      rw [e1, e2]
      clear e1 e2
      go_enter Try.func29, Try.ntmps29
      go_wp2
      go_ret
      exact ⟨rfl, h, But.refl _ _⟩
    · have hp : x.fl.passive = false := by simpa using hp
      have e1 : x.prevents = true := by simp [Ev.prevents, hp, hc]
      have e2 : x.prevented = { x with fl := g_prevent x.fl } := by simp [Ev.prevented, e1]
      rw [e1, e2]
      clear e1 e2
      go_enter Try.func29, Try.ntmps29
      go_wp2_with (go_at_call 50; refine (set_prevent b x _ h).mono ?_; rintro e w1 ⟨rfl, h2, hb⟩)
      go_ret
      exact ⟨rfl, h2, hb⟩
  · have hc : x.fl.cancelable = false := by simpa using hc
    have e1 : x.prevents = false := by simp [Ev.prevents, hc]
    have e2 : x.prevented = x := by simp [Ev.prevented, e1]
    rw [e1, e2]
    clear e1 e2
    go_enter Try.func29, Try.ntmps29
    go_wp2
    go_ret
    exact ⟨rfl, h, But.refl _ _⟩
theorem prevent_nil (w : World) : Calls Try.prog 29 #[.pointer none] w fun e w' => e = .returned (.bool false) ∧ w = w' := by
  go_enter Try.func29, Try.ntmps29
  go_wp2
  go_ret
  exact ⟨rfl, rfl⟩
end Go.Proofs.Ytpmeffdcbjakoaa
