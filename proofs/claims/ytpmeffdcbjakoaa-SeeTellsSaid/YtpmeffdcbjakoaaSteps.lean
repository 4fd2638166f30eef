/- Paths: slices of api.Step, as lists of data; whether two entries are the same. -/
import Derived.Test.YtpmeffdcbjakoaaMem
import Derived.Test.YtpmeffdcbjakoaaRows
import Derived.WalkKit
import Derived.ProofKit
import Derived.WalkSpells
import Derived.Outline
import Derived.BigQuiet
import Derived.Deep.QuietTactic

import Derived.Lib.Hide
namespace Go.Proofs.Ytpmeffdcbjakoaa
set_option linter.unusedVariables false
set_option linter.unusedSimpArgs false
open Go.RowKit

/-- An entry of a path, as data. -/
structure St where
  node : Int
  target : Int
  related : Int
  croot : Bool
  cslot : Bool
  deriving DecidableEq
instance : Inhabited St := ⟨⟨0, 0, 0, false, false⟩⟩
def St.cell (x : St) : Nat → Value
  | 0 => .int .i64 x.node
  | 1 => .int .i64 x.target
  | 2 => .int .i64 x.related
  | 3 => .bool x.croot
  | _ => .bool x.cslot
def St.cells (x : St) : Array Value := #[.int .i64 x.node, .int .i64 x.target, .int .i64 x.related, .bool x.croot, .bool x.cslot]
/-- A path that reads as a list. -/
def StAt (w : World) (A : Option Addr) (xs : List St) : Prop := SliceAt w A 5 xs.length (fun i => (xs.getD i default).cell)
theorem StAt.below {w w' : World} {A : Option Addr} {xs : List St} (h : StAt w A xs) (hb : Below w.heap.size w w') : StAt w' A xs := SliceAt.below h (by decide) hb
theorem StAt.get {w : World} {A : Option Addr} {xs : List St} (h : StAt w A xs) {k : Nat} (hk : k < xs.length) : ∃ b off, A = some ⟨b, off, none⟩ ∧
    w.cell? ⟨b, off + k * 5, none⟩ = some (.int .i64 (xs.getD k default).node) ∧ w.cell? ⟨b, off + k * 5 + 1, none⟩ = some (.int .i64 (xs.getD k default).target) ∧ w.cell? ⟨b, off + k * 5 + 2, none⟩ = some (.int .i64 (xs.getD k default).related) ∧
    w.cell? ⟨b, off + k * 5 + 3, none⟩ = some (.bool (xs.getD k default).croot) ∧ w.cell? ⟨b, off + k * 5 + 4, none⟩ = some (.bool (xs.getD k default).cslot) := by
  obtain ⟨b, off, rfl, hc⟩ := h (by omega)
  exact ⟨b, off, rfl, hc k 0 hk (by decide), hc k 1 hk (by decide), hc k 2 hk (by decide), hc k 3 hk (by decide), hc k 4 hk (by decide)⟩

def St.same (f g : St) : Bool := (f.node == g.node) && ((f.target == g.target) && ((f.related == g.related) && ((f.croot == g.croot) && ((f.cslot == g.cslot) && true))))
theorem St.same_iff (f g : St) : f.same g = decide (f = g) := by
  cases f; cases g; rw [Bool.eq_iff_iff]; simp [St.same]
theorem step_eqIn (f g : St) (w : World) (d : Nat) : (Op.equalIn (d + 1 + 1) 46 (.agg f.cells) (.agg g.cells)).run Try.prog w = .ok (f.same g) w := by
  rw [run_equalIn_struct w (d + 1) 46 _ _ (by kernel_rfl) (by kernel_rfl)]
  unfold Program.fieldsOf
  rw [Try.underlying46]
  exact eqf_cons (by decide) (by kernel_rfl) (by kernel_rfl) (run_equalIn_int w d 3 .i64 _ _ _ Try.underlying3) (eqf_cons (by decide) (by kernel_rfl) (by kernel_rfl) (run_equalIn_int w d 3 .i64 _ _ _ Try.underlying3)
    (eqf_cons (by decide) (by kernel_rfl) (by kernel_rfl) (run_equalIn_int w d 3 .i64 _ _ _ Try.underlying3) (eqf_cons (by decide) (by kernel_rfl) (by kernel_rfl) (run_equalIn_bool w d 4 _ _ Try.underlying4)
    (eqf_cons (by decide) (by kernel_rfl) (by kernel_rfl) (run_equalIn_bool w d 4 _ _ Try.underlying4) eqf_nil))))
theorem step_neq (f g : St) (w : World) : (binOp .neq 46 (.agg #[.int .i64 f.node, .int .i64 f.target, .int .i64 f.related, .bool f.croot, .bool f.cslot]) (.agg #[.int .i64 g.node, .int .i64 g.target, .int .i64 g.related, .bool g.croot, .bool g.cslot])).run Try.prog w = .ok (.bool (decide (f ≠ g))) w := by
  rw [run_neq_struct]
  have := step_eqIn f g w 9998
  simp only [St.cells] at this
  rw [this, St.same_iff]
  simp [Result.andThen]


theorem path_same (A0 : Option Addr) (c0 : Nat) (xs : List St) (A1 : Option Addr) (c1 : Nat) (ys : List St) (w : World) (h0 : StAt w A0 xs) (h1 : StAt w A1 ys) (m0 : xs.length ≤ 1000) (m1 : ys.length ≤ 1000) :
    Calls Try.prog 56 #[.slice A0 xs.length c0, .slice A1 ys.length c1] w fun e w' => e = .returned (.bool (decide (xs = ys))) ∧ ∃ n, w' = w.drewN n := by
  by_cases hl : xs.length = ys.length
  · have hle : (((xs.length : Nat) : Int) != ((ys.length : Nat) : Int)) = false := by rw [hl]; simp
    have hq := step_neq
    have hm : Try.prog.eqGuardType Try.prog.depth 46 = false := by kernel_rfl
    have HL := Lib.hid hl
    clear hl
    go_enter Try.func56, Try.ntmps56
    go_wp2
    go_loopw [5] (fun i wr => ∃ k n : Nat, k ≤ xs.length ∧ i = .int .i64 k ∧ wr = w.drewN n ∧ ∀ j, j < k → xs.getD j default = ys.getD j default) (fun i _ => 1000 - (intOf i).toNat)
    case atStart => exact ⟨0, 0, by omega, rfl, rfl, fun j hj => by omega⟩
    case round =>
      obtain ⟨k, n, hk, rfl, rfl, hall⟩ := hrel
      by_cases hlt : k < xs.length
      · obtain ⟨b, off, rfl, a0, a1, a2, a3, a4⟩ := h0.get hlt
        obtain ⟨b', off', rfl, b0, b1, b2, b3, b4⟩ := h1.get (k := k) (by rw [← HL.out]; exact hlt)
        have hlt2 : k < ys.length := by rw [← HL.out]; exact hlt
        have HA := Lib.hid hall
        clear hall h0 h1
        generalize hx : xs.getD k default = x at *
        generalize hy : ys.getD k default = y at *
        have HX := Lib.hid hx
        have HY := Lib.hid hy
        clear hx hy
        go_wp2_with fail
        by_cases he : x = y
        · have he' : decide (x ≠ y) = false := by simp [he]
          have HE := Lib.hid he
          clear he
          go_quiet (fail)
          go_wp2
          go_roundw
          case rel =>
            refine ⟨k + 1, _, by omega, by go_num, rfl, fun j hj => ?_⟩
            by_cases e : j = k
            · subst e; rw [HX.out, HY.out]; exact HE.out
            · exact HA.out j (by omega)
          case measure => simp [intOf]; omega
        · have he' : decide (x ≠ y) = true := by simp [he]
          have HE := Lib.hid he
          clear he
          go_quiet (fail)
          go_wp2
          go_ret
          refine ⟨ret_bool ?_, _, World.drewN_drewN _ _ _⟩
          symm; rw [decide_eq_false_iff_not]; rintro rfl; exact HE.out (HX.out.symm.trans HY.out)
      · go_wp2
        go_ret
        refine ⟨ret_bool ?_, _, rfl⟩
        symm; rw [decide_eq_true_iff]
        refine List.ext_getElem HL.out fun j h0 h1 => ?_
        have := hall j (by omega)
        rw [List.getD_eq_getElem?_getD, List.getD_eq_getElem?_getD, List.getElem?_eq_getElem h0, List.getElem?_eq_getElem h1] at this
        exact this
  · have hle : (((xs.length : Nat) : Int) != ((ys.length : Nat) : Int)) = true := by simp; omega
    have e1 : decide (xs = ys) = false := by rw [decide_eq_false_iff_not]; rintro rfl; exact hl rfl
    rw [e1]
    clear e1 hl
    go_enter Try.func56, Try.ntmps56
    go_wp2
    go_ret
    exact ⟨rfl, 0, rfl⟩
end Go.Proofs.Ytpmeffdcbjakoaa
