/- slices.Backward over a path: its contract as an iterator (after the kit's worked texts over slices.All). -/
import Derived.Test.YtjkidecaciomgaaSv1
import Derived.Test.YtjkidecaciomgaaBA
import Derived.RangeFuncBox
import Derived.RangeFuncLeaves
import Derived.Shelf.Abstract
import Derived.OwnWalkIn
import Derived.TacticsInMore
import Derived.LoopNIn
import Derived.LoopIn
namespace Go.Proofs.Ytjkidecaciomgaa
set_option linter.unusedVariables false
set_option linter.unusedSimpArgs false
open Go.RowKit Go.Shelf

attribute [local go_sem] Oper.semAt_some

/-- f 0, .., f (k - 1). -/
def upto {α : Type} (f : Nat → α) (k : Nat) : List α := (List.range k).map f
theorem upto_succ {α : Type} (f : Nat → α) (k : Nat) : upto f (k + 1) = upto f k ++ [f k] := by simp [upto, List.range_succ]
theorem upto_length {α : Type} (f : Nat → α) (k : Nat) : (upto f k).length = k := by simp [upto]

/-- What slices.Backward tells in round k: a place from behind, and its entry. -/
def backF (xs : List St) (k : Nat) : Nat × St := (xs.length - 1 - k, xs.getD (xs.length - 1 - k) default)
def encBack (x : Nat × St) : Array Value := #[.int .i64 (x.1 : Int), .agg #[.int .i64 x.2.node, .int .i64 x.2.target, .int .i64 x.2.related, .bool x.2.cr, .bool x.2.cs]]

theorem backward_calls (a : Option Addr) (len cap : Nat) (w : World) :
    Calls Try.prog 151 #[.slice a len cap] w fun e w' => e = .returned (.func (.func 182) #[] #[.pointer (some ⟨w.heap.size, 0, none⟩)]) ∧ w' = w.alloc (.cells #[.slice a len cap] 68) := by
  refine callsIn_wide (n := 9).1 ?_
  refine callsIn_of_wp Try.func151 rfl trivial ?_ rfl
  simp only [Try.ntmps151, List.size_toArray, List.length_cons, List.length_nil, Nat.reduceAdd, Nat.reduceSub, Array.replicate_succ, Array.replicate_zero, List.push_toArray, List.append_toArray, List.nil_append, List.cons_append]
  gi_wp2
  go_ret
  exact ⟨rfl, rfl⟩

/-- What a round keeps for slices.Backward: all below n₀, and the box of the slice. -/
def KpB (n₀ Bs : Nat) (A B : World) : Prop := Below n₀ A B ∧ B.heap[Bs]? = A.heap[Bs]?
theorem KpB.t {n₀ Bs : Nat} {A B C : World} (h : KpB n₀ Bs A B) (k : KpB n₀ Bs B C) : KpB n₀ Bs A C := ⟨h.1.trans k.1, k.2.trans h.2⟩
theorem KpB.b {n₀ Bs : Nat} {w : World} (hn : n₀ ≤ w.heap.size) (hb : Bs < w.heap.size) : ∀ (W : World) (l : Nat) (o o' : Obj), w.heap.size ≤ l → W.heap[l]? = some o → o.isCells = false → o.isWalk = false → KpB n₀ Bs W (W.putObj l o') :=
  fun W l o o' hl h1 h2 h3 => ⟨belowK_b hn W l o o' hl h1 h2 h3, World.putObj_heap_other (by omega)⟩
theorem KpB.a {n₀ Bs : Nat} {w : World} (hn : n₀ ≤ w.heap.size) (hb : Bs < w.heap.size) (W : World) (o : Obj) (h : w.heap.size ≤ W.heap.size) : KpB n₀ Bs W (W.alloc o) :=
  ⟨(Below.refl _ _).alloc (by omega) _, Below.heap_alloc _ _ _ (by omega)⟩
theorem KpB.refl (n₀ Bs : Nat) (A : World) : KpB n₀ Bs A A := ⟨Below.refl _ _, rfl⟩
theorem KpB.set {n₀ Bs : Nat} {A B : World} (h : KpB n₀ Bs A B) {p : Addr} (hp : n₀ ≤ p.block) (hb : p.block ≠ Bs) (v : Value) : KpB n₀ Bs A (B.setCell p v) := ⟨h.1.setCell hp v, (Below.heap_setCell _ _ _ _ (Ne.symm hb)).trans h.2⟩

set_option maxRecDepth 100000 in
set_option maxHeartbeats 2000000 in
theorem back1_in (n : Nat) (l Bs n₀ : Nat) (A : Option Addr) (cap : Nat) (xs : List St) (hlen : xs.length ≤ 1000) (J Jx : List (Nat × St) → World → Prop)
    (hY : ∀ pre x W, J pre W → pre.length < xs.length → YieldAt Fence.wide (n - 1) Try.prog l (encBack x) W fun e W' =>
      (e = .returned (.bool true) ∧ J (pre ++ [x]) W' ∧ KpB n₀ Bs W W') ∨ (e = .returned (.bool false) ∧ Jx (pre ++ [x]) W'))
    (W : World) (hBs : W.cell? ⟨Bs, 0, none⟩ = some (.slice A xs.length cap)) (hc : StAt W A xs) (hb : ∀ ad, 0 < xs.length → A = some ad → ad.block < n₀) (h0 : J [] W) :
    CallsIn Fence.wide n Try.prog 182 #[.func (.yield l) #[] #[], .pointer (some ⟨Bs, 0, none⟩)] W fun e W' => (∃ v, e = .returned v) ∧
      ((∃ ys, ys = upto (backF xs) xs.length ∧ J ys W') ∨ (∃ pre, (∃ k, k ≤ xs.length ∧ pre = upto (backF xs) k) ∧ Jx pre W')) := by
  refine callsIn_of_wp Try.func182 rfl trivial ?_ rfl
  simp only [Try.ntmps182, List.size_toArray, List.length_cons, List.length_nil, Nat.reduceAdd, Nat.reduceSub, Array.replicate_succ, Array.replicate_zero, List.push_toArray, List.append_toArray, List.nil_append, List.cons_append]
  gi_wp2
  gi_loopw [3] (fun i wr => ∃ k : Nat, k ≤ xs.length ∧ i = .int .i64 ((xs.length : Int) - 1 - k) ∧ J (upto (backF xs) k) wr ∧ KpB n₀ Bs W wr)
    (fun i _ => (intOf i + 1).toNat)
  case atStart => exact ⟨0, Nat.zero_le _, by go_num, h0, KpB.refl _ _ _⟩
  case round =>
    obtain ⟨k, hk, rfl, hJs, hnx⟩ := hrel
    by_cases hlt : k < xs.length
    · obtain ⟨m, hm⟩ : ∃ m : Nat, m = xs.length - 1 - k := ⟨_, rfl⟩
      have he : (xs.length : Int) - 1 - (k : Int) = (m : Int) := by omega
      have hml : m < xs.length := by omega
      have hbf : backF xs k = (m, xs.getD m default) := by unfold backF; rw [← hm]
      obtain ⟨fn, tmps, assign, body, hy, hR⟩ := hY _ (backF xs k) wr hJs (by rw [upto_length]; exact hlt)
      rw [hbf] at hy hR
      rw [← hbf, ← upto_succ] at hR
      obtain ⟨b, off, rfl, c0, c1, c2, c3, c4⟩ := hc.get hml
      have hbl := hb _ (by omega) rfl
      simp only at hbl
      have d0 := (hnx.1.cell (p := ⟨b, off + m * 5, none⟩) hbl).trans c0
      have d1 := (hnx.1.cell (p := ⟨b, off + m * 5 + 1, none⟩) hbl).trans c1
      have d2 := (hnx.1.cell (p := ⟨b, off + m * 5 + 2, none⟩) hbl).trans c2
      have d3 := (hnx.1.cell (p := ⟨b, off + m * 5 + 3, none⟩) hbl).trans c3
      have d4 := (hnx.1.cell (p := ⟨b, off + m * 5 + 4, none⟩) hbl).trans c4
      have dB := (World.cell?_of_block (w := W) (a := ⟨Bs, 0, none⟩) hnx.2).trans hBs
      dsimp only [encBack] at hy
      rw [he]
      have HE := Lib.hid he
      clear he hbf hm c0 c1 c2 c3 c4
      generalize xs.getD m default = x at hy d0 d1 d2 d3 d4
      gi_wp2
      refine ⟨fun h => by simp [Fence.wide] at h, hR.mono ?_⟩
      rintro e W3 (⟨rfl, hJ3, hk3⟩ | ⟨rfl, hJx3⟩)
      · gi_wp2
        go_roundw
        case rel => exact ⟨k + 1, by omega, by have := HE.out; go_num, hJ3, hnx.t hk3⟩
        case measure => simp [intOf]
      · gi_wp2
        refine bodyPost_ret (results_none rfl _ _ _) rfl ?_
        exact ⟨⟨_, rfl⟩, .inr ⟨_, ⟨k + 1, by omega, rfl⟩, hJx3⟩⟩
    · obtain rfl : k = xs.length := by omega
      gi_wp2
      go_end0
      exact ⟨⟨_, rfl⟩, .inl ⟨_, rfl, hJs⟩⟩

/-- **slices.Backward(p) hands back a value that tells the entries from behind**: all of them, or the first k. -/
theorem back_stops (n Bs n₀ : Nat) (A : Option Addr) (cap : Nat) (xs : List St) (hlen : xs.length ≤ 1000) (w : World) (hBs : Bs < w.heap.size) (hc : w.cell? ⟨Bs, 0, none⟩ = some (.slice A xs.length cap)) (hI : StAt w A xs) (hb : ∀ ad, 0 < xs.length → A = some ad → ad.block < n₀) :
    SeqStopsK Fence.wide n Try.prog 182 #[.pointer (some ⟨Bs, 0, none⟩)] encBack (KpB n₀ Bs) (fun ys => ys = upto (backF xs) xs.length) (fun pre => ∃ k, k ≤ xs.length ∧ pre = upto (backF xs) k) xs.length w := fun l J Jx W hW _ _ hY h0 =>
  back1_in n l Bs n₀ A cap xs hlen J Jx hY W ((hW.cell (p := ⟨Bs, 0, none⟩) hBs).trans hc) (hI.below hW) hb h0
end Go.Proofs.Ytjkidecaciomgaa
