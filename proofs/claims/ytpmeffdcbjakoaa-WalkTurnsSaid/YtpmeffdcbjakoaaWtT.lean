/- walk.Target. -/
import Derived.Test.YtpmeffdcbjakoaaWtR
namespace Go.Proofs.Ytpmeffdcbjakoaa
set_option linter.unusedVariables false
set_option linter.unusedSimpArgs false
open Go.RowKit Go.Shelf

attribute [local go_sem] Oper.semAt_some

theorem stAt_take {w : World} {A : Option Addr} {xs : List St} (h : StAt w A xs) (n : Nat) : StAt w A (xs.take n) := fun hn => by
  have hl : (xs.take n).length ≤ xs.length := by rw [List.length_take]; omega
  obtain ⟨b, off, hA, hc⟩ := h (by omega)
  refine ⟨b, off, hA, fun i j hi hj => ?_⟩
  rw [hc i j (by omega) hj]
  rw [List.length_take] at hi
  show some ((xs.getD i default).cell j) = some (((xs.take n).getD i default).cell j)
  rw [List.getD_eq_getElem?_getD, List.getD_eq_getElem?_getD, List.getElem?_take, if_pos (by omega)]
theorem tgt_zero {xs : List St} {n : Nat} (hn : n ≤ xs.length) : ∀ k, k ≤ n → (∀ p ∈ upto (backF (xs.take n)) k, p.2.target = 0) → tgtTo xs n = tgtTo xs (n - k)
  | 0, _, _ => rfl
  | k + 1, hk, h => by
    rw [tgt_zero hn k (by omega) fun p hp => h p (by rw [upto_succ]; exact List.mem_append_left _ hp)]
    have h1 := h (backF (xs.take n) k) (by rw [upto_succ]; simp)
    have hx : xs[n - k - 1]? = some xs[n - k - 1] := List.getElem?_eq_getElem (by omega)
    have e : (backF (xs.take n) k).2 = xs[n - k - 1] := by
      simp only [backF, List.length_take, Nat.min_eq_left hn]
      rw [List.getD_eq_getElem?_getD, List.getElem?_take, if_pos (by omega), show n - 1 - k = n - k - 1 by omega, hx]
      rfl
    rw [e] at h1
    rw [show n - k = (n - k - 1) + 1 by omega, tgtTo_succ hx, if_pos h1, show n - (k + 1) = n - k - 1 by omega]
theorem tgt_last {xs : List St} {n k : Nat} (hn : n ≤ xs.length) (hk : k < n) (h : (backF (xs.take n) k).2.target ≠ 0) : tgtTo xs (n - k) = (backF (xs.take n) k).2.target := by
  obtain ⟨x, hx⟩ : ∃ x, xs[n - k - 1]? = some x := ⟨_, List.getElem?_eq_getElem (by omega)⟩
  have e : (backF (xs.take n) k).2 = x := by
    simp only [backF, List.length_take, Nat.min_eq_left hn]
    rw [List.getD_eq_getElem?_getD, List.getElem?_take, if_pos (by omega), show n - 1 - k = n - k - 1 by omega, hx]
    rfl
  rw [e] at h ⊢
  rw [show n - k = (n - k - 1) + 1 by omega, tgtTo_succ hx, if_neg h]
set_option maxRecDepth 100000 in
set_option maxHeartbeats 2000000 in
theorem target_calls (A : Option Addr) (cap : Nat) (xs : List St) (at_ : Int) (hlen : xs.length ≤ 1000) (hcap : xs.length ≤ cap) (w : World) (hI : StAt w A xs) :
    Calls Try.prog 24 #[.slice A xs.length cap, .int .i64 at_] w fun e w' => e = .returned (.int .i64 (targetM xs at_)) ∧ Below w.heap.size w w' := by
  refine callsIn_wide (n := 9).1 ?_
  refine callsIn_of_wp_marks Try.func24 rfl trivial ?_ rfl
  simp only [Try.ntmps24, List.size_toArray, List.length_cons, List.length_nil, Nat.reduceAdd, Nat.reduceSub, Array.replicate_succ, Array.replicate_zero, List.push_toArray, List.append_toArray, List.nil_append, List.cons_append]
  have b0 := Boxed.new w 3 (.int .i64 0)
  have hB0 : Below w.heap.size w (w.alloc (.cells #[.int .i64 0] 3)) := (Below.refl _ w).alloc (Nat.le_refl _) _
  have q0 := b0.cell
  by_cases h0 : at_ < 0
  · rw [targetM, if_pos (.inl h0)]
    have hd : decide (at_ < 0) = true := decide_eq_true h0
    gi_wp2
    exact ⟨.int .i64 0, by simp [results, Try.f24, go_sem], rfl, hB0⟩
  · have hd : decide (at_ < 0) = false := decide_eq_false h0
    by_cases h1 : (xs.length : Int) ≤ at_
    · rw [targetM, if_pos (.inr h1)]
      have hd1 : decide ((xs.length : Int) ≤ at_) = true := decide_eq_true h1
      gi_wp2
      exact ⟨.int .i64 0, by simp [results, Try.f24, go_sem], rfl, hB0⟩
    · rw [targetM, if_neg (by omega), show at_.toNat + 1 = (at_ + 1).toNat by omega]
      have hd1 : decide ((xs.length : Int) ≤ at_) = false := decide_eq_false h1
      obtain ⟨b, off, rfl, hcc⟩ := hI (by omega)
      gi_wp2_with fail
      refine ⟨trivial, ((callsIn_wide (n := 8)).2 (backward_calls _ _ _ _)).mono ?_⟩
      rintro e w' ⟨rfl, rfl⟩
      gi_wp2_with fail
      obtain ⟨ys, hys⟩ : ∃ ys, xs.take (at_ + 1).toNat = ys := ⟨_, rfl⟩
      have hyl : (at_ + 1).toNat = ys.length := by rw [← hys, List.length_take]; omega
      have hI2 : StAt w (some ⟨b, off, none⟩) ys := by rw [← hys]; exact stAt_take hI _
      have hyx : ys.length ≤ xs.length := by omega
      rw [hyl] at hys ⊢
      have hz := fun k hk h => tgt_zero (xs := xs) (n := ys.length) hyx k hk h
      have hla := fun k hk h => tgt_last (xs := xs) (n := ys.length) (k := k) hyx hk h
      rw [hys] at hz hla
      have b1 := Boxed.new (w.alloc (.cells #[.int .i64 0] 3)) 40 (.slice (some ⟨b, off, none⟩) ys.length cap)
      rw [World.size_alloc] at b1
      have B0 := b0.alloc (.cells #[.slice (some ⟨b, off, none⟩) ys.length cap] 40)
      have hB1 := hB0.alloc (by simp) (.cells #[.slice (some ⟨b, off, none⟩) ys.length cap] 40)
      have hs1 : ((w.alloc (.cells #[.int .i64 0] 3)).alloc (.cells #[.slice (some ⟨b, off, none⟩) ys.length cap] 40)).heap.size = w.heap.size + 2 := by simp
      obtain ⟨W0, hW0⟩ : ∃ W0, (w.alloc (.cells #[.int .i64 0] 3)).alloc (.cells #[.slice (some ⟨b, off, none⟩) ys.length cap] 40) = W0 := ⟨_, rfl⟩
      rw [hW0] at b1 B0 hB1 hs1 ⊢
      clear hW0 hB0 b0 q0
      refine wpIn_rangeFunc_d rfl (by omega) (gf := 67) (lb := #[.pointer (some ⟨w.heap.size + 1, 0, none⟩)]) (by simp [go_sem]) trivial (enters_of Try.func67 (by kernel_rfl) rfl)
        (back_stops 8 (w.heap.size + 1) w.heap.size (some ⟨b, off, none⟩) cap ys (by omega) W0 (by omega) b1.cell (hI2.below hB1) (fun ad hn he => by cases he; exact World.block_lt_of_cell? w _ (hcc 0 0 (by omega) (by decide)))) KpB.t (KpB.b (by omega) (by omega)) (Below.refl _ _) (fun _ => rfl)
        (fun pre W => (Boxed W w.heap.size 3 (.int .i64 0) ∧ ∀ p ∈ pre, p.2.target = 0) ∧ Below w.heap.size w W)
        (fun c pre W => (c = .ret ∧ ∃ ini last, pre = ini ++ [last] ∧ (∀ p ∈ ini, p.2.target = 0) ∧ last.2.target ≠ 0 ∧ Boxed W w.heap.size 3 (.int .i64 last.2.target)) ∧ Below w.heap.size w W)
        ?own1 ?own2 ⟨⟨B0, by simp⟩, hB1⟩
        (fun x b' => { tmps := #[.slice (some ⟨b, off, none⟩) xs.length cap, .int .i64 at_, undef, undef, .pointer (some ⟨w.heap.size, 0, none⟩), undef, .pointer (some ⟨b', 0, none⟩), .int .i64 at_, .bool false, .bool false, .int .i64 at_, .slice (some ⟨b, off, none⟩) xs.length cap, .int .i64 (xs.length : Int), .bool false, .bool false, .slice (some ⟨b, off, none⟩) xs.length cap, .int .i64 at_, .int .i64 (at_ + 1), .slice (some ⟨b, off, none⟩) ys.length cap, .func (.func 67) #[] #[.pointer (some ⟨w.heap.size + 1, 0, none⟩)], .int .i64 (x.1 : Int), .agg #[.int .i64 x.2.node, .int .i64 x.2.target, .int .i64 x.2.related, .bool x.2.cr, .bool x.2.cs], undef, undef, undef, undef, undef], defers := [] })
        (fun x => .cells #[.int .i64 x.2.node, .int .i64 x.2.target, .int .i64 x.2.related, .bool x.2.cr, .bool x.2.cs] 46)
        (KpB.a (by omega) (by omega)) ?assign ?body ?done ?stop
      case own1 => exact fun s X Y row hs hg hr => ⟨⟨hs.1.1.kept hg (boxed_notRow hs.1.1 fun r e => (hr r e).2), hs.1.2⟩, hs.2.grown hg hs.2.size fun k e => by have := (hr k e).1; omega⟩
      case own2 =>
        intro c s X Y row hs hg hr
        obtain ⟨⟨hc, ini, last, e1, e2, e3, e4⟩, hb⟩ := hs
        exact ⟨⟨hc, ini, last, e1, e2, e3, e4.kept hg (boxed_notRow e4 fun r e => (hr r e).2)⟩, hb.grown hg hb.size fun k e => by have := (hr k e).1; omega⟩
      case assign =>
        intro l2 x W K hK
        dsimp only [encBack]
        gi_wp2
        exact hK
      case body =>
        rintro l pre x b' W ⟨⟨hP, hne⟩, hB⟩ hb hbx hpl
        have hx : Blk W b' 46 _ := hbx
        have x1 := hx.cell 1
        simp at x1
        have q4 := hP.cell
        have z4' := hP.frozen
        by_cases ht : x.2.target = 0
        · have hd2 : (x.2.target != 0) = false := by simpa using ht
          have HB := Lib.hid hB
          clear hB
          gi_wp2
          exact ⟨KeepsFrom.refl _ _, KpB.refl _ _ _, ⟨hP, fun p hp => by
            rcases List.mem_append.1 hp with hp | hp
            · exact hne p hp
            · rw [List.mem_singleton] at hp
              rw [hp]
              exact ht⟩, HB.out⟩
        · have hd2 : (x.2.target != 0) = true := by simpa using ht
          have HB := Lib.hid hB
          clear hB
          gi_wp2
          exact ⟨(KeepsOthers.setCell _ _ _).from _, ⟨rfl, pre, x, rfl, hne, ht, hP.set _⟩, HB.out.setCell (Nat.le_refl _) _⟩
      case done =>
        rintro D zs W3 rfl hs3 rfl ⟨⟨hP, hne⟩, hB⟩ hK
        have hzz := hz ys.length (Nat.le_refl _) hne
        rw [Nat.sub_self] at hzz
        have q4 := hP.cell
        have z4' := hP.frozen
        have hk' := (KeepsOthers.setCell W3 ⟨w.heap.size, 0, none⟩ (.int .i64 0)).same _ _ hK rfl
        have hP2 := hP.set (.int .i64 0)
        have hB2 := hB.setCell (p := ⟨w.heap.size, 0, none⟩) (Nat.le_refl _) (.int .i64 0)
        have F1 := Lib.hid hB2
        have F2 := Lib.hid hP2
        have F3 := Lib.hid hzz
        clear hB hB2 hP2 hzz hz hla
        gi_wp2
        have hg := grownBy_putObj' (W3.setCell ⟨w.heap.size, 0, none⟩ (.int .i64 0)) W0.heap.size (.deferred none)
        have hc := (F2.out.kept hg (boxed_notRow F2.out fun r e => by cases e; exact ⟨_, hk', rfl⟩)).cell
        refine ⟨by simp, .inl ⟨_, _, rfl, run_takeDeferred hk', .int .i64 0, ?_, by rw [hyl, F3.out]; rfl, F1.out.grown hg F1.out.size fun k e => by cases e; omega⟩⟩
        simp [results, Try.f24, go_sem, hc]
      case stop =>
        rintro D c pre W3 rfl hs3 ⟨k, hk, hpre⟩ ⟨⟨rfl, ini, last, e1, e2, e3, hP⟩, hB⟩ hK
        have hres : tgtTo xs ys.length = last.2.target := by
          cases k with
          | zero =>
            rw [hpre] at e1
            have := congrArg List.length e1
            simp [upto] at this
          | succ k =>
            rw [hpre, upto_succ] at e1
            obtain ⟨h5, h6⟩ := List.append_inj' e1 rfl
            have h7 : backF ys k = last := by simpa using h6
            rw [← h5] at e2
            rw [← h7] at e3 ⊢
            rw [hz k (by omega) e2, hla k (by omega) e3]
        have hg := grownBy_putObj' W3 W0.heap.size (.deferred none)
        have hc := (hP.kept hg (boxed_notRow hP fun r e => by cases e; exact ⟨_, hK, rfl⟩)).cell
        have F1 := Lib.hid (hB.grown hg hB.size (fun k e => by cases e; omega))
        have F3 := Lib.hid hres
        clear hB hres hz hla e1 e2 e3 hpre
        generalize last.2.target = tv at *
        gi_wp2
        refine ⟨by simp, .inl ⟨_, _, rfl, run_takeDeferred hK, .int .i64 tv, ?_, by rw [hyl, F3.out], F1.out⟩⟩
        simp [results, Try.f24, go_sem, hc]
end Go.Proofs.Ytpmeffdcbjakoaa
