/- walk.Clears. -/
import Derived.Test.YtjkidecaciomgaaWc1
import Derived.Test.YtjkidecaciomgaaIt3
namespace Go.Proofs.Ytjkidecaciomgaa
set_option linter.unusedVariables false
set_option linter.unusedSimpArgs false
open Go.RowKit Go.Shelf

attribute [local go_sem] Oper.semAt_some

theorem keeps_below {B : Nat} {W W' : World} (h : Below W.heap.size W W') : KeepsFrom B W W' := ⟨h.size, fun k o _ hk _ => (h.block k (Array.getElem?_eq_some_iff.1 hk).1).trans hk⟩
theorem box_below {B : Nat} {t : TypeId} {u : Value} {W W' : World} (h : Boxed W B t u) (hb : Below W.heap.size W W') : Boxed W' B t u := (hb.block B h.lt).trans h
theorem cl_zero {l : List Nd} {xs : List St} : ∀ k, k ≤ xs.length → (∀ p ∈ upto (backF xs) k, p.2.target = 0) → clTo l xs xs.length = clTo l xs (xs.length - k)
  | 0, _, _ => rfl
  | k + 1, hk, h => by
    rw [cl_zero k (by omega) fun p hp => h p (by rw [upto_succ]; exact List.mem_append_left _ hp)]
    have h1 := h (backF xs k) (by rw [upto_succ]; simp)
    have hx : xs[xs.length - k - 1]? = some xs[xs.length - k - 1] := List.getElem?_eq_getElem (by omega)
    have e : (backF xs k).2 = xs[xs.length - k - 1] := by
      simp only [backF]
      rw [List.getD_eq_getElem?_getD, show xs.length - 1 - k = xs.length - k - 1 by omega, hx]
      rfl
    rw [e] at h1
    rw [show xs.length - k = (xs.length - k - 1) + 1 by omega, clTo_succ hx, if_pos h1, show xs.length - (k + 1) = xs.length - k - 1 by omega]
theorem cl_last {l : List Nd} {xs : List St} {k : Nat} (hk : k < xs.length) (h : (backF xs k).2.target ≠ 0) : clTo l xs (xs.length - k) = (shadedM l (backF xs k).2.target || shadedM l (backF xs k).2.related) := by
  obtain ⟨x, hx⟩ : ∃ x, xs[xs.length - k - 1]? = some x := ⟨_, List.getElem?_eq_getElem (by omega)⟩
  have e : (backF xs k).2 = x := by
    simp only [backF]
    rw [List.getD_eq_getElem?_getD, show xs.length - 1 - k = xs.length - k - 1 by omega, hx]
    rfl
  rw [e] at h ⊢
  rw [show xs.length - k = (xs.length - k - 1) + 1 by omega, clTo_succ hx, if_neg h]
set_option maxRecDepth 100000 in
set_option maxHeartbeats 2000000 in
theorem clears_calls {l : List Nd} (hw : WF l) {ι : Nat → Value} {S : Bl} (fb fo : Nat) (A : Option Addr) (cap : Nat) (xs : List St) (hlen : xs.length ≤ 1000) (w : World) (hI : StAt w A xs) (hAl : ∀ ad, 0 < xs.length → A = some ad → ad.block < w.heap.size) (hv : AVR ι S w (forA l) (.pointer (some ⟨fb, fo, none⟩))) (hS : ∀ k, S k → k < w.heap.size) :
    Calls Try.prog 79 #[.pointer (some ⟨fb, fo, none⟩), .slice A xs.length cap] w fun e w' => e = .returned (.bool (clTo l xs xs.length)) ∧ Below w.heap.size w w' := by
  refine callsIn_wide (n := 9).1 ?_
  refine callsIn_of_wp_marks Try.func79 rfl trivial ?_ rfl
  simp only [Try.ntmps79, List.size_toArray, List.length_cons, List.length_nil, Nat.reduceAdd, Nat.reduceSub, Array.replicate_succ, Array.replicate_zero, List.push_toArray, List.append_toArray, List.nil_append, List.cons_append]
  have b0 := Boxed.new w 25 (.pointer (some ⟨fb, fo, none⟩))
  have hB0 : Below w.heap.size w (w.alloc (.cells #[.pointer (some ⟨fb, fo, none⟩)] 25)) := (Below.refl _ w).alloc (Nat.le_refl _) _
  have hz := fun k hk h => cl_zero (l := l) (xs := xs) k hk h
  have hla := fun k hk h => cl_last (l := l) (xs := xs) (k := k) hk h
  have hsh := fun (W : World) (hb : Below w.heap.size w W) (id : Int) => shaded_at hw hv hS hb id
  clear hv
  gi_wp2_with fail
  refine ⟨trivial, ((callsIn_wide (n := 8)).2 (backward_calls _ _ _ _)).mono ?_⟩
  rintro e w' ⟨rfl, rfl⟩
  gi_wp2_with fail
  have b1 := Boxed.new (w.alloc (.cells #[.pointer (some ⟨fb, fo, none⟩)] 25)) 4 (.bool false)
  rw [World.size_alloc] at b1
  have B0 := b0.alloc (.cells #[.bool false] 4)
  have hB1 := hB0.alloc (by simp) (.cells #[.bool false] 4)
  have b2 := Boxed.new ((w.alloc (.cells #[.pointer (some ⟨fb, fo, none⟩)] 25)).alloc (.cells #[.bool false] 4)) 68 (.slice A xs.length cap)
  rw [World.size_alloc, World.size_alloc] at b2
  have B02 := B0.alloc (.cells #[.slice A xs.length cap] 68)
  have B12 := b1.alloc (.cells #[.slice A xs.length cap] 68)
  have hB2 := hB1.alloc (by simp; omega) (.cells #[.slice A xs.length cap] 68)
  have hs1 : (((w.alloc (.cells #[.pointer (some ⟨fb, fo, none⟩)] 25)).alloc (.cells #[.bool false] 4)).alloc (.cells #[.slice A xs.length cap] 68)).heap.size = w.heap.size + 3 := by simp
  obtain ⟨W0, hW0⟩ : ∃ W0, ((w.alloc (.cells #[.pointer (some ⟨fb, fo, none⟩)] 25)).alloc (.cells #[.bool false] 4)).alloc (.cells #[.slice A xs.length cap] 68) = W0 := ⟨_, rfl⟩
  rw [hW0] at b2 B02 B12 hB2 hs1 ⊢
  clear hW0 hB0 hB1 b0 b1 B0
  refine wpIn_rangeFunc_d rfl (by omega) (gf := 182) (lb := #[.pointer (some ⟨w.heap.size + 1 + 1, 0, none⟩)]) (by simp [go_sem]) trivial (enters_of Try.func182 (by kernel_rfl) rfl)
    (back_stops 8 (w.heap.size + 1 + 1) w.heap.size A cap xs (by omega) W0 (by omega) b2.cell (hI.below hB2) hAl) KpB.t (KpB.b (by omega) (by omega)) (Below.refl _ _) (fun _ => rfl)
    (fun pre W => ((Boxed W w.heap.size 25 (.pointer (some ⟨fb, fo, none⟩)) ∧ Boxed W (w.heap.size + 1) 4 (.bool false)) ∧ ∀ p ∈ pre, p.2.target = 0) ∧ Below w.heap.size w W)
    (fun c pre W => (c = .ret ∧ ∃ ini last, pre = ini ++ [last] ∧ (∀ p ∈ ini, p.2.target = 0) ∧ last.2.target ≠ 0 ∧ Boxed W (w.heap.size + 1) 4 (.bool (shadedM l last.2.target || shadedM l last.2.related))) ∧ Below w.heap.size w W)
    ?own1 ?own2 ⟨⟨⟨B02, B12⟩, by simp⟩, hB2⟩
    (fun x b' => { tmps := #[.pointer (some ⟨fb, fo, none⟩), .slice A xs.length cap, .pointer (some ⟨w.heap.size, 0, none⟩), undef, .pointer (some ⟨w.heap.size + 1, 0, none⟩), undef, .pointer (some ⟨b', 0, none⟩), .slice A xs.length cap, .func (.func 182) #[] #[.pointer (some ⟨w.heap.size + 1 + 1, 0, none⟩)], .int .i64 (x.1 : Int), .agg #[.int .i64 x.2.node, .int .i64 x.2.target, .int .i64 x.2.related, .bool x.2.cr, .bool x.2.cs], undef, undef, undef, undef, undef, undef, undef, undef, undef, undef, undef, undef, undef], defers := [] })
    (fun x => .cells #[.int .i64 x.2.node, .int .i64 x.2.target, .int .i64 x.2.related, .bool x.2.cr, .bool x.2.cs] 94)
    (KpB.a (by omega) (by omega)) ?assign ?body ?done ?stop
  case own1 => exact fun s X Y row hs hg hr => ⟨⟨⟨hs.1.1.1.kept hg (boxed_notRow hs.1.1.1 fun r e => (hr r e).2), hs.1.1.2.kept hg (boxed_notRow hs.1.1.2 fun r e => (hr r e).2)⟩, hs.1.2⟩, hs.2.grown hg hs.2.size fun k e => by have := (hr k e).1; omega⟩
  case own2 =>
    intro c s X Y row hs hg hr
    obtain ⟨⟨hc, ini, last, e1, e2, e3, e4⟩, hb⟩ := hs
    exact ⟨⟨hc, ini, last, e1, e2, e3, e4.kept hg (boxed_notRow e4 fun r e => (hr r e).2)⟩, hb.grown hg hb.size fun k e => by have := (hr k e).1; omega⟩
  case assign =>
    intro l2 x W K hK
    dsimp only [encBack]
    gi_wp2
    exact hK
  case body =>
    rintro l2 pre x b' W ⟨⟨⟨hF, hP⟩, hne⟩, hB⟩ hb hbx hpl
    have hx : Blk W b' 94 _ := hbx
    have hlx : b' < W.heap.size := (Array.getElem?_eq_some_iff.1 hbx).1
    have x1 := hx.cell 1; have x2 := hx.cell 2
    simp at x1 x2
    have q2 := hF.cell
    have q4 := hP.cell
    have z4' := hP.frozen
    by_cases ht : x.2.target = 0
    · have hd2 : (x.2.target != 0) = false := by simpa using ht
      have HB := Lib.hid hB
      clear hB
      gi_wp2
      exact ⟨KeepsFrom.refl _ _, KpB.refl _ _ _, ⟨⟨hF, hP⟩, fun p hp => by
        rcases List.mem_append.1 hp with hp | hp
        · exact hne p hp
        · rw [List.mem_singleton] at hp
          rw [hp]
          exact ht⟩, HB.out⟩
    · have hd2 : (x.2.target != 0) = true := by simpa using ht
      have HB := Lib.hid hB
      have c1 := hsh W hB x.2.target
      have c2 := fun (W' : World) (h : Below W.heap.size W W') => hsh W' (hB.trans (h.mono hB.size)) x.2.related
      obtain ⟨u1, hu1⟩ : ∃ u1, shadedM l x.2.target = u1 := ⟨_, rfl⟩
      obtain ⟨u2, hu2⟩ : ∃ u2, shadedM l x.2.related = u2 := ⟨_, rfl⟩
      have HR := Lib.hid (show (shadedM l x.2.target || shadedM l x.2.related) = (u1 || u2) by rw [hu1, hu2])
      rw [hu1] at c1
      rw [hu2] at c2
      clear hB hu1 hu2
      clear q2 q4 z4' x1 x2
      have x1 := hx.cell 1
      have q2 := hF.cell
      simp at x1
      gi_wp2_with fail
      refine ⟨trivial, (CallsIn.inRound l2 ((callsIn_wide).2 c1)).mono ?_⟩
      rintro e w1 ⟨rfl, hb1⟩
      have hF1 := box_below hF hb1
      have hP1 := box_below hP hb1
      have hx1 : Blk w1 b' 94 _ := (hb1.block b' hlx).trans hbx
      clear x1 q2
      have x2 := hx1.cell 2
      simp at x2
      have q2 := hF1.cell
      have c3 := c2 w1 hb1
      clear c1 c2
      cases u1
      · gi_wp2_with fail
        refine ⟨trivial, (CallsIn.inRound l2 ((callsIn_wide).2 c3)).mono ?_⟩
        rintro e w2 ⟨rfl, hb2⟩
        have hP2 := box_below hP1 hb2
        have q4 := hP2.cell
        have z4' := hP2.frozen
        have hbt : Below W.heap.size W w2 := hb1.trans (hb2.mono hb1.size)
        have HX := Lib.hid hbt
        clear x2 q2 c3 hb1 hb2 hbt
        gi_wp2
        exact ⟨(keeps_below HX.out).trans ((KeepsOthers.setCell _ _ _).from _), ⟨rfl, pre, x, rfl, hne, ht, by rw [HR.out]; exact hP2.set _⟩, (HB.out.trans (HX.out.mono HB.out.size)).setCell (by simp) _⟩
      · have q4 := hP1.cell
        have z4' := hP1.frozen
        have HX := Lib.hid hb1
        clear x2 q2 c3 hb1
        gi_wp2
        refine ⟨trivial, ?_⟩
        gi_wp2
        exact ⟨(keeps_below HX.out).trans ((KeepsOthers.setCell _ _ _).from _), ⟨rfl, pre, x, rfl, hne, ht, by rw [HR.out]; exact hP1.set _⟩, (HB.out.trans (HX.out.mono HB.out.size)).setCell (by simp) _⟩
  case done =>
    rintro D zs W3 rfl hs3 rfl ⟨⟨⟨hF, hP⟩, hne⟩, hB⟩ hK
    have hzz := hz xs.length (Nat.le_refl _) hne
    rw [Nat.sub_self] at hzz
    have q4 := hP.cell
    have z4' := hP.frozen
    have hk' := (KeepsOthers.setCell W3 ⟨w.heap.size + 1, 0, none⟩ (.bool false)).same _ _ hK rfl
    have hP2 := hP.set (.bool false)
    have hB2 := hB.setCell (p := ⟨w.heap.size + 1, 0, none⟩) (by simp) (.bool false)
    have F1 := Lib.hid hB2
    have F2 := Lib.hid hP2
    have F3 := Lib.hid hzz
    clear hB hB2 hP2 hzz hz hla
    gi_wp2
    have hg := grownBy_putObj' (W3.setCell ⟨w.heap.size + 1, 0, none⟩ (.bool false)) W0.heap.size (.deferred none)
    have hc := (F2.out.kept hg (boxed_notRow F2.out fun r e => by cases e; exact ⟨_, hk', rfl⟩)).cell
    refine ⟨by simp, .inl ⟨_, _, rfl, run_takeDeferred hk', .bool false, ?_, by rw [F3.out]; rfl, F1.out.grown hg F1.out.size fun k e => by cases e; omega⟩⟩
    simp [results, Try.f79, go_sem, hc]
  case stop =>
    rintro D c pre W3 rfl hs3 ⟨k, hk, hpre⟩ ⟨⟨rfl, ini, last, e1, e2, e3, hP⟩, hB⟩ hK
    have hres : clTo l xs xs.length = (shadedM l last.2.target || shadedM l last.2.related) := by
      cases k with
      | zero =>
        rw [hpre] at e1
        have := congrArg List.length e1
        simp [upto] at this
      | succ k =>
        rw [hpre, upto_succ] at e1
        obtain ⟨h5, h6⟩ := List.append_inj' e1 rfl
        have h7 : backF xs k = last := by simpa using h6
        rw [← h5] at e2
        rw [← h7] at e3 ⊢
        rw [hz k (by omega) e2, hla k (by omega) e3]
    have hg := grownBy_putObj' W3 W0.heap.size (.deferred none)
    have hc := (hP.kept hg (boxed_notRow hP fun r e => by cases e; exact ⟨_, hK, rfl⟩)).cell
    have F1 := Lib.hid (hB.grown hg hB.size (fun k e => by cases e; omega))
    have F3 := Lib.hid hres
    clear hB hres hz hla e1 e2 e3 hpre
    generalize (shadedM l last.2.target || shadedM l last.2.related) = tv at *
    gi_wp2
    refine ⟨by simp, .inl ⟨_, _, rfl, run_takeDeferred hK, .bool tv, ?_, by rw [F3.out], F1.out⟩⟩
    simp [results, Try.f79, go_sem, hc]
theorem clears_f {l : List Nd} (hw : WF l) (xs : List St) (hlen : xs.length ≤ 1000) : Fun Try.prog 79 [forA l, .sem (listS stE xs)] [] (.v (.bool (clTo l xs xs.length))) [] := fun ι F S w vals hh hv => by
  simp only [AVRs] at hv
  obtain ⟨u, r, rfl, h1, u2, r2, rfl, h2, rfl⟩ := hv
  have h1' := h1
  simp only [AVR] at h1' h2
  obtain ⟨fb, fo, rfl, _⟩ := h1'
  obtain ⟨A, c, rfl, hc, hr⟩ := h2
  refine (clears_calls hw fb fo A c xs hlen w (list_stAt16 hr) (fun ad hn he => ?_) h1 hh.bnd).mono fun e w' ⟨he, hb⟩ => ?_
  · obtain ⟨b, off, hA, hcc⟩ := list_stAt16 hr hn
    rw [hA] at he
    cases he
    exact World.block_lt_of_cell? w _ (hcc 0 0 hn (by decide))
  · exact ⟨ι, F, S, _, he, ⟨fun _ _ _ h => (by cases h), fun _ _ h => (by cases h), fun _ _ _ _ h => (by cases h), fun _ _ h => (by cases h), fun k hk => Nat.lt_of_lt_of_le (hh.bnd k hk) hb.size⟩, by simp [AVR], ⟨fun _ h => h, fun k _ hk => hb.block k hk⟩, fun _ _ _ _ => rfl, But.of_below hb, fun k hk => .inl hk, fun _ _ h => (by cases h)⟩
end Go.Proofs.Ytjkidecaciomgaa
