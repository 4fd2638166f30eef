/- walk.Each: its contract as an iterator. -/
import Derived.Test.YtjkidecaciomgaaIt0
import Derived.Test.YtjkidecaciomgaaSv2
import Derived.RegionIn
import Derived.RegionTactic
import Derived.Stop.RegionWithIn
import Derived.RangeFuncCalls
namespace Go.Proofs.Ytjkidecaciomgaa
set_option linter.unusedVariables false
set_option linter.unusedSimpArgs false
open Go.RowKit Go.Shelf

attribute [local go_sem] Oper.semAt_some

theorem room_none {F : Fence} (hd : F.depth = none) (k : Nat) : F.room k := fun d h => by rw [hd] at h; cases h
theorem round_any {F : Fence} (hd : F.depth = none) {m m' : Nat} {P : Program} {l : Nat} {f : FuncId} {tmps : Array Value} {assign body : Code} {w : World} {R : Ending → World → Prop}
    (h : RoundIn F m P l f tmps assign body w R) : RoundIn F m' P l f tmps assign body w R := ⟨h.1, fun c cs _ => h.2 c cs (room_none hd _)⟩
/-- A turn. -/
structure Tn where
  at' : Int
  ph : Int
  cap : Bool
deriving DecidableEq
def phM (x : St) (o : Int) : Int := if x.target = 0 then o else 2
def tnB (x : Nat × St) : Tn := ⟨x.1, phM x.2 1, true⟩
def tnF (i : Nat) (x : St) : Tn := ⟨i, phM x 3, false⟩
def turnsF (bub : Bool) : Nat → List St → List Tn
  | _, [] => []
  | i, x :: r => (if x.target = 0 ∧ bub = false then [] else [tnF i x]) ++ turnsF bub (i + 1) r
def turnsM (xs : List St) (bub : Bool) : List Tn := (upto (backF xs) xs.length).map tnB ++ turnsF bub 0 xs
theorem turnsF_snoc (bub : Bool) (x : St) : ∀ (xs : List St) (i : Nat), turnsF bub i (xs ++ [x]) = turnsF bub i xs ++ if x.target = 0 ∧ bub = false then [] else [tnF (i + xs.length) x]
  | [], i => by simp [turnsF]
  | y :: r, i => by
    rw [List.cons_append, turnsF, turnsF_snoc bub x r (i + 1), turnsF, List.append_assoc, List.length_cons, show i + 1 + r.length = i + (r.length + 1) by omega]
theorem turnsF_app (bub : Bool) (ys : List St) : ∀ (xs : List St) (i : Nat), turnsF bub i (xs ++ ys) = turnsF bub i xs ++ turnsF bub (i + xs.length) ys
  | [], i => by simp [turnsF]
  | y :: r, i => by
    rw [List.cons_append, turnsF, turnsF_app bub ys r (i + 1), turnsF, List.append_assoc, List.length_cons, show i + 1 + r.length = i + (r.length + 1) by omega]
theorem turnsF_len (bub : Bool) (xs : List St) (k : Nat) : (turnsF bub 0 (xs.take k)).length ≤ (turnsF bub 0 xs).length := by
  conv => rhs; rw [← List.take_append_drop k xs, turnsF_app, List.length_append]
  omega
theorem turns_pre {xs : List St} {bub : Bool} {k : Nat} {ys : List Tn} (h : turnsF bub 0 (xs.take (k + 1)) = turnsF bub 0 (xs.take k) ++ ys) : ((upto (backF xs) xs.length).map tnB ++ turnsF bub 0 (xs.take k) ++ ys) <+: turnsM xs bub := by
  refine ⟨turnsF bub (0 + (xs.take (k + 1)).length) (xs.drop (k + 1)), ?_⟩
  rw [turnsM, List.append_assoc _ _ ys, ← h, List.append_assoc, ← turnsF_app, List.take_append_drop]
theorem turns_pre0 {xs : List St} (bub : Bool) {k : Nat} (h : k ≤ xs.length) : (upto (backF xs) k).map tnB <+: turnsM xs bub := by
  have hp : ∀ (f : Nat → Nat × St) (d : Nat), upto f k <+: upto f (k + d) := fun f d => by
    refine ⟨(List.range d).map fun i => f (k + i), ?_⟩
    rw [upto, upto, List.range_add, List.map_append, List.map_map]
    rfl
  have h2 := hp (backF xs) (xs.length - k)
  rw [show k + (xs.length - k) = xs.length by omega] at h2
  obtain ⟨r, hr⟩ := h2
  exact ⟨r.map tnB ++ turnsF bub 0 xs, by rw [turnsM, ← List.append_assoc, ← List.map_append, hr]⟩
def encT (t : Tn) : Array Value := #[.agg #[.int .i64 t.at', .int .i64 t.ph, .bool t.cap]]
/-- What a round keeps for Each: what lay below n₀; two boxes; four blocks of its own. -/
structure KpE (n₀ Bp Bb lo : Nat) (A B : World) : Prop where
  bl : Below n₀ A B
  bp : B.heap[Bp]? = A.heap[Bp]?
  bb : B.heap[Bb]? = A.heap[Bb]?
  own : ∀ k, lo ≤ k → k < lo + 4 → B.heap[k]? = A.heap[k]?
  ko : KeepsFrom lo A B
theorem KpE.t {n₀ Bp Bb lo : Nat} {A B C : World} (h : KpE n₀ Bp Bb lo A B) (k : KpE n₀ Bp Bb lo B C) : KpE n₀ Bp Bb lo A C :=
  ⟨h.bl.trans k.bl, k.bp.trans h.bp, k.bb.trans h.bb, fun i h1 h2 => (k.own i h1 h2).trans (h.own i h1 h2), h.ko.trans k.ko⟩
theorem grown_drew (W : World) (row : Option Nat) : W.grownBy W.drew row := ⟨rfl, rfl, rfl, Nat.le_refl _, fun _ _ _ => rfl⟩
theorem phase_calls (x : St) (o : Int) (w : World) : Calls Try.prog 189 #[.agg #[.int .i64 x.node, .int .i64 x.target, .int .i64 x.related, .bool x.cr, .bool x.cs], .int .i64 o] w fun e w' => e = .returned (.int .i64 (phM x o)) ∧ w' = w.alloc (.cells #[.int .i64 x.node, .int .i64 x.target, .int .i64 x.related, .bool x.cr, .bool x.cs] 94) := by
  by_cases h : x.target = 0
  · rw [phM, if_pos h]
    have h' : (x.target == 0) = true := by simpa using h
    go_enter Try.func189, Try.ntmps189
    go_wp2
    go_ret
    exact ⟨rfl, by rw [h]⟩
  · rw [phM, if_neg h]
    have h' : (x.target == 0) = false := by simpa using h
    go_enter Try.func189, Try.ntmps189
    go_wp2
    go_ret
    exact ⟨rfl, rfl⟩
/-- What lies about while Each goes on. -/
structure EaX (n₀ Bp Bb lo l : Nat) (A : Option Addr) (cap : Nat) (xs : List St) (bub : Bool) (W W' : World) : Prop where
  c0 : Boxed W' lo 146 (.func (.yield l) #[] #[])
  c1 : Boxed W' Bp 68 (.slice A xs.length cap)
  c2 : Boxed W' Bb 4 (.bool bub)
  bl : Below n₀ W W'
theorem boxed_notRow {t : TypeId} {B : Nat} {v : Value} {W : World} {row : Option Nat} (h : Boxed W B t v) (hr : ∀ r, row = some r → ∃ o : Obj, W.heap[r]? = some o ∧ o.isCells = false) : some B ≠ row := fun e => by
  obtain ⟨o, ho, hc⟩ := hr B e.symm
  unfold Boxed at h
  rw [h] at ho
  cases ho
  cases hc
section
variable {n₀ Bp Bb lo l : Nat} {A : Option Addr} {cap : Nat} {xs : List St} {bub : Bool} {W W' W'' : World}
theorem EaX.grow {row : Option Nat} (h : EaX n₀ Bp Bb lo l A cap xs bub W W') (hg : W'.grownBy W'' row) (hr : ∀ r, row = some r → lo + 2 ≤ r ∧ ∃ o : Obj, W'.heap[r]? = some o ∧ o.isCells = false) (hlo : n₀ ≤ lo) (hs : n₀ ≤ W.heap.size) : EaX n₀ Bp Bb lo l A cap xs bub W W'' := by
  have hr' : ∀ r, row = some r → ∃ o : Obj, W'.heap[r]? = some o ∧ o.isCells = false := fun r e => (hr r e).2
  refine ⟨h.c0.kept hg (boxed_notRow h.c0 hr'), h.c1.kept hg (boxed_notRow h.c1 hr'), h.c2.kept hg (boxed_notRow h.c2 hr'), ?_⟩
  exact h.bl.grown hg (Nat.le_trans hs h.bl.size) (fun k e => by have := (hr k e).1; omega)
theorem EaX.turn (h : EaX n₀ Bp Bb lo l A cap xs bub W W') (hk : KpE n₀ Bp Bb lo W' W'') : EaX n₀ Bp Bb lo l A cap xs bub W W'' :=
  ⟨(hk.own lo (Nat.le_refl _) (by omega)).trans h.c0, hk.bp.trans h.c1, hk.bb.trans h.c2, h.bl.trans hk.bl⟩
end
theorem KeepsFrom.up {B B' : Nat} {W W' : World} (h : KeepsFrom B W W') (hB : B ≤ B') : KeepsFrom B' W W' := ⟨h.size, fun k o hk => h.same k o (by omega)⟩
theorem ea_goes {n₀ Bp Bb lo l : Nat} {A : Option Addr} {cap : Nat} {xs : List St} {bub : Bool} {W W3 W4 W5 : World} (hG : W3.grownBy W4 none) (hs : lo + 4 ≤ W3.heap.size) (hn : n₀ ≤ lo) (hX4 : EaX n₀ Bp Bb lo l A cap xs bub W W4) (hK : KpE n₀ Bp Bb lo W4 W5) :
    KeepsFrom (lo + 2) W3 W5 ∧ KpB n₀ (lo + 1) W3 W5 ∧ EaX n₀ Bp Bb lo l A cap xs bub W W5 := by
  have h1 : Below n₀ W3 W4 := (Below.refl n₀ W3).grown hG (by omega) (fun k e => by cases e)
  have h2 : W4.heap[lo + 1]? = W3.heap[lo + 1]? := hG.block (lo + 1) (by omega) (fun e => by cases e)
  exact ⟨(KeepsFrom.of_grownBy hG (fun j e => by cases e)).trans (KeepsFrom.up hK.ko (by omega)), ⟨h1.trans hK.bl, (hK.own (lo + 1) (by omega) (by omega)).trans h2⟩, hX4.turn hK⟩
set_option maxRecDepth 100000 in
set_option maxHeartbeats 4000000 in
theorem each1_c (n₀ Bp Bb : Nat) (A : Option Addr) (cap : Nat) (xs : List St) (bub : Bool) (hlen : xs.length ≤ 1000) (w : World) (lo : Nat) (hlo : w.heap.size ≤ lo) (hn₀ : n₀ ≤ w.heap.size)
    (hBp : Boxed w Bp 68 (.slice A xs.length cap)) (hBb : Boxed w Bb 4 (.bool bub)) (hI : StAt w A xs) (hb : ∀ ad, 0 < xs.length → A = some ad → ad.block < n₀) :
    SeqC Fence.wide 9 Try.prog 188 #[.pointer (some ⟨Bp, 0, none⟩), .pointer (some ⟨Bb, 0, none⟩)] encT (KpE n₀ Bp Bb lo) (fun ys => ys = turnsM xs bub) (fun pre => pre <+: turnsM xs bub) (turnsM xs bub).length lo 4 w := fun l J Jx W hsz hW hJ hJx hY h0 => by
  have b1 : Boxed W Bp 68 (.slice A xs.length cap) := (hW.block Bp (Array.getElem?_eq_some_iff.1 hBp).1).trans hBp
  have b2 : Boxed W Bb 4 (.bool bub) := (hW.block Bb (Array.getElem?_eq_some_iff.1 hBb).1).trans hBb
  have hIW := hI.below hW
  have hsW := hW.size
  have c1 := (b1.alloc (.cells #[.func (.yield l) #[] #[]] 146)).cell
  refine callsIn_of_wp_marks Try.func188 rfl trivial ?_ rfl
  simp only [Try.ntmps188, List.size_toArray, List.length_cons, List.length_nil, Nat.reduceAdd, Nat.reduceSub, Array.replicate_succ, Array.replicate_zero, List.push_toArray, List.append_toArray, List.nil_append, List.cons_append]
  gi_wp2_with fail
  refine ⟨trivial, ((callsIn_wide (n := 8)).2 (backward_calls _ _ _ _)).mono ?_⟩
  rintro e w' ⟨rfl, rfl⟩
  gi_wp2_with fail
  have x0 := (Boxed.new W 146 (.func (.yield l) #[] #[])).alloc (.cells #[.slice A xs.length cap] 68)
  have x1 := (b1.alloc (.cells #[.func (.yield l) #[] #[]] 146)).alloc (.cells #[.slice A xs.length cap] 68)
  have x2 := (b2.alloc (.cells #[.func (.yield l) #[] #[]] 146)).alloc (.cells #[.slice A xs.length cap] 68)
  have x3 := Boxed.new (W.alloc (.cells #[.func (.yield l) #[] #[]] 146)) 68 (.slice A xs.length cap)
  have xb : Below n₀ W ((W.alloc (.cells #[.func (.yield l) #[] #[]] 146)).alloc (.cells #[.slice A xs.length cap] 68)) := ((Below.refl _ W).alloc (by omega) _).alloc (by simp; omega) _
  have xJ : J [] ((W.alloc (.cells #[.func (.yield l) #[] #[]] 146)).alloc (.cells #[.slice A xs.length cap] 68)) := hJ.alloc _ (hJ.alloc _ h0)
  have xs2 : ((W.alloc (.cells #[.func (.yield l) #[] #[]] 146)).alloc (.cells #[.slice A xs.length cap] 68)).heap.size = lo + 2 := by simp; omega
  simp only [World.size_alloc, hsz] at x0 x3
  have xX : EaX n₀ Bp Bb lo l A cap xs bub W ((W.alloc (.cells #[.func (.yield l) #[] #[]] 146)).alloc (.cells #[.slice A xs.length cap] 68)) := ⟨x0, x1, x2, xb⟩
  have xi : StAt ((W.alloc (.cells #[.func (.yield l) #[] #[]] 146)).alloc (.cells #[.slice A xs.length cap] 68)) A xs := hIW.below (((Below.refl _ W).alloc (Nat.le_refl _) _).alloc (by simp) _)
  obtain ⟨W0, hW0⟩ : ∃ W0, (W.alloc (.cells #[.func (.yield l) #[] #[]] 146)).alloc (.cells #[.slice A xs.length cap] 68) = W0 := ⟨_, rfl⟩
  rw [hW0] at x3 xJ xX xs2 xb xi ⊢
  clear hW0 x0 x1 x2 c1
  have hN : (turnsM xs bub).length = xs.length + (turnsF bub 0 xs).length := by simp [turnsM, upto]
  refine wpIn_rangeFunc_d rfl (by omega) (gf := 182) (lb := #[.pointer (some ⟨lo + 1, 0, none⟩)]) (by simp [go_sem]) trivial (enters_of Try.func182 (by kernel_rfl) rfl)
    (back_stops 8 (lo + 1) n₀ A cap xs hlen W0 (by omega) x3.cell xi hb) KpB.t (KpB.b (by omega) (by omega)) (Below.refl _ _) (fun _ => rfl)
    (fun pre W' => J (pre.map tnB) W' ∧ EaX n₀ Bp Bb lo l A cap xs bub W W')
    (fun c pre W' => (c = .ret ∧ Jx (pre.map tnB) W') ∧ EaX n₀ Bp Bb lo l A cap xs bub W W')
    ?own1 ?own2 ⟨xJ, xX⟩
    (fun x b => { tmps := #[.func (.yield l) #[] #[], .pointer (some ⟨Bp, 0, none⟩), .pointer (some ⟨Bb, 0, none⟩), .pointer (some ⟨lo, 0, none⟩), .int .i64 (x.1 : Int), .pointer (some ⟨b, 0, none⟩), undef, undef, .slice A xs.length cap, .func (.func 182) #[] #[.pointer (some ⟨lo + 1, 0, none⟩)], .int .i64 (x.1 : Int), .agg #[.int .i64 x.2.node, .int .i64 x.2.target, .int .i64 x.2.related, .bool x.2.cr, .bool x.2.cs], undef, undef, undef, undef, undef, undef, undef, undef, undef, undef, undef, undef, undef, undef, undef, undef, undef, undef, undef, undef, undef, undef, undef, undef, undef, undef, undef, undef, undef], defers := [] })
    (fun x => .cells #[.int .i64 x.2.node, .int .i64 x.2.target, .int .i64 x.2.related, .bool x.2.cr, .bool x.2.cs] 94)
    (KpB.a (by omega) (by omega)) ?assign ?body ?done ?stop
  case own1 => exact fun s X Y row hs hg hr => ⟨hJ _ X Y row hs.1 hg (fun r e => ⟨by have := (hr r e).1; omega, (hr r e).2⟩), hs.2.grow hg (fun r e => ⟨by have := (hr r e).1; omega, (hr r e).2⟩) (by omega) (by omega)⟩
  case own2 => exact fun c s X Y row hs hg hr => ⟨⟨hs.1.1, hJx _ X Y row hs.1.2 hg (fun r e => ⟨by have := (hr r e).1; omega, (hr r e).2⟩)⟩, hs.2.grow hg (fun r e => ⟨by have := (hr r e).1; omega, (hr r e).2⟩) (by omega) (by omega)⟩
  case assign =>
    intro l2 x W3 K hK
    dsimp only [encBack]
    gi_wp2
    exact hK
  case body =>
    rintro l2 pre x b W3 ⟨hPJ, hX⟩ hbb hbx hpl
    have hx : Blk W3 b 94 _ := hbx
    have hbl := hx.lt
    have q0 := hX.c0.cell
    have y0 := hx.cell 0; have y1 := hx.cell 1; have y2 := hx.cell 2; have y3 := hx.cell 3; have y4 := hx.cell 4
    simp at y0 y1 y2 y3 y4
    obtain ⟨W4, hW4⟩ : ∃ W4, W4 = (W3.alloc (.cells #[.int .i64 x.2.node, .int .i64 x.2.target, .int .i64 x.2.related, .bool x.2.cr, .bool x.2.cs] 94)).drew := ⟨_, rfl⟩
    have hg4 : W3.grownBy W4 none := by rw [hW4]; exact ⟨rfl, rfl, rfl, by simp, fun k hk _ => Below.heap_alloc W3 _ k hk⟩
    have hX4 := hX.grow hg4 (fun r e => by cases e) (by omega) (by omega)
    have hJ4 := hJ _ _ _ none hPJ hg4 (fun r e => by cases e)
    obtain ⟨fn, tmps, assign, body, hy, hR⟩ := hY _ (tnB x) W4 hJ4 (by rw [hN, List.length_map]; omega) (by have := hg4.size; omega)
    have q4 := hX4.c0.cell
    rw [hW4] at hy hR q4
    dsimp only [encT, tnB] at hy
    have hR2 : RoundIn (Fence.wide.inRound l2) 6 Try.prog l fn tmps assign body (W3.alloc (.cells #[.int .i64 x.2.node, .int .i64 x.2.target, .int .i64 x.2.related, .bool x.2.cr, .bool x.2.cs] 94)).drew (fun e W' => ∃ tt : Bool, e = .returned (.bool tt) ∧ (if tt = true then J (pre.map tnB ++ [tnB x]) W' else Jx (pre.map tnB ++ [tnB x]) W') ∧ KpE n₀ Bp Bb lo (W3.alloc (.cells #[.int .i64 x.2.node, .int .i64 x.2.target, .int .i64 x.2.related, .bool x.2.cr, .bool x.2.cs] 94)).drew W') := RoundIn.mono (round_any rfl hR) (by
      rintro e W' (⟨rfl, h1, h2⟩ | ⟨rfl, h1, h2⟩)
      · exact ⟨true, rfl, h1, h2⟩
      · exact ⟨false, rfl, h1, h2⟩)
    subst hW4
    have HX := Lib.hid hX
    have HX4 := Lib.hid hX4
    have HG := Lib.hid hg4
    clear hPJ hX hX4 hJ4 hbx hx hg4 hR
    gi_wp2
    first | (gi_region_with (first | (refine ⟨trivial, (CallsIn.inRound l2 ((callsIn_wide).2 (phase_calls _ _ _))).mono ?_⟩; rintro e w' ⟨rfl, rfl⟩) | (refine RoundIn.mono hR2 ?_; rintro e W5 ⟨tt, rfl, hP, hKp⟩))) | fail
    all_goals
      obtain ⟨G1, G2, G3⟩ := ea_goes HG.out (by omega) (by omega) HX4.out hKp
      cases tt
      · rw [if_neg (by simp)] at hP
        gi_wp2
        exact ⟨by rw [xs2]; exact G1, ⟨rfl, by rw [List.map_append]; exact hP⟩, G3⟩
      · rw [if_pos rfl] at hP
        gi_wp2
        exact ⟨by rw [xs2]; exact G1, G2, by rw [List.map_append]; exact hP, G3⟩
  case done =>
    rintro D ys W3 rfl hs3 rfl ⟨hPJ, hX⟩ hK
    have c1 := hX.c1.cell
    rw [xs2] at hK hs3 ⊢
    clear x3 xJ xX xb xi b1 b2 hI hW hBp hBb h0
    gi_wp2
    gi_loopw [21] (fun i wr => ∃ k : Nat, k ≤ xs.length ∧ i = .int .i64 (k : Int) ∧ (J ((upto (backF xs) xs.length).map tnB ++ turnsF bub 0 (xs.take k)) wr ∧ EaX n₀ Bp Bb lo l A cap xs bub W wr) ∧ (wr.heap[lo + 2]? = some (.deferred (some [])) ∧ lo + 4 ≤ wr.heap.size)) (fun i _ => xs.length - (intOf i).toNat)
    case atStart => exact ⟨0, Nat.zero_le _, rfl, ⟨by simpa [turnsF] using hPJ, hX⟩, hK, by omega⟩
    case round =>
      obtain ⟨k, hk, rfl, ⟨hJs, hXs⟩, hD, hsz4⟩ := hrel
      by_cases hlt : k < xs.length
      · have hk' : ((k : Nat) : Int).toNat = k := by omega
        obtain ⟨b, off, rfl, e0, e1, e2, e3, e4⟩ := hIW.get hlt
        have hbl := hb _ (by omega) rfl
        simp only at hbl
        have d0 := (hXs.bl.cell (p := ⟨b, off + k * 5, none⟩) hbl).trans e0
        have d1 := (hXs.bl.cell (p := ⟨b, off + k * 5 + 1, none⟩) hbl).trans e1
        have d2 := (hXs.bl.cell (p := ⟨b, off + k * 5 + 2, none⟩) hbl).trans e2
        have d3 := (hXs.bl.cell (p := ⟨b, off + k * 5 + 3, none⟩) hbl).trans e3
        have d4 := (hXs.bl.cell (p := ⟨b, off + k * 5 + 4, none⟩) hbl).trans e4
        have htk : turnsF bub 0 (xs.take (k + 1)) = turnsF bub 0 (xs.take k) ++ if (xs.getD k default).target = 0 ∧ bub = false then [] else [tnF k (xs.getD k default)] := by
          rw [List.take_add_one, List.getElem?_eq_getElem hlt, Option.toList_some, turnsF_snoc, List.length_take, Nat.min_eq_left (by omega), Nat.zero_add, List.getD_eq_getElem?_getD, List.getElem?_eq_getElem hlt]
          rfl
        clear e0 e1 e2 e3 e4
        generalize xs.getD k default = x at *
        obtain ⟨nd, tg, rl, cr, cs⟩ := x
        dsimp only at d0 d1 d2 d3 d4 htk
        by_cases htg : tg = 0
        · subst htg
          have q2 := (hXs.c2.alloc (.cells #[.int .i64 nd, .int .i64 0, .int .i64 rl, .bool cr, .bool cs] 94)).cell
          cases bub with
          | false =>
            rw [if_pos ⟨rfl, rfl⟩, List.append_nil] at htk
            gi_wp2
            go_roundw
            case rel => exact ⟨k + 1, by omega, by go_num, ⟨by rw [htk]; exact hJ.alloc _ hJs, hXs.grow (World.grownBy_alloc wr _ none) (fun r e => by cases e) (by omega) (by omega)⟩, (Below.heap_alloc wr _ (lo + 2) (by omega)).trans hD, by simp; omega⟩
            case measure => simp [intOf]; omega
          | true =>
            rw [if_neg (by simp)] at htk
            have hlen2 : ((upto (backF xs) xs.length).map tnB ++ turnsF true 0 (xs.take k)).length < (turnsM xs true).length := by
              have := turnsF_len true xs (k + 1)
              rw [htk, List.length_append, List.length_singleton] at this
              rw [hN, List.length_append, List.length_map, upto_length]
              omega
            have hg5 : wr.grownBy (wr.alloc (.cells #[.int .i64 nd, .int .i64 0, .int .i64 rl, .bool cr, .bool cs] 94)) none := World.grownBy_alloc wr _ none
            have hX5 := hXs.grow hg5 (fun r e => by cases e) (by omega) (by omega)
            have b7 := (Blk.new wr 94 #[.int .i64 nd, .int .i64 0, .int .i64 rl, .bool cr, .bool cs])
            have y0 := b7.cell 0; have y1 := b7.cell 1; have y2 := b7.cell 2; have y3 := b7.cell 3; have y4 := b7.cell 4
            simp at y0 y1 y2 y3 y4
            have hg6 : wr.grownBy ((wr.alloc (.cells #[.int .i64 nd, .int .i64 0, .int .i64 rl, .bool cr, .bool cs] 94)).alloc (.cells #[.int .i64 nd, .int .i64 0, .int .i64 rl, .bool cr, .bool cs] 94)).drew none := ⟨rfl, rfl, rfl, by simp; omega, fun i hi _ => (Below.heap_alloc _ _ i (by simp; omega)).trans (Below.heap_alloc wr _ i hi)⟩
            have hX6 := hXs.grow hg6 (fun r e => by cases e) (by omega) (by omega)
            have hJ6 := hJ _ _ _ none hJs hg6 (fun r e => by cases e)
            obtain ⟨fn, tmps, assign, body, hy, hR⟩ := hY _ (tnF k ⟨nd, 0, rl, cr, cs⟩) _ hJ6 hlen2 (by have := hg6.size; omega)
            have q6 := hX6.c0.cell
            have q5 := hX5.c0.cell
            dsimp only [encT, tnF] at hy
            have hR2 : RoundIn Fence.wide 8 Try.prog l fn tmps assign body ((wr.alloc (.cells #[.int .i64 nd, .int .i64 0, .int .i64 rl, .bool cr, .bool cs] 94)).alloc (.cells #[.int .i64 nd, .int .i64 0, .int .i64 rl, .bool cr, .bool cs] 94)).drew (fun e W' => ∃ tt : Bool, e = .returned (.bool tt) ∧ (if tt = true then J ((upto (backF xs) xs.length).map tnB ++ turnsF true 0 (xs.take k) ++ [tnF k ⟨nd, 0, rl, cr, cs⟩]) W' else Jx ((upto (backF xs) xs.length).map tnB ++ turnsF true 0 (xs.take k) ++ [tnF k ⟨nd, 0, rl, cr, cs⟩]) W') ∧ KpE n₀ Bp Bb lo ((wr.alloc (.cells #[.int .i64 nd, .int .i64 0, .int .i64 rl, .bool cr, .bool cs] 94)).alloc (.cells #[.int .i64 nd, .int .i64 0, .int .i64 rl, .bool cr, .bool cs] 94)).drew W') := RoundIn.mono (round_any rfl hR) (by
              rintro e W' (⟨rfl, h1, h2⟩ | ⟨rfl, h1, h2⟩)
              · exact ⟨true, rfl, h1, h2⟩
              · exact ⟨false, rfl, h1, h2⟩)
            have HD := Lib.hid (hg6.block (lo + 2) (by omega) (fun e => by cases e))
            have HX6 := Lib.hid hX6
            have HT := Lib.hid htk
            have HS := Lib.hid hg6.size
            clear hX5 hX6 hJ6 hR hg5 hg6 hJs htk hlen2 hIW b7
            gi_wp2
            first | (gi_region_with (first | (refine ⟨trivial, ((callsIn_wide).2 (phase_calls ⟨nd, 0, rl, cr, cs⟩ 3 _)).mono ?_⟩; rintro e w' ⟨rfl, rfl⟩) | (refine RoundIn.mono hR2 ?_; rintro e W7 ⟨tt, rfl, hP, hKp⟩))) | fail
            all_goals
              have HDD := (hKp.own (lo + 2) (by omega) (by omega)).trans (HD.out.trans hD)
              have HSS := hKp.ko.size
              have HS' := HS.out
              clear HS
              cases tt
              · rw [if_neg (by simp)] at hP
                gi_wp2
                exact ⟨by simp, .inl ⟨_, _, rfl, run_takeDeferred HDD, .tuple #[], results_none rfl _ _ _, ⟨_, rfl⟩, .inr ⟨_, turns_pre HT.out, hJx.putObj _ hP (by omega) HDD rfl⟩⟩⟩
              · rw [if_pos rfl] at hP
                gi_wp2
                go_roundw
                case rel => exact ⟨k + 1, by omega, by go_num, ⟨by rw [HT.out, ← List.append_assoc]; exact hP, HX6.out.turn hKp⟩, HDD, by omega⟩
                case measure => simp [intOf]; omega
        · rw [if_neg (by simp [htg])] at htk
          have hlen2 : ((upto (backF xs) xs.length).map tnB ++ turnsF bub 0 (xs.take k)).length < (turnsM xs bub).length := by
            have := turnsF_len bub xs (k + 1)
            rw [htk, List.length_append, List.length_singleton] at this
            rw [hN, List.length_append, List.length_map, upto_length]
            omega
          have hg5 : wr.grownBy (wr.alloc (.cells #[.int .i64 nd, .int .i64 tg, .int .i64 rl, .bool cr, .bool cs] 94)) none := World.grownBy_alloc wr _ none
          have hX5 := hXs.grow hg5 (fun r e => by cases e) (by omega) (by omega)
          have b7 := (Blk.new wr 94 #[.int .i64 nd, .int .i64 tg, .int .i64 rl, .bool cr, .bool cs])
          have y0 := b7.cell 0; have y1 := b7.cell 1; have y2 := b7.cell 2; have y3 := b7.cell 3; have y4 := b7.cell 4
          simp at y0 y1 y2 y3 y4
          have hg6 : wr.grownBy ((wr.alloc (.cells #[.int .i64 nd, .int .i64 tg, .int .i64 rl, .bool cr, .bool cs] 94)).alloc (.cells #[.int .i64 nd, .int .i64 tg, .int .i64 rl, .bool cr, .bool cs] 94)).drew none := ⟨rfl, rfl, rfl, by simp; omega, fun i hi _ => (Below.heap_alloc _ _ i (by simp; omega)).trans (Below.heap_alloc wr _ i hi)⟩
          have hX6 := hXs.grow hg6 (fun r e => by cases e) (by omega) (by omega)
          have hJ6 := hJ _ _ _ none hJs hg6 (fun r e => by cases e)
          obtain ⟨fn, tmps, assign, body, hy, hR⟩ := hY _ (tnF k ⟨nd, tg, rl, cr, cs⟩) _ hJ6 hlen2 (by have := hg6.size; omega)
          have q6 := hX6.c0.cell
          have q5 := hX5.c0.cell
          dsimp only [encT, tnF] at hy
          have hR2 : RoundIn Fence.wide 8 Try.prog l fn tmps assign body ((wr.alloc (.cells #[.int .i64 nd, .int .i64 tg, .int .i64 rl, .bool cr, .bool cs] 94)).alloc (.cells #[.int .i64 nd, .int .i64 tg, .int .i64 rl, .bool cr, .bool cs] 94)).drew (fun e W' => ∃ tt : Bool, e = .returned (.bool tt) ∧ (if tt = true then J ((upto (backF xs) xs.length).map tnB ++ turnsF bub 0 (xs.take k) ++ [tnF k ⟨nd, tg, rl, cr, cs⟩]) W' else Jx ((upto (backF xs) xs.length).map tnB ++ turnsF bub 0 (xs.take k) ++ [tnF k ⟨nd, tg, rl, cr, cs⟩]) W') ∧ KpE n₀ Bp Bb lo ((wr.alloc (.cells #[.int .i64 nd, .int .i64 tg, .int .i64 rl, .bool cr, .bool cs] 94)).alloc (.cells #[.int .i64 nd, .int .i64 tg, .int .i64 rl, .bool cr, .bool cs] 94)).drew W') := RoundIn.mono (round_any rfl hR) (by
            rintro e W' (⟨rfl, h1, h2⟩ | ⟨rfl, h1, h2⟩)
            · exact ⟨true, rfl, h1, h2⟩
            · exact ⟨false, rfl, h1, h2⟩)
          have HD := Lib.hid (hg6.block (lo + 2) (by omega) (fun e => by cases e))
          have HX6 := Lib.hid hX6
          have HT := Lib.hid htk
          have HS := Lib.hid hg6.size
          clear hX5 hX6 hJ6 hR hg5 hg6 hJs htk hlen2 hIW b7
          gi_wp2
          first | (gi_region_with (first | (refine ⟨trivial, ((callsIn_wide).2 (phase_calls ⟨nd, tg, rl, cr, cs⟩ 3 _)).mono ?_⟩; rintro e w' ⟨rfl, rfl⟩) | (refine RoundIn.mono hR2 ?_; rintro e W7 ⟨tt, rfl, hP, hKp⟩))) | fail
          all_goals
            have HDD := (hKp.own (lo + 2) (by omega) (by omega)).trans (HD.out.trans hD)
            have HSS := hKp.ko.size
            have HS' := HS.out
            clear HS
            cases tt
            · rw [if_neg (by simp)] at hP
              gi_wp2
              exact ⟨by simp, .inl ⟨_, _, rfl, run_takeDeferred HDD, .tuple #[], results_none rfl _ _ _, ⟨_, rfl⟩, .inr ⟨_, turns_pre HT.out, hJx.putObj _ hP (by omega) HDD rfl⟩⟩⟩
            · rw [if_pos rfl] at hP
              gi_wp2
              go_roundw
              case rel => exact ⟨k + 1, by omega, by go_num, ⟨by rw [HT.out, ← List.append_assoc]; exact hP, HX6.out.turn hKp⟩, HDD, by omega⟩
              case measure => simp [intOf]; omega
      · obtain rfl : k = xs.length := by omega
        gi_wp2
        exact ⟨by simp, .inl ⟨_, _, rfl, run_takeDeferred hD, .tuple #[], results_none rfl _ _ _, ⟨_, rfl⟩, .inl ⟨_, rfl, hJ.putObj _ (by rw [List.take_length] at hJs; exact hJs) (by omega) hD rfl⟩⟩⟩
  case stop =>
    rintro D c pre W3 rfl hs3 ⟨kk, hkk, rfl⟩ ⟨⟨rfl, hPJ⟩, hX⟩ hK
    gi_wp2
    exact ⟨by simp, .inl ⟨_, _, rfl, run_takeDeferred hK, .tuple #[], results_none rfl _ _ _, ⟨_, rfl⟩, .inr ⟨_, turns_pre0 bub hkk, hJx.putObj _ hPJ (by omega) hK rfl⟩⟩⟩
end Go.Proofs.Ytjkidecaciomgaa
