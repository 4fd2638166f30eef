/- see.place: a node's place in a path, from behind, and the level there. -/
import Derived.Test.YtjkidecaciomgaaSv2
import Derived.Test.YtjkidecaciomgaaSv0
import Derived.RegionIn
import Derived.RegionTactic
namespace Go.Proofs.Ytjkidecaciomgaa
set_option linter.unusedVariables false
set_option linter.unusedSimpArgs false
open Go.RowKit Go.Shelf

attribute [local go_sem] Oper.semAt_some

def b2i (b : Bool) : Int := if b then 1 else 0
/-- From behind: the place of the first entry of the node, and the level there. -/
def plL (node : Int) : List (Nat × St) → Int → Int × Int
  | [], _ => (-1, 0)
  | x :: r, lv => if x.2.node = node then ((x.1 : Int), lv + b2i x.2.cr) else plL node r (lv + b2i x.2.cr - b2i x.2.cs)
def net : List (Nat × St) → Int
  | [] => 0
  | x :: r => b2i x.2.cr - b2i x.2.cs + net r
theorem net_append (a b : List (Nat × St)) : net (a ++ b) = net a + net b := by
  induction a with
  | nil => simp [net]
  | cons x r ih => simp only [List.cons_append, net, ih]; omega
theorem net_bound (a : List (Nat × St)) : -(a.length : Int) ≤ net a ∧ net a ≤ a.length := by
  induction a with
  | nil => simp [net]
  | cons x r ih =>
    have : -1 ≤ b2i x.2.cr - b2i x.2.cs ∧ b2i x.2.cr - b2i x.2.cs ≤ 1 := by unfold b2i; split <;> split <;> omega
    simp only [net, List.length_cons]; omega
theorem plL_append (node : Int) (a b : List (Nat × St)) (lv : Int) (h : ∀ p ∈ a, p.2.node ≠ node) : plL node (a ++ b) lv = plL node b (lv + net a) := by
  induction a generalizing lv with
  | nil => simp [net]
  | cons x r ih =>
    rw [List.cons_append, plL, if_neg (h x (by simp)), ih _ (fun p hp => h p (by simp [hp]))]
    simp only [net]
    congr 1; omega
def placeP (xs : List St) (node : Int) : Int × Int := plL node (upto (backF xs) xs.length) 0

theorem upto_prefix {α : Type} (f : Nat → α) {k n : Nat} (h : k ≤ n) : ∃ r, upto f n = upto f k ++ r := by
  obtain ⟨d, rfl⟩ := Nat.exists_eq_add_of_le h
  induction d with
  | zero => exact ⟨[], by simp⟩
  | succ d ih =>
    obtain ⟨r, hr⟩ := ih (by omega)
    exact ⟨r ++ [f (k + d)], by rw [← Nat.add_assoc, upto_succ, hr, List.append_assoc]⟩

/-- The cells that the loop's body writes. -/
structure PlC (w W : World) (node at_ lv : Int) : Prop where
  c0 : Boxed W w.heap.size 3 (.int .i64 node)
  c1 : Boxed W (w.heap.size + 1) 3 (.int .i64 at_)
  c2 : Boxed W (w.heap.size + 1 + 1) 3 (.int .i64 lv)

theorem PlC.own {α : Type} (w : World) (node : Int) (f g : List α → Int) : Own (fun (s : List α) W => PlC w W node (f s) (g s)) := fun s A B row h hg hr => by
  have ne : ∀ (b : Nat) (t : TypeId) (v : Value), Boxed A b t v → some b ≠ row := fun b t v hb e => by
    obtain ⟨o, ho, hc⟩ := hr b e.symm
    unfold Boxed at hb
    rw [hb] at ho
    cases ho
    simp [Obj.isCells] at hc
  exact ⟨h.c0.kept hg (ne _ _ _ h.c0), h.c1.kept hg (ne _ _ _ h.c1), h.c2.kept hg (ne _ _ _ h.c2)⟩

section
variable {w W W' : World} {node at_ lw : Int}
theorem PlC.slv (h : PlC w W node at_ lw) (v : Int) : PlC w (W.setCell ⟨w.heap.size + 1 + 1, 0, none⟩ (.int .i64 v)) node at_ v :=
  ⟨Blk.far h.c0 (p := ⟨w.heap.size + 1 + 1, 0, none⟩) (by simp; omega) _, Blk.far h.c1 (p := ⟨w.heap.size + 1 + 1, 0, none⟩) (by simp) _, h.c2.set _⟩
theorem PlC.at' (h : PlC w W node at_ lw) (v : Int) : PlC w (W.setCell ⟨w.heap.size + 1, 0, none⟩ (.int .i64 v)) node v lw :=
  ⟨Blk.far h.c0 (p := ⟨w.heap.size + 1, 0, none⟩) (by simp) _, h.c1.set _, Blk.far h.c2 (p := ⟨w.heap.size + 1, 0, none⟩) (by simp) _⟩
theorem PlC.drew (h : PlC w W node at_ lw) : PlC w W.drew node at_ lw := ⟨h.c0, h.c1, h.c2⟩
/-- What the body's stores keep. -/
structure PlK (w W W' : World) : Prop where
  ko : KeepsOthers W W'
  kp : KpB w.heap.size (w.heap.size + 3) W W'
  bl : Below w.heap.size w W → Below w.heap.size w W'
theorem PlK.refl : PlK w W W := ⟨KeepsOthers.refl _, KpB.refl _ _ _, id⟩
theorem PlK.slv (h : PlK w W W') (v : Value) : PlK w W (W'.setCell ⟨w.heap.size + 1 + 1, 0, none⟩ v) :=
  ⟨h.ko.trans (KeepsOthers.setCell _ _ _), h.kp.set (by show w.heap.size ≤ w.heap.size + 1 + 1; omega) (by show w.heap.size + 1 + 1 ≠ w.heap.size + 3; omega) _, fun b => (h.bl b).setCell (by show w.heap.size ≤ w.heap.size + 1 + 1; omega) _⟩
theorem PlK.at' (h : PlK w W W') (v : Value) : PlK w W (W'.setCell ⟨w.heap.size + 1, 0, none⟩ v) :=
  ⟨h.ko.trans (KeepsOthers.setCell _ _ _), h.kp.set (by show w.heap.size ≤ w.heap.size + 1; omega) (by show w.heap.size + 1 ≠ w.heap.size + 3; omega) _, fun b => (h.bl b).setCell (by show w.heap.size ≤ w.heap.size + 1; omega) _⟩
/-- A round that goes on. -/
theorem pl_goes {B : Nat} {pre : List (Nat × St)} {x : Nat × St} {v : Int} (hP : PlC w W node 0 lw) (hB : Below w.heap.size w W) (hne : ∀ p ∈ pre, p.2.node ≠ node) (hn : ¬ x.2.node = node) (hv : net (pre ++ [x]) = v)
    (hk : PlK w W W') (hc : PlC w W' node 0 v) : KeepsFrom B W W' ∧ KpB w.heap.size (w.heap.size + 3) W W' ∧ (PlC w W' node 0 (net (pre ++ [x])) ∧ ∀ p ∈ pre ++ [x], p.2.node ≠ node) ∧ Below w.heap.size w W' := by
  refine ⟨hk.ko.from _, hk.kp, ⟨by rw [hv]; exact hc, fun p hp => ?_⟩, hk.bl hB⟩
  rcases List.mem_append.1 hp with hp | hp
  · exact hne p hp
  · simp at hp; subst hp; exact hn
/-- Where the call leaves: the results' cells, and the frame. -/
theorem pl_leave {D : Nat} (hP : PlC w W node at_ lw) (hK : W.heap[D]? = some (.deferred (some []))) (hD : w.heap.size ≤ D) (hB : Below w.heap.size w W) :
    (W.putObj D (.deferred none)).cell? ⟨w.heap.size + 1, 0, none⟩ = some (.int .i64 at_) ∧ (W.putObj D (.deferred none)).cell? ⟨w.heap.size + 1 + 1, 0, none⟩ = some (.int .i64 lw) ∧ Below w.heap.size w (W.putObj D (.deferred none)) :=
  ⟨cell_kept hP.c1.cell (grownBy_putObj' _ D (.deferred none)) (fun r e => by cases e; exact ⟨_, hK, rfl⟩), cell_kept hP.c2.cell (grownBy_putObj' _ D (.deferred none)) (fun r e => by cases e; exact ⟨_, hK, rfl⟩),
    hB.trans (belowK_b (w := w) (Nat.le_refl _) W D _ _ hD hK rfl rfl)⟩
theorem PlK.drew (h : PlK w W W') : PlK w W W'.drew := ⟨⟨h.ko.size, h.ko.same⟩, ⟨h.kp.1.drew, h.kp.2⟩, fun b => (h.bl b).drew⟩
end

set_option maxRecDepth 100000 in
set_option maxHeartbeats 2000000 in
theorem place_calls (A : Option Addr) (cap : Nat) (xs : List St) (node : Int) (hlen : xs.length ≤ 1000) (w : World) (hI : StAt w A xs) :
    Calls Try.prog 172 #[.slice A xs.length cap, .int .i64 node] w fun e w' => e = .returned (.tuple #[.int .i64 (placeP xs node).1, .int .i64 (placeP xs node).2]) ∧ Below w.heap.size w w' := by
  refine callsIn_wide (n := 9).1 ?_
  refine callsIn_of_wp_marks Try.func172 rfl trivial ?_ rfl
  simp only [Try.ntmps172, List.size_toArray, List.length_cons, List.length_nil, Nat.reduceAdd, Nat.reduceSub, Array.replicate_succ, Array.replicate_zero, List.push_toArray, List.append_toArray, List.nil_append, List.cons_append]
  gi_wp2_with fail
  refine ⟨trivial, ((callsIn_wide (n := 8)).2 (backward_calls _ _ _ _)).mono ?_⟩
  rintro e w' ⟨rfl, rfl⟩
  gi_wp2_with fail
  have hB0 : Below w.heap.size w (((w.alloc (.cells #[.int .i64 node] 3)).alloc (.cells #[.int .i64 0] 3)).alloc (.cells #[.int .i64 0] 3)) := (((Below.refl _ w).alloc (Nat.le_refl _) _).alloc (by simp) _).alloc (by simp; omega) _
  have b0 := Boxed.new w 3 (.int .i64 node)
  have b1 := Boxed.new (w.alloc (.cells #[.int .i64 node] 3)) 3 (.int .i64 0)
  have b2 := Boxed.new ((w.alloc (.cells #[.int .i64 node] 3)).alloc (.cells #[.int .i64 0] 3)) 3 (.int .i64 0)
  have b3 := Boxed.new (((w.alloc (.cells #[.int .i64 node] 3)).alloc (.cells #[.int .i64 0] 3)).alloc (.cells #[.int .i64 0] 3)) 68 (.slice A xs.length cap)
  simp only [World.size_alloc] at b1 b2 b3
  have hsz : (((w.alloc (.cells #[.int .i64 node] 3)).alloc (.cells #[.int .i64 0] 3)).alloc (.cells #[.int .i64 0] 3)).heap.size = w.heap.size + 3 := by simp
  have hC : PlC w ((((w.alloc (.cells #[.int .i64 node] 3)).alloc (.cells #[.int .i64 0] 3)).alloc (.cells #[.int .i64 0] 3)).alloc (.cells #[.slice A xs.length cap] 68)) node 0 0 := ⟨((b0.alloc _).alloc _).alloc _, (b1.alloc _).alloc _, b2.alloc _⟩
  have hB1 := hB0.alloc (by rw [hsz]; omega) (.cells #[.slice A xs.length cap] 68)
  refine wpIn_rangeFunc_new rfl (by omega) (gf := 182) (lb := #[.pointer (some ⟨w.heap.size + 3, 0, none⟩)]) (by simp [go_sem]) trivial (enters_of Try.func182 (by kernel_rfl) rfl)
    (back_stops 8 (w.heap.size + 3) w.heap.size A cap xs hlen _ (by simp) b3.cell (hI.below hB1) (fun ad hn he => by have := (hI hn); obtain ⟨b, off, rfl, hcc⟩ := this; cases he; have := World.block_lt_of_cell? w _ (hcc 0 0 hn (by decide)); exact this)) KpB.t (KpB.b (by simp; omega) (by simp)) (Below.refl _ _) (fun _ => rfl)
    (fun pre W => (PlC w W node 0 (net pre) ∧ (∀ p ∈ pre, p.2.node ≠ node)) ∧ Below w.heap.size w W)
    (fun c pre W => (c = .ret ∧ ∃ ini last, pre = ini ++ [last] ∧ (∀ p ∈ ini, p.2.node ≠ node) ∧ last.2.node = node ∧ PlC w W node (last.1 : Int) (net ini + b2i last.2.cr)) ∧ Below w.heap.size w W)
    ?own1 ?own2 ?start
    (fun x b => { tmps := #[.slice A xs.length cap, .int .i64 node, undef, .pointer (some ⟨w.heap.size, 0, none⟩), .pointer (some ⟨w.heap.size + 1, 0, none⟩), .pointer (some ⟨w.heap.size + 1 + 1, 0, none⟩), .int .i64 (x.1 : Int), .pointer (some ⟨b, 0, none⟩), .slice A xs.length cap, .func (.func 182) #[] #[.pointer (some ⟨w.heap.size + 1 + 1 + 1, 0, none⟩)], .int .i64 (x.1 : Int), .agg #[.int .i64 x.2.node, .int .i64 x.2.target, .int .i64 x.2.related, .bool x.2.cr, .bool x.2.cs], undef, undef, undef, undef, undef, undef, undef, undef, undef, undef, undef, undef, undef, undef], defers := [] })
    (fun x => .cells #[.int .i64 x.2.node, .int .i64 x.2.target, .int .i64 x.2.related, .bool x.2.cr, .bool x.2.cs] 94)
    (KpB.a (by simp; omega) (by simp)) ?assign ?body ?done ?stop
  case own1 => exact OwnFrom.and (Own.from (fun s A B row hs hg hr => ⟨PlC.own w node (fun _ => 0) net s A B row hs.1 hg hr, hs.2⟩) _) (ownFrom_below (Nat.le_refl _) (by simp; omega))
  case own2 => exact fun c => OwnFrom.and (Own.from (fun s A B row hs hg hr => by
      obtain ⟨hc, ini, last, e1, e2, e3, e4⟩ := hs
      exact ⟨hc, ini, last, e1, e2, e3, PlC.own w node (fun _ : List Unit => (last.1 : Int)) (fun _ => net ini + b2i last.2.cr) [] A B row e4 hg hr⟩) _) (ownFrom_below (Nat.le_refl _) (by simp; omega))
  case start => exact ⟨⟨hC, by simp⟩, hB1⟩
  case assign =>
    intro l x W K hK
    dsimp only [encBack]
    gi_wp2
    exact hK
  case body =>
    rintro l pre x b W ⟨⟨hP, hne⟩, hB⟩ hb hbx hpl
    have q0 := hP.c0.cell; have q1 := hP.c1.cell; have q2 := hP.c2.cell
    have z1 := hP.c1.frozen; have z2 := hP.c2.frozen
    have hx : Blk W b 94 _ := hbx
    have x0 := hx.cell 0; have x3 := hx.cell 3; have x4 := hx.cell 4
    simp at x0 x3 x4
    have d0 : ¬ w.heap.size = b := Blk.ne_ (show Blk W w.heap.size _ _ from hP.c0) hx (by decide)
    have d1 : ¬ w.heap.size + 1 = b := Blk.ne_ (show Blk W (w.heap.size + 1) _ _ from hP.c1) hx (by decide)
    have d2 : ¬ w.heap.size + 1 + 1 = b := Blk.ne_ (show Blk W (w.heap.size + 1 + 1) _ _ from hP.c2) hx (by decide)
    have d0' : ¬ b = w.heap.size := fun e => d0 e.symm
    have d1' : ¬ b = w.heap.size + 1 := fun e => d1 e.symm
    have d2' : ¬ b = w.heap.size + 1 + 1 := fun e => d2 e.symm
    obtain ⟨n0, n1⟩ := net_bound pre
    have hpl' : pre.length < 1000 := by omega
    generalize hnet : net pre = lv at *
    have HN := Lib.hid hnet
    clear hnet
    have n2 : -1000 ≤ lv := by omega
    have n3 : lv ≤ 1000 := by omega
    have HP := Lib.hid hP
    have HB := Lib.hid hB
    have HNE := Lib.hid hne
    clear hP hB hne hx hbx n0 n1 hB0 hB1 b0 b1 b2 b3 hC hsz hI
    have hd3 : w.heap.size + 1 + 1 ≠ w.heap.size + 3 := by omega
    have hd4 : w.heap.size + 1 ≠ w.heap.size + 3 := by omega
    by_cases hr : x.2.cr = true
    · have hb1 : b2i x.2.cr = 1 := by simp [b2i, hr]
      have HB1 := Lib.hid hb1
      clear hb1
      by_cases hn : x.2.node = node
      · gi_wp2
        gi_region
        all_goals gi_wp2
        all_goals
          have HR : PlK w W _ := (((PlK.refl.slv (.int .i64 (lv + 1))).at' (.int .i64 (x.1 : Int))).slv (.int .i64 (lv + 1))).drew
          have HC : PlC w _ node _ _ := (((HP.out.slv (lv + 1)).at' (x.1 : Int)).slv (lv + 1)).drew
          exact ⟨HR.ko.from _, ⟨rfl, pre, x, rfl, HNE.out, hn, by rw [HN.out, HB1.out]; exact HC⟩, HR.bl HB.out⟩
      · have hn1 : (x.2.node == node) = false := by simpa using hn
        have HNN := Lib.hid hn
        clear hn
        by_cases hs : x.2.cs = true
        · have hb2 : b2i x.2.cs = 1 := by simp [b2i, hs]
          have HB2 := Lib.hid hb2
          clear hb2
          gi_wp2
          exact pl_goes HP.out HB.out HNE.out HNN.out (v := lv) (by rw [net_append, HN.out]; simp only [net]; rw [HB1.out, HB2.out]; omega) (((PlK.refl.slv (.int .i64 (lv + 1))).slv (.int .i64 lv))) ((HP.out.slv (lv + 1)).slv lv)
        · have hs : x.2.cs = false := by simpa using hs
          have hb2 : b2i x.2.cs = 0 := by simp [b2i, hs]
          have HB2 := Lib.hid hb2
          clear hb2
          gi_wp2
          exact pl_goes HP.out HB.out HNE.out HNN.out (v := lv + 1) (by rw [net_append, HN.out]; simp only [net]; rw [HB1.out, HB2.out]; omega) (PlK.refl.slv (.int .i64 (lv + 1))) (HP.out.slv (lv + 1))
    · have hr : x.2.cr = false := by simpa using hr
      have hb1 : b2i x.2.cr = 0 := by simp [b2i, hr]
      have HB1 := Lib.hid hb1
      clear hb1
      by_cases hn : x.2.node = node
      · gi_wp2
        gi_region
        all_goals gi_wp2
        all_goals
          have HR : PlK w W _ := ((PlK.refl.at' (.int .i64 (x.1 : Int))).slv (.int .i64 lv)).drew
          have HC : PlC w _ node _ _ := ((HP.out.at' (x.1 : Int)).slv lv).drew
          exact ⟨HR.ko.from _, ⟨rfl, pre, x, rfl, HNE.out, hn, by rw [HN.out, HB1.out, Int.add_zero]; exact HC⟩, HR.bl HB.out⟩
      · have hn1 : (x.2.node == node) = false := by simpa using hn
        have HNN := Lib.hid hn
        clear hn
        by_cases hs : x.2.cs = true
        · have hb2 : b2i x.2.cs = 1 := by simp [b2i, hs]
          have HB2 := Lib.hid hb2
          clear hb2
          gi_wp2
          exact pl_goes HP.out HB.out HNE.out HNN.out (v := lv - 1) (by rw [net_append, HN.out]; simp only [net]; rw [HB1.out, HB2.out]; omega) (PlK.refl.slv (.int .i64 (lv - 1))) (HP.out.slv (lv - 1))
        · have hs : x.2.cs = false := by simpa using hs
          have hb2 : b2i x.2.cs = 0 := by simp [b2i, hs]
          have HB2 := Lib.hid hb2
          clear hb2
          gi_wp2
          exact pl_goes HP.out HB.out HNE.out HNN.out (v := lv) (by rw [net_append, HN.out]; simp only [net]; rw [HB1.out, HB2.out]; omega) PlK.refl HP.out
  case done =>
    rintro D ys W hD rfl ⟨⟨hP, hne⟩, hB⟩ hK
    have q0 := hP.c0.cell; have q1 := hP.c1.cell; have q2 := hP.c2.cell
    have z1 := hP.c1.frozen; have z2 := hP.c2.frozen
    have e1 : placeP xs node = (-1, 0) := by
      unfold placeP
      have := plL_append node _ [] 0 hne
      rw [List.append_nil] at this
      rw [this]; rfl
    have HE := Lib.hid e1
    have HP := Lib.hid hP
    have HB := Lib.hid hB
    have HD := Lib.hid hD
    clear e1 hP hB hne hB0 hB1 b0 b1 b2 b3 hC hsz hI hD
    gi_wp2
    have HC := (HP.out.at' (-1)).slv 0
    have hK' := (((KeepsOthers.setCell W ⟨w.heap.size + 1, 0, none⟩ (.int .i64 (-1))).trans (KeepsOthers.setCell _ ⟨w.heap.size + 1 + 1, 0, none⟩ (.int .i64 0)))).same D _ hK rfl
    have hBB := (HB.out.setCell (p := ⟨w.heap.size + 1, 0, none⟩) (by show w.heap.size ≤ w.heap.size + 1; omega) (.int .i64 (-1))).setCell (p := ⟨w.heap.size + 1 + 1, 0, none⟩) (by show w.heap.size ≤ w.heap.size + 1 + 1; omega) (.int .i64 0)
    obtain ⟨r1, r2, r3⟩ := pl_leave HC hK' (by have := HD.out; simp at this; omega) hBB
    refine ⟨by simp, .inl ⟨_, _, rfl, run_takeDeferred hK', .tuple #[.int .i64 (-1), .int .i64 0], ?_, by rw [HE.out], r3⟩⟩
    simp [results, Try.f172, go_sem, r1, r2]
  case stop =>
    rintro D c pre W hD ⟨k, hk, rfl⟩ ⟨⟨rfl, ini, last, e1, e2, e3, hP⟩, hB⟩ hK
    have HE : placeP xs node = ((last.1 : Int), net ini + b2i last.2.cr) := by
      obtain ⟨r, hr⟩ := upto_prefix (backF xs) hk
      unfold placeP
      rw [hr, e1, List.append_assoc, plL_append node ini _ 0 e2]
      simp only [List.cons_append, List.nil_append, plL]
      rw [if_pos e3, Int.zero_add]
    obtain ⟨r1, r2, r3⟩ := pl_leave hP hK (by simp at hD; omega) hB
    have HR := Lib.hid HE
    clear HE hP hB hB0 hB1 b0 b1 b2 b3 hC hsz hI hD e1 e2 e3
    generalize net ini + b2i last.2.cr = lq at *
    gi_wp2
    refine ⟨by simp, .inl ⟨_, _, rfl, run_takeDeferred hK, .tuple #[.int .i64 (last.1 : Int), .int .i64 lq], ?_, by rw [HR.out], r3⟩⟩
    simp [results, Try.f172, go_sem, r1, r2]
end Go.Proofs.Ytjkidecaciomgaa
