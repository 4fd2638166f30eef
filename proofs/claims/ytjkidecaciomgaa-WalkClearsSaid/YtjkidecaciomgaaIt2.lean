/- walk.Turns. -/
import Derived.Test.YtjkidecaciomgaaIt1
import Derived.OwnWalkIn
import Derived.Maps.AppendAt
namespace Go.Proofs.Ytjkidecaciomgaa
set_option linter.unusedVariables false
set_option linter.unusedSimpArgs false
open Go.RowKit Go.Shelf

attribute [local go_sem] Oper.semAt_some

def tnC (t : Tn) : List Value := [.int .i64 t.at', .int .i64 t.ph, .bool t.cap]
theorem tnC_len (ts : List Tn) : (ts.flatMap tnC).length = ts.length * 3 := by
  induction ts with
  | nil => rfl
  | cons t r ih => rw [List.flatMap_cons, List.length_append, ih, List.length_cons]; simp [tnC]; omega
theorem each_calls (a : Option Addr) (len cap : Nat) (bub : Bool) (w : World) :
    Calls Try.prog 181 #[.slice a len cap, .bool bub] w fun e w' => e = .returned (.func (.func 188) #[] #[.pointer (some ⟨w.heap.size, 0, none⟩), .pointer (some ⟨w.heap.size + 1, 0, none⟩)]) ∧ w' = (w.alloc (.cells #[.slice a len cap] 68)).alloc (.cells #[.bool bub] 4) := by
  go_enter Try.func181, Try.ntmps181
  go_wp2
  go_ret
  exact ⟨rfl, rfl⟩
theorem ownsRow_grow {w w' : World} {row : Option Nat} {base e size n : Nat} {v : Value} {us : List Value} (h : w.ownsRow base e size v n us) (hg : w.grownBy w' row) (hr : ∀ r, row = some r → ∃ o : Obj, w.heap[r]? = some o ∧ o.isCells = false) : w'.ownsRow base e size v n us := by
  refine ⟨h.1, ?_⟩
  rcases h.2 with h2 | ⟨g, cap, cur, rfl, hb, hh, hn⟩
  · exact .inl h2
  · refine .inr ⟨g, cap, cur, rfl, hb, (hg.block g (Array.getElem?_eq_some_iff.1 hh).1 (fun e => ?_)).trans hh, hn⟩
    obtain ⟨o, ho, hc⟩ := hr g e.symm
    rw [hh] at ho
    cases ho
    cases hc
theorem ownsRow_set {w : World} {base e size n : Nat} {v : Value} {us : List Value} (h : w.ownsRow base e size v n us) (p : Addr) (u : Value) (hp : p.block < base) : (w.setCell p u).ownsRow base e size v n us := by
  refine ⟨h.1, ?_⟩
  rcases h.2 with h2 | ⟨g, cap, cur, rfl, hb, hh, hn⟩
  · exact .inl h2
  · exact .inr ⟨g, cap, cur, rfl, hb, (Below.heap_setCell w p u g (by omega)).trans hh, hn⟩
theorem ownsRow_base {w : World} {base base' e size n : Nat} {v : Value} {us : List Value} (h : w.ownsRow base e size v n us) (hb : base' ≤ base) : w.ownsRow base' e size v n us := by
  refine ⟨h.1, ?_⟩
  rcases h.2 with h2 | ⟨g, cap, cur, rfl, hb', hh, hn⟩
  · exact .inl h2
  · exact .inr ⟨g, cap, cur, rfl, by omega, hh, hn⟩
theorem own_ge {w : World} {base e size n k : Nat} {v : Value} {us : List Value} (h : w.ownsRow base e size v n us) (hk : v.ownBlock = some k) : base ≤ k ∧ ∃ o : Obj, w.heap[k]? = some o ∧ o.isCells = true := by
  rcases h.2 with ⟨rfl, _⟩ | ⟨g, cap, cur, rfl, hb, hh, hn⟩
  · cases hk
  · simp only [Value.ownBlock] at hk
    cases hk
    exact ⟨hb, _, hh, rfl⟩
theorem own_slice {w : World} {base e size n : Nat} {v : Value} {us : List Value} (h : w.ownsRow base e size v n us) : ∃ A l c, v = .slice A l c := by
  rcases h.2 with ⟨rfl, _⟩ | ⟨g, cap, cur, rfl, hb, hh, hn⟩
  · exact ⟨_, _, _, rfl⟩
  · exact ⟨_, _, _, rfl⟩
/-- The box of what was told, and its row. -/
def OutB (b base : Nat) (ts : List Tn) (W : World) : Prop := ∃ v, Boxed W b 111 v ∧ W.ownsRow base 115 3 v ts.length (ts.flatMap tnC)
theorem OutB.own (b base B : Nat) (n₀ : Nat) (w : World) (h1 : n₀ ≤ B) (h2 : n₀ ≤ w.heap.size) : OwnFrom B (fun ts W => OutB b base ts W ∧ Below n₀ w W) := fun ts A C row ⟨⟨v, hb, ho⟩, hl⟩ hg hr =>
  ⟨⟨v, hb.kept hg (boxed_notRow hb fun r e => (hr r e).2), ownsRow_grow ho hg fun r e => (hr r e).2⟩, hl.grown hg (Nat.le_trans h2 hl.size) fun k e => by have := (hr k e).1; omega⟩
theorem push_turn (W : World) (base : Nat) (v : Value) (ts : List Tn) (t : Tn) (h : W.ownsRow base 115 3 v ts.length (ts.flatMap tnC)) (hb : base ≤ W.heap.size) (hl : ts.length ≤ 4000) :
    ∃ v' W', (Builtin.append_ #[111, 111] 111 #[v, .slice (some ⟨W.heap.size, 0, none⟩) 1 1]).run Try.prog (W.alloc (.cells (tnC t).toArray 115)) = .ok v' W' ∧ W'.ownsRow base 115 3 v' (ts ++ [t]).length ((ts ++ [t]).flatMap tnC) ∧ (W.alloc (.cells (tnC t).toArray 115)).grownBy W' v.ownBlock := by
  have h1 := ownsRow_grow h (World.grownBy_alloc W (.cells (tnC t).toArray 115) none) (fun r e => by cases e)
  obtain ⟨ti, dd, z, t1, t2, t3, t4, t5, t6, t7⟩ := tyI_info ty115
  have hnew := Blk.new W 115 (tnC t).toArray
  obtain ⟨v', W', hr, ho, hg, _⟩ := run_append_own (P := Try.prog) (W.alloc (.cells (tnC t).toArray 115)) base 111 111 115 ti z 3 _ (sliceE_spec sl111) t1 t3 t5 t6 (by rw [← Array.length_toList, t7]; rfl) (by decide) v ts.length (ts.flatMap tnC) h1 ⟨W.heap.size, 0, none⟩ 1 1 (tnC t) rfl (fun j u hj => by
    rw [Addr.add_lit, Nat.zero_add, hnew.cell j, ← Array.getElem?_toList]
    exact hj) (fun u hu => by
    simp only [tnC, List.mem_cons, List.not_mem_nil, or_false] at hu
    rcases hu with rfl | rfl | rfl <;> rfl) (by unfold maxLen; omega) (by
    calc (ts.length + 1) * _ ≤ 5000 * 1000 := Nat.mul_le_mul (by omega) (by decide)
      _ ≤ 140737488355328 := by decide) (by simp; omega)
  refine ⟨v', W', hr, ?_, hg⟩
  rw [List.length_append, List.flatMap_append]
  simpa using ho
theorem wpListIn_append_run {F : Fence} {n : Nat} {P : Program} {w : World} {ops : Array Oper} {rest : List Oper} {o : Oper} {a : Act} {Q : Exit → Act → World → Prop} (hg : o.guard = none) {s x : Operand} {t : TypeId} (hop : o.op = Op.call { callee := Callee.builtin Builtin.append, args := #[s, x], argTypes := #[t, t] })
    {v u v' : Value} {w' : World} (hs : a.eval s = v) (hx : a.eval x = u) (hrun : (Builtin.append_ #[t, t] o.type #[v, u]).run P w = .ok v' w') (hK : wpListIn F n P ops Q rest (a.put o.dst v') w') : wpListIn F n P ops Q (o :: rest) a w := by
  refine wpListIn_plain hg fun K hK' => ?_
  unfold Oper.wpIn
  refine ⟨?_, ?_⟩
  · simp [Oper.about, hop, resolve, Target.leads, Sem.run_pure]
  · rw [Oper.semAt_plain F _ _ (by rw [hop]; intro c hc'; cases hc')]
    simp [execOp, hop, resolve, invoke, builtin, hs, hx, hrun, Result.andThen]
    exact hK' _ _ hK
/-- A round. -/
theorem turn_goes {n₀ base lo B : Nat} {W W' : World} {w : World} {ts : List Tn} {t : Tn} {v v' : Value} {o : Obj} (hb : Boxed W n₀ 111 v) (hr : W.ownsRow base 115 3 v ts.length (ts.flatMap tnC)) (hl : Below n₀ w W)
    (h2 : W'.ownsRow base 115 3 v' (ts ++ [t]).length ((ts ++ [t]).flatMap tnC)) (h3 : (W.alloc o).grownBy W' v.ownBlock) (hlo : n₀ + 2 < lo) (hbase : base = lo + 4) (hs : lo + 4 ≤ W.heap.size) :
    KeepsFrom B W (W'.setCell ⟨n₀, 0, none⟩ v') ∧ KpE n₀ (n₀ + 1) (n₀ + 2) lo W (W'.setCell ⟨n₀, 0, none⟩ v') ∧ OutB n₀ base (ts ++ [t]) (W'.setCell ⟨n₀, 0, none⟩ v') ∧ Below n₀ w (W'.setCell ⟨n₀, 0, none⟩ v') := by
  have hg : W.grownBy W' v.ownBlock := World.grownBy.trans (World.grownBy_alloc W o _) h3
  have hge : ∀ k, v.ownBlock = some k → base ≤ k := fun k e => (own_ge hr e).1
  have hko : KeepsFrom B W (W'.setCell ⟨n₀, 0, none⟩ v') := ((KeepsOthers.of_grownBy hg fun j o' e ho' => by
    obtain ⟨_, o2, h4, h5⟩ := own_ge hr e
    rw [h4] at ho'
    cases ho'
    exact h5).trans (KeepsOthers.setCell W' _ _)).from B
  have hkl : KeepsFrom lo W (W'.setCell ⟨n₀, 0, none⟩ v') := ((KeepsOthers.of_grownBy hg fun j o' e ho' => by
    obtain ⟨_, o2, h4, h5⟩ := own_ge hr e
    rw [h4] at ho'
    cases ho'
    exact h5).trans (KeepsOthers.setCell W' _ _)).from lo
  have hk : ∀ k, k ≠ n₀ → k < lo + 4 → (W'.setCell ⟨n₀, 0, none⟩ v').heap[k]? = W.heap[k]? := fun k h1 h4 => (Below.heap_setCell W' ⟨n₀, 0, none⟩ v' k h1).trans (hg.block k (by omega) fun e => by have := hge k e.symm; omega)
  have hbl : Below n₀ W (W'.setCell ⟨n₀, 0, none⟩ v') := ((Below.refl n₀ W).grown hg (by omega) fun k e => by have := hge k e; omega).setCell (Nat.le_refl _) _
  have hb' : Boxed W' n₀ 111 v := hb.kept hg fun e => by have := hge n₀ e.symm; omega
  exact ⟨hko, ⟨hbl, hk _ (by omega) (by omega), hk _ (by omega) (by omega), fun k h5 h6 => hk k (by omega) h6, hkl⟩, ⟨v', hb'.set v', ownsRow_set h2 _ _ (by show n₀ < base; omega)⟩, hl.trans hbl⟩
set_option maxRecDepth 100000 in
set_option maxHeartbeats 2000000 in
theorem turns_calls (A : Option Addr) (cap : Nat) (xs : List St) (bub : Bool) (hlen : xs.length ≤ 1000) (w : World) (hI : StAt w A xs) :
    Calls Try.prog 149 #[.slice A xs.length cap, .bool bub] w fun e w' => (∃ v, e = .returned v ∧ w'.ownsRow w.heap.size 115 3 v (turnsM xs bub).length ((turnsM xs bub).flatMap tnC)) ∧ Below w.heap.size w w' := by
  refine callsIn_wide (n := 10).1 ?_
  refine callsIn_of_wp_marks Try.func149 rfl trivial ?_ rfl
  simp only [Try.ntmps149, List.size_toArray, List.length_cons, List.length_nil, Nat.reduceAdd, Nat.reduceSub, Array.replicate_succ, Array.replicate_zero, List.push_toArray, List.append_toArray, List.nil_append, List.cons_append]
  gi_wp2_with fail
  refine ⟨trivial, ((callsIn_wide (n := 9)).2 (each_calls _ _ _ _ _)).mono ?_⟩
  rintro e w' ⟨rfl, rfl⟩
  gi_wp2_with fail
  have hN : (turnsM xs bub).length ≤ 4000 := by
    have : ∀ (i : Nat) (ys : List St), (turnsF bub i ys).length ≤ ys.length := by
      intro i ys
      induction ys generalizing i with
      | nil => simp [turnsF]
      | cons x r ih =>
        rw [turnsF, List.length_append, List.length_cons]
        have := ih (i + 1)
        split <;> simp <;> omega
    have := this 0 xs
    simp [turnsM, upto]
    omega
  have b0 := Boxed.new w 111 (.slice none 0 0)
  have b1 := Boxed.new (w.alloc (.cells #[.slice none 0 0] 111)) 68 (.slice A xs.length cap)
  have b2 := Boxed.new ((w.alloc (.cells #[.slice none 0 0] 111)).alloc (.cells #[.slice A xs.length cap] 68)) 4 (.bool bub)
  simp only [World.size_alloc] at b1 b2
  have hB : Below w.heap.size w (((w.alloc (.cells #[.slice none 0 0] 111)).alloc (.cells #[.slice A xs.length cap] 68)).alloc (.cells #[.bool bub] 4)) := (((Below.refl _ w).alloc (Nat.le_refl _) _).alloc (by simp) _).alloc (by simp; omega) _
  have B0 := (b0.alloc (.cells #[.slice A xs.length cap] 68)).alloc (.cells #[.bool bub] 4)
  have B1 := b1.alloc (.cells #[.bool bub] 4)
  have hsz : (((w.alloc (.cells #[.slice none 0 0] 111)).alloc (.cells #[.slice A xs.length cap] 68)).alloc (.cells #[.bool bub] 4)).heap.size = w.heap.size + 3 := by simp
  obtain ⟨W0, hW0⟩ : ∃ W0, ((w.alloc (.cells #[.slice none 0 0] 111)).alloc (.cells #[.slice A xs.length cap] 68)).alloc (.cells #[.bool bub] 4) = W0 := ⟨_, rfl⟩
  rw [hW0] at B0 B1 b2 hB hsz ⊢
  clear hW0 b0 b1
  have hseq := each1_c w.heap.size (w.heap.size + 1) (w.heap.size + 1 + 1) A cap xs bub hlen W0 (W0.heap.size + 2) (by omega) (by omega) B1 b2 (hI.below hB) (fun ad hn he => by have := (hI hn); obtain ⟨b, off, rfl, hcc⟩ := this; cases he; exact World.block_lt_of_cell? w _ (hcc 0 0 hn (by decide)))
  refine wpIn_rangeFunc_c rfl (by omega) (gf := 188) (lb := #[.pointer (some ⟨w.heap.size + 1, 0, none⟩), .pointer (some ⟨w.heap.size + 1 + 1, 0, none⟩)]) (by simp [go_sem]) trivial (enters_of Try.func188 (by kernel_rfl) rfl)
    hseq KpE.t ?kb (Below.refl _ _) (fun _ => rfl)
    (fun pre W => OutB w.heap.size (W0.heap.size + 2 + 4) pre W ∧ Below w.heap.size w W)
    (fun c pre W => False)
    (OutB.own _ _ _ _ _ (by omega) (Nat.le_refl _)) (fun c s A B row h => h.elim) ?start
    (fun x b => { tmps := #[.slice A xs.length cap, .bool bub, undef, undef, .slice none 0 0, .pointer (some ⟨w.heap.size, 0, none⟩), .pointer (some ⟨b, 0, none⟩), .slice A xs.length cap, .bool bub, .func (.func 188) #[] #[.pointer (some ⟨w.heap.size + 1, 0, none⟩), .pointer (some ⟨w.heap.size + 1 + 1, 0, none⟩)], .agg #[.int .i64 x.at', .int .i64 x.ph, .bool x.cap], undef, undef, undef, undef, undef], defers := [] })
    (fun x => .cells #[.int .i64 x.at', .int .i64 x.ph, .bool x.cap] 115)
    ?ka ?assign ?body ?done ?stop
  case kb =>
    intro W o o' ho hc
    have hlt := (Array.getElem?_eq_some_iff.1 ho).1
    have hk : ∀ k, k ≠ W0.heap.size + 1 → (W.putObj (W0.heap.size + 1) o').heap[k]? = W.heap[k]? := fun k h => World.putObj_heap_other h
    exact ⟨(Below.refl _ W).grown (grownBy_putObj' W (W0.heap.size + 1) o') (by omega) (fun k e => by cases e; omega), hk _ (by omega), hk _ (by omega), fun k h1 h2 => hk k (by omega), KeepsFrom.of_grownBy (grownBy_putObj' W (W0.heap.size + 1) o') (fun j e => by cases e; omega)⟩
  case ka =>
    intro W o hs
    have hk : ∀ k, k < W.heap.size → (W.alloc o).heap[k]? = W.heap[k]? := fun k h => Below.heap_alloc W o k h
    exact ⟨(Below.refl _ W).alloc (by omega) _, hk _ (by omega), hk _ (by omega), fun k h1 h2 => hk k (by omega), (KeepsOthers.alloc W o).from _⟩
  case start => exact ⟨⟨_, B0, ⟨rfl, .inl ⟨rfl, rfl⟩⟩⟩, hB⟩
  case assign =>
    intro l x W K hK
    dsimp only [encT]
    gi_wp2
    exact hK
  case body =>
    rintro l pre x b W ⟨⟨v, hbx, how⟩, hB2⟩ hb hbo hpl hsW
    have hx : Blk W b 115 _ := hbo
    obtain ⟨v', W', hrun, ho', hg'⟩ := push_turn W _ v pre x how (by omega) (by omega)
    obtain ⟨G1, G2, G3⟩ := turn_goes (lo := W0.heap.size + 2) (B := W0.heap.size) hbx how hB2 ho' hg' (by omega) (by omega) (by omega)
    have hbx' : Boxed W' w.heap.size 111 v := (hbx.alloc _).kept hg' fun e => by have := (own_ge how e.symm).1; omega
    obtain ⟨_, _, _, rfl⟩ := own_slice how
    obtain ⟨_, _, _, rfl⟩ := own_slice ho'
    have q0 := hbx.cell
    have x0 := hx.cell 0; have x1 := hx.cell 1; have x2 := hx.cell 2
    have q1 := hbx'.cell
    have z1 := hbx'.frozen
    simp at x0 x1 x2
    dsimp only [tnC] at hrun
    have HG := Lib.hid G2
    have HH := Lib.hid G3
    clear G2 G3 how ho' hg' hbx' hB2
    gi_wp2_with (first
      | (gi_at_builtin; refine wpListIn_append_run rfl rfl rfl rfl hrun ?_)
      | gi_in)
    exact ⟨G1, HG.out, HH.out⟩
  case done =>
    rintro D ys W3 rfl hs3 rfl ⟨⟨v, hbx, how⟩, hB2⟩ hK
    have hg := grownBy_putObj' W3 W0.heap.size (.deferred none)
    have hnr : ∀ r, some W0.heap.size = some r → ∃ o : Obj, W3.heap[r]? = some o ∧ o.isCells = false := fun r e => by cases e; exact ⟨_, hK, rfl⟩
    obtain ⟨_, _, _, rfl⟩ := own_slice how
    have q0 := hbx.cell
    have F1 := Lib.hid (ownsRow_base (ownsRow_grow how hg hnr) (show w.heap.size ≤ W0.heap.size + 2 + 4 by omega))
    have F2 := Lib.hid (hB2.grown hg (Nat.le_trans (by omega) hs3) (fun k e => by cases e; omega))
    clear how hB2
    gi_wp2
    refine ⟨by simp, .inl ⟨_, _, rfl, run_takeDeferred hK, _, ?_, ⟨_, rfl, F1.out⟩, F2.out⟩⟩
    simp [results, Try.f149, go_sem]
  case stop => exact fun D c pre W _ _ _ h => h.elim
end Go.Proofs.Ytjkidecaciomgaa
