/- VL, part 17: a row by its address: cut, cleared, cut off. -/
import Derived.Test.YtjkidecaciomgaaVL16
import Derived.Lib.SliceRun
import Derived.Test.YtjkidecaciomgaaBD
namespace Go.Proofs.Ytjkidecaciomgaa
set_option linter.unusedVariables false
set_option linter.unusedSimpArgs false
open Go.RowKit

abbrev rowV (b n cap : Nat) : Value := .slice (some ⟨b, 0, none⟩) n cap
abbrev rowO (b o n cap : Nat) : Value := .slice (some ⟨b, o, none⟩) n cap
section
variable {C : Cx} {k : List Item} {t : List (Nat × AV)} {r : List (Nat × RK)} {ops : Array Oper} {l : List Oper}
/-- A row that isn't empty, by its address. -/
theorem runL_row (n g : Nat) {α : Type} {e : TypeId} {E : Enc α} {xs : List α} (hx : look t n = some (.res g)) (hg : look r g = some (.obj (ownS e E xs))) (hne : xs ≠ []) (h : ∀ b cap, xs.length ≤ cap → RunL C ops l ⟨(n, .v (rowV b xs.length cap)) :: t, (g, .obj (atS (rowV b xs.length cap) (ownS e E xs))) :: r⟩ k) : RunL C ops l ⟨t, r⟩ k := .mk fun a w hs => by
  obtain ⟨ι, F, S, hA⟩ := hs
  have hR := hA.sw.hs.ob g _ hg
  have hlen := List.length_pos_iff.2 hne
  obtain ⟨⟨us, h1, h2⟩, h3⟩ := hR
  rcases h1.2 with ⟨_, h0⟩ | ⟨b, cap, cur, hv, _, _, hn, _⟩
  · omega
  · obtain ⟨hw, _⟩ := hA.sw.turn (x' := .obj (atS (rowV b xs.length cap) (ownS e E xs))) hg rfl (But.refl _ _) (fun _ _ e => by cases e) (fun R' e => by cases e; exact ⟨hv, ⟨us, h1, h2⟩, h3⟩)
    refine (h b cap hn).go a w ⟨ι, F, S, hw, fun m z hz => ?_, hA.sz, hA.df⟩
    rw [look_cons] at hz
    by_cases hm : n = m
    · subst hm
      rw [if_pos rfl] at hz
      cases hz
      obtain ⟨u, e1, e2⟩ := hA.ts n _ hx
      simp only [AVR] at e2
      exact ⟨u, e1, by simp only [AVR]; rw [e2.1, hv]⟩
    · rw [if_neg hm] at hz
      exact hA.ts m z hz
theorem runL_row2 (n g : Nat) {u : Value} {R : Res} (hx : look t n = some (.res g)) (hg : look r g = some (.obj (atS u R))) (h : RunL C ops l ⟨(n, .v u) :: t, r⟩ k) : RunL C ops l ⟨t, r⟩ k := .mk fun a w hs => by
  obtain ⟨ι, F, S, hA⟩ := hs
  have hR := hA.sw.hs.ob g _ hg
  refine h.go a w ⟨ι, F, S, hA.sw, fun m z hz => ?_, hA.sz, hA.df⟩
  rw [look_cons] at hz
  by_cases hm : n = m
  · subst hm
    rw [if_pos rfl] at hz
    cases hz
    obtain ⟨v, e1, e2⟩ := hA.ts n _ hx
    simp only [AVR] at e2
    exact ⟨v, e1, by simp only [AVR]; rw [e2.1, hR.1]⟩
  · rw [if_neg hm] at hz
    exact hA.ts m z hz
/-- The beginning of a row, as a row. -/
theorem run_unrow (n g g' m : Nat) {α : Type} {e : TypeId} {E : Enc α} {xs : List α} {b cap : Nat} (hx : look t n = some (.v (rowV b m cap))) (hg : look r g = some (.obj (atS (rowV b xs.length cap) (ownS e E xs)))) (hne : xs ≠ []) (hm : m ≤ xs.length) (hf : freshR g' r = true) (hft : freshT g' t = true) (h0 : look C.r0 g' = none) (h : Run C k ⟨(n, .res g') :: t, (g', .obj (ownS e E (xs.take m))) :: (g, .dead) :: r⟩) : Run C k ⟨t, r⟩ := .mk fun a w hs => by
  obtain ⟨ι, F, S, hA⟩ := hs
  obtain ⟨hv0, ⟨us, h1, h2⟩, h3⟩ := hA.sw.hs.ob g _ hg
  have hlen := List.length_pos_iff.2 hne
  rcases h1.2 with ⟨_, hz⟩ | ⟨b', cap', cur, hv, hb0, hh, hn, hc, hs1, hs2⟩
  · omega
  · rw [hv0] at hv
    simp only [Value.slice.injEq, Option.some.injEq, Addr.mk.injEq, and_true] at hv
    obtain ⟨rfl, _, rfl⟩ := hv
    obtain ⟨hk, hFut⟩ := hA.sw.kill hg rfl (But.refl _ w)
    have hfr : freshR g' ((g, RK.dead) :: r) = true := by simp [freshR, RK.has, hf]
    have hlt : (xs.take m).length = m := by rw [List.length_take]; omega
    have hmm : m * E.sz ≤ xs.length * E.sz := Nat.mul_le_mul_right _ hm
    have hob : (ownS e E (xs.take m)).H w S (fun k => k = b) (rowV b m cap) := by
      refine ⟨⟨us.take (m * E.sz), ⟨by rw [hlt, List.length_take, h1.1, Nat.min_eq_left hmm], .inr ⟨b, cap, cur, by rw [hlt], hb0, hh, by omega, hc, hs1, ?_⟩⟩, ?_⟩, fun k => by simp [Value.ownBlock, eq_comm]⟩
      · rw [hlt, ← hs2, List.take_take, Nat.min_eq_left hmm]
      · have e1 : E.all (xs.take m) = (E.all xs).take (m * E.sz) := by
          conv => rhs; rw [← List.take_append_drop m xs, E.all_append]
          rw [List.take_append_of_le_length (by rw [E.all_len, hlt]; exact Nat.le_refl _), List.take_of_length_le (l := E.all (xs.take m)) (by rw [E.all_len, hlt]; exact Nat.le_refl _)]
        rw [e1]
        exact h2.take _
    have hG : ∀ k, k = b → F g k := fun k hk => (h3 k).2 (by rw [hv0, hk]; simp [Value.ownBlock])
    refine h.go a w ⟨_, _, S, hk.add (g := g') (x := .obj (ownS e E (xs.take m))) (v := rowV b m cap) (G := fun k => k = b) hfr h0 (fun T l he => by cases he) (fun R he => by cases he; exact hob) (fun k hk => hA.sw.own g _ hg rfl k (hG k hk)) (fun k hk hS => hA.sw.hs.out g _ hg rfl k (hG k hk) hS) (fun n' y hn' hy hne' k hk hk' => ?_), fun m' z hz => ?_, hA.sz, hA.df⟩
    · rw [look_cons] at hn'
      by_cases e1 : g = n'
      · rw [if_pos e1] at hn'; cases hn'; cases hy
      · rw [if_neg e1] at hn'
        exact hA.sw.hs.dis n' g y _ hn' hg hy rfl (Ne.symm e1) k hk (hG k hk')
    · rw [look_cons] at hz
      by_cases hm' : n = m'
      · subst hm'
        rw [if_pos rfl] at hz
        cases hz
        obtain ⟨u, e1, e2⟩ := hA.ts n _ hx
        simp only [AVR] at e2
        exact ⟨u, e1, by simp only [AVR, newI_same]; rw [e2]; exact ⟨rfl, rfl⟩⟩
      · rw [if_neg hm'] at hz
        obtain ⟨u, e1, e2⟩ := hA.ts m' z hz
        exact ⟨u, e1, e2.fut (Fut.refl _ _) fun i hi => newI_other fun e => by subst e; rw [freshT_look hft hz] at hi; cases hi⟩
end
section
variable {C : Cx} {r : List (Nat × RK)} {o : Oper} {x y z : Operand} {ty : TypeId} {g : Nat}
theorem op_len_val {a : Option Addr} {n c : Nat} {e : TypeId} (ho : o.op = .call { callee := .builtin .len, args := #[x], argTypes := #[ty] }) (hE : sliceE C.P ty = some e) : OpPure C r o [(x, .v (.slice a n c))] (.v (.int .i64 n)) := OpPure.here fun ι F S w ρ hs hr => by
  have hx := hr (x, .v (.slice a n c)) (by simp)
  simp only [AVR] at hx
  have hu := sliceE_spec hE
  refine ⟨.int .i64 n, ?_, by simp [AVR]⟩
  simp [execOp, ho, resolve, invoke, builtin, Builtin.len_, run_underlying hu, Builtin.lenOf, hx, goInt]
theorem op_from_val {b o' n c : Nat} {kd : IntKind} {m : Int} {e : TypeId} {i : TyI} (ho : o.op = .slice ty x (some y) none none) (hE : sliceE C.P ty = some e) (hi : tyI C.P e = some i) (hsz : i.size = 1) (h0 : 0 ≤ m) (hm : m < n) (hc : n ≤ c) : OpPure C r o [(x, .v (rowO b o' n c)), (y, .v (.int kd m))] (.v (rowO b (o' + m.toNat) (n - m.toNat) (c - m.toNat))) := OpPure.here fun ι F S w ρ hs hr => by
  have hx := hr (x, .v (rowO b o' n c)) (by simp)
  have hv := hr (y, .v (.int kd m)) (by simp)
  simp only [AVR] at hx hv ⊢
  have hu := sliceE_spec hE
  have hm1 : m ≤ (n : Int) := by omega
  have hc1 : (n : Int) ≤ c := by omega
  have hc2 : c ≠ 0 := by omega
  refine ⟨_, ?_, rfl⟩
  simp [execOp, ho, Instr.sliceAt, run_underlying hu, hx, hv, Instr.slice, Instr.sliceBounds, Instr.sliceBound, asIntOf, h0, hm1, hc1, run_sizeOf hi, hsz, Addr.add_lit, hc2]
  omega
theorem op_to_val {b o' n c : Nat} {kd : IntKind} {m : Int} {e : TypeId} {i : TyI} (ho : o.op = .slice ty x none (some y) none) (hE : sliceE C.P ty = some e) (hi : tyI C.P e = some i) (h0 : 0 ≤ m) (hm : m ≤ c) : OpPure C r o [(x, .v (rowO b o' n c)), (y, .v (.int kd m))] (.v (rowO b o' m.toNat c)) := OpPure.here fun ι F S w ρ hs hr => by
  have hx := hr (x, .v (rowO b o' n c)) (by simp)
  have hv := hr (y, .v (.int kd m)) (by simp)
  simp only [AVR] at hx hv ⊢
  have hu := sliceE_spec hE
  refine ⟨_, ?_, rfl⟩
  simp [execOp, ho, Instr.sliceAt, run_underlying hu, hx, hv, Instr.slice, Instr.sliceBounds, Instr.sliceBound, asIntOf, h0, hm, run_sizeOf hi, Addr.add_lit]
theorem run_clear_row {P : Program} (w : World) (t e ty : TypeId) (z : Value) (ht : P.underlying t = some (.slice e)) (hv : ∀ w, (zeroValue e).run P w = .ok z w) (hz : z.cells = #[z]) (h1 : z.oneCell' = true) (b o n c : Nat) (cur : Array Value) (T : TypeId) (hh : w.heap[b]? = some (.cells cur T (0, 0))) (hn : 0 < n) (hl : o + n ≤ cur.size) :
    (Builtin.clear_ #[t] ty #[.slice (some ⟨b, o, none⟩) n c]).run P w = .ok (.tuple #[]) (w.setRow b (cur.toList.take o ++ List.replicate n z ++ cur.toList.drop (o + n)).toArray) := by
  have hzc : (Builtin.zeroCells z.cells n).toList = List.replicate n z := by
    rw [hz]
    simp [Builtin.zeroCells]
    apply List.ext_getElem
    · simp
    · intro i h1 h2
      simp [Nat.mod_one]
  have hst := run_storeCells_at P b o T (List.replicate n z) 0 cur w hh (by simpa using hl) (by intro v hv'; rw [List.eq_of_mem_replicate hv']; exact h1)
  rw [Nat.add_zero, List.length_replicate] at hst
  obtain ⟨m, rfl⟩ : ∃ m, n = m + 1 := ⟨n - 1, by omega⟩
  simp [Builtin.clear_, run_underlying ht, hv, hzc, hst]
theorem intE_all (ys : List Int) : intE.all ys = ys.map fun n => .v (.int .i64 n) := by
  induction ys with
  | nil => rfl
  | cons y ys ih => exact congrArg (AV.v (.int .i64 y) :: ·) ih
theorem op_clearU {b cap o' m c : Nat} {e : TypeId} {i : TyI} {xs : List Int} (ho : o.op = .call { callee := .builtin .clear, args := #[x], argTypes := #[ty] }) (hg : look r g = some (.obj (atS (rowV b xs.length cap) (ownS e intE xs)))) (hE : sliceE C.P ty = some e) (hz : zeroV C.P e = some (.int .i64 0)) (hm : 0 < m) (hom : o' + m = xs.length) : OpEff C r o [(x, .v (rowO b o' m c))] (.tup []) ((g, .obj (atS (rowV b xs.length cap) (ownS e intE (xs.take o' ++ List.replicate m 0)))) :: r) [] := fun ι F S w ρ hs hr => by
  have hx := hr (x, .v (rowO b o' m c)) (by simp)
  simp only [AVR] at hx
  have hu := sliceE_spec hE
  obtain ⟨hv0, ⟨us, h1, h2⟩, h3⟩ := hs.hs.ob g _ hg
  rcases h1.2 with ⟨_, hz0⟩ | ⟨b', cap', cur, hv, hb0, hh, hn, hc, hs1, hs2⟩
  · omega
  · rw [hv0] at hv
    simp only [Value.slice.injEq, Option.some.injEq, Addr.mk.injEq, and_true] at hv
    obtain ⟨rfl, _, rfl⟩ := hv
    have hs1' : cur.size = cap := by have : intE.sz = 1 := rfl; rw [this, Nat.mul_one] at hs1; exact hs1
    have hrun := run_clear_row (P := C.P) w ty e o.type (.int .i64 0) hu (zeroV_run hz) rfl rfl b o' m c cur e hh hm (by omega)
    have hFg : ∀ k, F g k ↔ k = b := fun k => by rw [h3, hv0]; simp [Value.ownBlock, eq_comm]
    generalize hcs : cur.toList.take o' ++ List.replicate m (.int .i64 0) ++ cur.toList.drop (o' + m) = cs at hrun
    have hbut : But (F g) w (w.setRow b cs.toArray) := ⟨rfl, rfl, rfl, by simp, fun k _ hn => setRow_other w b k _ fun e => hn ((hFg k).2 e)⟩
    have hFut : Fut S w S (w.setRow b cs.toArray) := ⟨fun _ h => h, fun k hk hl => hbut.block k hl fun hf => hs.hs.out g _ hg rfl k hf hk⟩
    have hcl : cur.toList.length = cap := by rw [Array.length_toList, hs1']
    have hcsl : cs.length = cap := by rw [← hcs]; simp; omega
    have hxl : (xs.take o' ++ List.replicate m (0 : Int)).length = xs.length := by simp; omega
    obtain ⟨hw, _⟩ := hs.turn (x' := .obj (atS (rowV b xs.length cap) (ownS e intE (xs.take o' ++ List.replicate m 0)))) hg rfl hbut (fun T l' e => by cases e) (fun R e0 => by
      cases e0
      refine ⟨hv0, ⟨us.take o' ++ List.replicate m (.int .i64 0), ⟨?_, .inr ⟨b, cap, cs.toArray, by rw [hv0, hxl], hb0, setRow_heap w b cur _ e (0, 0) hh, by omega, hc, by rw [List.size_toArray, hcsl]; exact (Nat.mul_one _).symm, ?_⟩⟩, ?_⟩, h3⟩
      · have : us.length = xs.length := by rw [h1.1]; exact Nat.mul_one _
        rw [hxl]
        simp [intE]
        omega
      · rw [hxl, List.toList_toArray, ← hcs, show xs.length * intE.sz = xs.length from Nat.mul_one _]
        have hs3 : cur.toList.take xs.length = us := by rw [← hs2]; congr 1; exact (Nat.mul_one _).symm
        rw [List.take_append_of_le_length (by simp; omega), ← hs3, List.take_take, Nat.min_eq_left (by omega)]
        exact List.take_of_length_le (by simp; omega)
      · rw [intE.all_append]
        refine AVRs.append ?_ ?_
        · rw [intE_all, List.map_take, ← intE_all]
          exact (h2.fut hFut fun _ _ => rfl).take _
        · rw [intE_all, List.map_replicate, ← List.map_replicate (f := AV.v)]
          exact AVRs_v _)
    refine Does.value (v := .tuple #[]) (w' := w.setRow b cs.toArray) ?_ ⟨ι, F, S, hw, hFut, fun _ _ => rfl, ?_⟩
    · simp [execOp, ho, resolve, invoke, builtin, hx, hrun]
    · simp [AVR, AVRs]
end
section
variable {C : Cx} {k : List Item} {t : List (Nat × AV)} {r : List (Nat × RK)} {ops : Array Oper} {rest : List Oper}
variable {d : Nat} {ty ty' : TypeId} {pos : String} {af : Array Edge} {x y z : Operand} {g : Nat}
theorem v_lenV {a : Option Addr} {n c : Nat} {e : TypeId} (hE : sliceE C.P ty' = some e) (hx : evalA t x = some (.v (.slice a n c))) (hn : Nat.blt d C.N = true) (hk : RunL C ops rest ⟨(d, .v (.int .i64 n)) :: t, r⟩ k) : RunL C ops (⟨some d, .call { callee := .builtin .len, args := #[x], argTypes := #[ty'] }, ty, pos, af, none⟩ :: rest) ⟨t, r⟩ k := runL_pure _ rfl rfl hn (rd1 hx) (op_len_val rfl hE) hk
theorem v_fromV {b o' n c : Nat} {kd : IntKind} {m : Int} {e : TypeId} {i : TyI} (hE : sliceE C.P ty' = some e) (hi : tyI C.P e = some i) (hx : evalA t x = some (.v (rowO b o' n c))) (hy : evalA t y = some (.v (.int kd m))) (hsz : i.size = 1) (h0 : 0 ≤ m) (hm : m < n) (hc : n ≤ c) (hn : Nat.blt d C.N = true) (hk : RunL C ops rest ⟨(d, .v (rowO b (o' + m.toNat) (n - m.toNat) (c - m.toNat))) :: t, r⟩ k) : RunL C ops (⟨some d, .slice ty' x (some y) none none, ty, pos, af, none⟩ :: rest) ⟨t, r⟩ k := runL_pure _ rfl rfl hn (rd2 hx hy) (op_from_val rfl hE hi hsz h0 hm hc) hk
theorem v_toV {b o' n c : Nat} {kd : IntKind} {m : Int} {e : TypeId} {i : TyI} (hE : sliceE C.P ty' = some e) (hi : tyI C.P e = some i) (hx : evalA t x = some (.v (rowO b o' n c))) (hy : evalA t y = some (.v (.int kd m))) (h0 : 0 ≤ m) (hm : m ≤ c) (hn : Nat.blt d C.N = true) (hk : RunL C ops rest ⟨(d, .v (rowO b o' m.toNat c)) :: t, r⟩ k) : RunL C ops (⟨some d, .slice ty' x none (some y) none, ty, pos, af, none⟩ :: rest) ⟨t, r⟩ k := runL_pure _ rfl rfl hn (rd2 hx hy) (op_to_val rfl hE hi h0 hm) hk
theorem v_clearU {b cap o' m c : Nat} {e : TypeId} {i : TyI} {xs : List Int} (hE : sliceE C.P ty' = some e) (hz : zeroV C.P e = some (.int .i64 0)) (hx : evalA t x = some (.v (rowO b o' m c))) (hg : look r g = some (.obj (atS (rowV b xs.length cap) (ownS e intE xs)))) (hi : tyI C.P e = some i) (hm : 0 < m) (hom : o' + m = xs.length) (hk : RunL C ops rest ⟨t, (g, .obj (atS (rowV b xs.length cap) (ownS e intE (xs.take o' ++ List.replicate m 0)))) :: r⟩ k) : RunL C ops (⟨none, .call { callee := .builtin .clear, args := #[x], argTypes := #[ty'] }, ty, pos, af, none⟩ :: rest) ⟨t, r⟩ k := runL_eff0 _ [] rfl rfl (rd1 hx) rfl (op_clearU (i := i) rfl hg hE hz hm hom) hk
end
end Go.Proofs.Ytjkidecaciomgaa
