/- VL, part 16: left as it is, within a region. -/
import Derived.Test.YtjkidecaciomgaaBC
import Derived.ArgAppend
namespace Go.Proofs.Ytjkidecaciomgaa
set_option linter.unusedVariables false
set_option linter.unusedSimpArgs false
open Go.RowKit
section
variable {C : Cx} {k : List Item} {t : List (Nat × AV)} {r : List (Nat × RK)}
/-- A row that a box names is left as it is. -/
theorem runL_freezeIn {ops : Array Oper} {ls : List Oper} (g g1 : Nat) {T : TypeId} {l : List AV} {α : Type} {e : TypeId} {E : Enc α} {xs : List α} (hg : look r g = some (.box T l)) (hg1 : look r g1 = some (.obj (ownS e E xs))) (hne : Nat.beq g g1 = false) (h : RunL C ops ls ⟨t, (g, .box T (l.map (sinkA g1 (listS E xs)))) :: (g1, .dead) :: r⟩ k) : RunL C ops ls ⟨t, r⟩ k := .mk fun a w hs => by
  obtain ⟨ι, F, S, hA⟩ := hs
  have hne' : g ≠ g1 := fun e => by subst e; simp at hne
  have hd := hA.sw.drop g1 hg1 rfl
  have hF : Fut S w (fun k => S k ∨ F g1 k) w := ⟨fun k hk => .inl hk, fun _ _ _ => rfl⟩
  have hg' : look ((g1, RK.dead) :: r) g = some (.box T l) := by rw [look_cons, if_neg (Ne.symm hne')]; exact hg
  obtain ⟨b, h1, h2, cs, h3, h4⟩ := hd.hs.bx g T l hg'
  have hp : (listS E xs).R w (fun k => S k ∨ F g1 k) (ι g1) := ownS_list (hA.sw.hs.ob g1 _ hg1) (fun k hk => .inl hk) (fun k hk => .inr hk)
  obtain ⟨hw, _⟩ := hd.turn (x' := .box T (l.map (sinkA g1 (listS E xs)))) hg' rfl (But.refl _ _) (fun T' l' e => by cases e; exact ⟨b, h1, h2, cs, h3, sink_R hp h4⟩) (fun R' e => by cases e)
  exact h.go a w ⟨ι, F, _, hw, hA.ts.fut hF fun _ _ _ _ _ => rfl, hA.sz, hA.df⟩
/-- A box is left as it is. -/
theorem runL_pub {ops : Array Oper} {ls : List Oper} (n g : Nat) {T : TypeId} {l : List AV} (hx : look t n = some (.ptr g 0)) (hg : look r g = some (.box T l)) (hl : AV.leaves l = true) (h : RunL C ops ls ⟨(n, .sem (adrS l)) :: t, (g, .dead) :: r⟩ k) : RunL C ops ls ⟨t, r⟩ k := .mk fun a w hs => by
  obtain ⟨ι, F, S, hA⟩ := hs
  have hF : Fut S w (fun k => S k ∨ F g k) w := ⟨fun k hk => .inl hk, fun _ _ _ => rfl⟩
  refine h.go a w ⟨ι, F, _, hA.sw.drop g hg rfl, fun m z hz => ?_, hA.sz, hA.df⟩
  rw [look_cons] at hz
  by_cases hm : n = m
  · subst hm
    rw [if_pos rfl] at hz
    cases hz
    obtain ⟨u, h1, h2⟩ := hA.ts n _ hx
    simp only [AVR] at h2
    obtain ⟨b', hb', rfl⟩ := h2
    obtain ⟨b, e1, e2, cs, e3, e4⟩ := hA.sw.hs.bx g T l hg
    rw [e1] at hb'
    obtain rfl : b = b' := by simpa [baseOf] using hb'
    refine ⟨_, h1, ?_⟩
    simp only [AVR]
    refine ⟨b, 0, rfl, .inr ((e2 b).2 rfl), cs.toList, (e4.leaf_any hl).fut hF fun _ _ => rfl, fun j u hu => ?_⟩
    rw [Addr.add_lit, Nat.zero_add, cell_of_row w b _ cs T (0, 0) e3, ← Array.getElem?_toList]
    exact hu
  · rw [if_neg hm] at hz
    obtain ⟨u, h1, h2⟩ := hA.ts m z hz
    exact ⟨u, h1, h2.fut hF fun _ _ => rfl⟩
end
/-! ### A list without room behind it -/
def fullS {α : Type} (E : Enc α) (xs : List α) : Sem where
  R := fun w S v => ∃ ad, v = .slice (some ad) xs.length xs.length ∧ RowAt w S (some ad) (E.all xs)
  one := by
    rintro w S v ⟨A, rfl, _⟩
    rfl
  fut := by
    rintro w w' S S' v hm hw ⟨A, rfl, h⟩
    exact ⟨A, rfl, h.fut hm hw⟩
/-- A row that may be appended to: its own, or without room. -/
def appS {α : Type} (e : TypeId) (E : Enc α) (xs : List α) : Res where
  H := fun w S F v => (ownS e E xs).H w S F v ∨ ((fullS E xs).R w S v ∧ ∀ k, ¬ F k)
  one := by
    rintro w S F v (h | ⟨h, _⟩)
    · exact (ownS e E xs).one h
    · exact (fullS E xs).one h
  bnd := by
    rintro w S F v (h | ⟨_, h⟩) k hk
    · exact (ownS e E xs).bnd h k hk
    · exact absurd hk (h k)
  fut := by
    rintro w w' S S' F v hm hw (h | ⟨h, hn⟩)
    · exact .inl ((ownS e E xs).fut hm hw h)
    · exact .inr ⟨(fullS E xs).fut hm (fun k hk => hw k (.inl hk)) h, hn⟩
theorem SimW.congrL {C : Cx} {r r' : List (Nat × RK)} {ι : Nat → Value} {F : Nat → Bl} {S : Bl} {w : World} (h : SimW C r ι F S w) (he : ∀ g, look r' g = look r g) : SimW C r' ι F S w :=
  ⟨⟨fun g T l hg => h.hs.bx g T l (by rw [← he]; exact hg), fun g R hg => h.hs.ob g R (by rw [← he]; exact hg), fun g g' x x' hg hg' => h.hs.dis g g' x x' (by rw [← he]; exact hg) (by rw [← he]; exact hg'), fun g x hg => h.hs.out g x (by rw [← he]; exact hg), h.hs.bnd⟩, h.but, fun g x hg => h.own g x (by rw [← he]; exact hg), h.sb, h.fut, h.keep⟩
section
variable {C : Cx} {r : List (Nat × RK)} {o : Oper} {x y z : Operand} {ty : TypeId} {g : Nat}
theorem op_slice_m {α : Type} {E : Enc α} {xs : List α} {k k' : IntKind} {m : Int} {e : TypeId} {i : TyI} (ho : o.op = .slice ty x none (some y) (some z)) (hE : sliceE C.P ty = some e) (hi : tyI C.P e = some i) (hsz : i.size = E.sz) (hs0 : 0 < E.sz) (h0 : 0 ≤ m) (hm : m < xs.length) : OpPure C r o [(x, .sem (listS E xs)), (y, .v (.int k m)), (z, .v (.int k' m))] (.sem (fullS E (xs.take m.toNat))) := OpPure.here fun ι F S w ρ hs hr => by
  have hx := hr (x, .sem (listS E xs)) (by simp)
  have hv := hr (y, .v (.int k m)) (by simp)
  have hz := hr (z, .v (.int k' m)) (by simp)
  simp only [AVR] at hx hv hz ⊢
  obtain ⟨A, c, hx, hc, hA⟩ := hx
  have hu := sliceE_spec hE
  have hh : m.toNat ≤ xs.length := by omega
  have hlen : (xs.take m.toNat).length = m.toNat := by rw [List.length_take, Nat.min_eq_left hh]
  have hmc : m ≤ (c : Int) := by omega
  have hcut := cut_row hA hc (Nat.zero_le m.toNat) hh
  rw [Nat.zero_mul, List.drop_zero] at hcut
  have hc0 : c ≠ 0 := by omega
  rw [if_neg hc0] at hcut
  have hne : E.all xs ≠ [] := fun e => by
    have := E.all_len xs
    rw [e] at this
    have h6 := Nat.mul_pos (show 0 < xs.length by omega) hs0
    rw [← this] at h6
    cases h6
  obtain ⟨b, off, rfl, hb⟩ := hA.resolve_left hne
  refine ⟨.slice (some ((⟨b, off, none⟩ : Addr).add 0)) m.toNat m.toNat, ?_, (⟨b, off, none⟩ : Addr).add 0, by rw [hlen], hcut⟩
  by_cases hm0 : m.toNat = 0
  · have hm1 : m = 0 := by omega
    subst hm1
    simp [execOp, ho, Instr.sliceAt, run_underlying hu, hx, hv, hz, Instr.slice, Instr.sliceBounds, Instr.sliceBound, asIntOf, hmc, run_sizeOf hi, hsz]
    rfl
  · simp [execOp, ho, Instr.sliceAt, run_underlying hu, hx, hv, hz, Instr.slice, Instr.sliceBounds, Instr.sliceBound, asIntOf, h0, hmc, run_sizeOf hi, hsz, hm0]
    intro hb
    exfalso
    omega
theorem op_appendA {α : Type} {e : TypeId} {E : Enc α} {xs ys : List α} {i : TyI} (g' : Nat) (ho : o.op = .call { callee := .builtin .append, args := #[x, y], argTypes := #[ty, ty] }) (hg : look r g = some (.obj (appS e E xs))) (hE : sliceE C.P ty = some e) (hi : tyI C.P e = some i) (hsz : i.size = E.sz) (hz : i.zero.length = E.sz) (h0 : 0 < E.sz) (hy0 : ys ≠ []) (hm : xs.length + ys.length ≤ 1000000) (hby : i.bytes ≤ 100000000) (hf : freshR g' r = true) (hr0 : look C.r0 g' = none) : OpEff C r o [(x, .res g), (y, .sem (listS E ys))] (.res g') ((g', .obj (appS e E (xs ++ ys))) :: (g, .dead) :: r) [g'] := fun ι F S w ρ hs hr => by
  rcases hs.hs.ob g _ hg with hown | ⟨hfull, hno⟩
  · obtain ⟨hw, _⟩ := hs.turn (x' := .obj (ownS e E xs)) hg rfl (But.refl _ _) (fun _ _ e => by cases e) (fun R' e => by cases e; exact hown)
    refine (op_append (r := (g, .obj (ownS e E xs)) :: r) g' ho (by rw [look_cons, if_pos rfl]) hE hi hsz hz h0 hm hby (by simp [freshR, RK.has, hf]) hr0 ι F S w ρ hw hr).mono fun u w' hh => ?_
    obtain ⟨ι', F', S', h1, h2, h3, h4⟩ := hh
    obtain ⟨h5, _⟩ := h1.turn (g := g') (x := .obj (ownS e E (xs ++ ys))) (x' := .obj (appS e E (xs ++ ys))) (by rw [look_cons, if_pos rfl]) rfl (But.refl _ _) (fun _ _ e => by cases e) (fun R' e0 => by cases e0; exact .inl (h1.hs.ob g' _ (by rw [look_cons, if_pos rfl])))
    refine ⟨ι', F', S', h5.congrL fun n => ?_, h2, h3, h4⟩
    simp only [look_cons]
    by_cases e1 : g' = n
    · simp [e1]
    · by_cases e2 : g = n
      · simp [e1, e2]
      · simp [e1, e2]
  · have hx := hr (x, .res g) (by simp)
    have hy := hr (y, .sem (listS E ys)) (by simp)
    simp only [AVR] at hx hy
    obtain ⟨ad, hfv, hrow⟩ := hfull
    obtain ⟨A, c, hy, hc, hA⟩ := hy
    obtain ⟨ti, d, z, t1, t2, t3, t4, t5, t6, t7⟩ := tyI_info hi
    have hu := sliceE_spec hE
    have hyp : 0 < ys.length := List.length_pos_iff.2 hy0
    have hne : E.all ys ≠ [] := fun e => by
      have := E.all_len ys
      rw [e] at this
      have h6 := Nat.mul_pos hyp h0
      rw [← this] at h6
      cases h6
    obtain ⟨b, off, rfl, hb, vs, v1, v2⟩ := hA.resolve_left hne
    obtain ⟨us, u1, u2⟩ : ∃ us, AVRs ι0 S w (E.all xs) us ∧ ∀ j u, us[j]? = some u → w.cell? (ad.add j) = some u := by
      rcases hrow with hrow | ⟨b', off', e1, _, us, u1, u2⟩
      · exact ⟨[], by rw [hrow]; rfl, fun j u h => by simp at h⟩
      · injection e1 with e1
        exact ⟨us, u1, fun j u h => by rw [e1]; exact u2 j u h⟩
    obtain ⟨v', w', hrun, a1, a2⟩ := run_append_arg_grows (P := C.P) w ty o.type e ti z E.sz i.bytes hu t1 t3 (by rw [t5, hsz]) t6 (by rw [← Array.length_toList, t7, hz]) h0 ad xs.length xs.length us (by rw [u1.length, E.all_len]) u2 ⟨b, off, none⟩ ys.length c vs (by rw [v1.length, E.all_len]) v2 (by omega) (by unfold maxLen; omega) (by
      calc (xs.length + ys.length) * i.bytes ≤ 1000000 * 100000000 := Nat.mul_le_mul hm hby
        _ ≤ 140737488355328 := by decide)
    have hbl : Below w.heap.size w w' := ⟨a2.os, a2.tape, a2.output, a2.size, fun k hk => a2.block k hk (by simp)⟩
    obtain ⟨hk, hFut⟩ := hs.kill hg rfl (But.of_below hbl)
    have hrun' : (execOp ρ o).run C.P w = .ok (.value v') w' := by
      simp [execOp, ho, resolve, invoke, builtin, hx.1, hfv, hy, hrun]
    have hfr : freshR g' ((g, RK.dead) :: r) = true := by simp [freshR, RK.has, hf]
    have hG : ∀ k, v'.ownBlock = some k → w.heap.size ≤ k := fun k hk => by
      rcases a1.2 with ⟨rfl, _⟩ | ⟨g1, cap, cur, rfl, h3, _⟩
      · simp [Value.ownBlock] at hk
      · simp [Value.ownBlock] at hk
        omega
    have hb2 : (appS e E (xs ++ ys)).H w' S (fun k => v'.ownBlock = some k) v' := by
      refine .inl ⟨⟨us ++ vs, ⟨by rw [a1.1, List.length_append], ?_⟩, by rw [E.all_append]; exact (u1.fut hFut fun _ _ => rfl).append (v1.fut hFut fun _ _ => rfl)⟩, fun _ => Iff.rfl⟩
      rcases a1.2 with h | ⟨g1, cap, cur, h2, _, h3⟩
      · exact .inl (by rw [List.length_append]; exact h)
      · exact .inr ⟨g1, cap, cur, by rw [List.length_append]; exact h2, Nat.zero_le _, by rw [List.length_append]; exact h3⟩
    refine Does.value hrun' ⟨_, _, S, hk.add (g := g') (x := .obj (appS e E (xs ++ ys))) (v := v') (G := fun k => v'.ownBlock = some k) hfr hr0 (fun T l e => by cases e) (fun R e => by cases e; exact hb2) (fun k hk => ?_) (fun k hk hS => ?_) (fun n y hn hy hne k hk hk' => ?_), hFut, fun j hj => newI_other (mem_one hj), ?_⟩
    · have := hG k hk
      have := hs.but.size
      exact .inl (by omega)
    · have := hG k hk
      have := hs.hs.bnd _ hS
      omega
    · rw [look_cons] at hn
      by_cases e1 : g = n
      · rw [if_pos e1] at hn; cases hn; cases hy
      · rw [if_neg e1] at hn
        have := hG k hk'
        have := hs.hs.lt hn hy hk
        omega
    · simp only [AVR, newI_same]
      exact ⟨trivial, (appS e E (xs ++ ys)).one hb2⟩
end
section
variable {C : Cx} {r : List (Nat × RK)} {o : Oper} {x y : Operand} {ty : TypeId} {g : Nat}
theorem op_appendF {α : Type} {e : TypeId} {E : Enc α} {xs ys : List α} {i : TyI} (g' : Nat) (ho : o.op = .call { callee := .builtin .append, args := #[x, y], argTypes := #[ty, ty] }) (hg : look r g = some (.obj (ownS e E xs))) (hE : sliceE C.P ty = some e) (hi : tyI C.P e = some i) (hsz : i.size = E.sz) (hz : i.zero.length = E.sz) (h0 : 0 < E.sz) (hm : xs.length + ys.length ≤ 1000000) (hby : i.bytes ≤ 100000000) (hf : freshR g' r = true) (hr0 : look C.r0 g' = none) : OpEff C r o [(x, .res g), (y, .sem (listS E ys))] (.sem (listS E (xs ++ ys))) ((g', .dead) :: (g, .dead) :: r) [g'] := fun ι F S w ρ hs hr => by
  refine (op_append g' ho hg hE hi hsz hz h0 hm hby hf hr0 ι F S w ρ hs hr).mono fun u w' hh => ?_
  obtain ⟨ι', F', S', h1, h2, h3, h4⟩ := hh
  have hob := h1.hs.ob g' _ (by rw [look_cons, if_pos rfl])
  have h5 := h1.drop g' (by rw [look_cons, if_pos rfl]) rfl
  have hF : Fut S' w' (fun k => S' k ∨ F' g' k) w' := ⟨fun k hk => .inl hk, fun _ _ _ => rfl⟩
  refine ⟨ι', F', _, h5.congrL fun n => ?_, ⟨fun k hk => .inl (h2.mono k hk), h2.same⟩, h3, ?_⟩
  · simp only [look_cons]
    by_cases e1 : g' = n
    · simp [e1]
    · simp [e1]
  · simp only [AVR] at h4 ⊢
    rw [h4.1]
    exact ownS_list hob (fun k hk => .inl hk) (fun k hk => .inr hk)
end
section
variable {C : Cx} {k : List Item} {t : List (Nat × AV)} {r : List (Nat × RK)} {ops : Array Oper} {rest : List Oper}
variable {d : Nat} {ty ty' : TypeId} {pos : String} {af : Array Edge} {x y z : Operand} {g : Nat}
theorem v_sliceM {α : Type} {E : Enc α} {xs : List α} {kd kd' : IntKind} {m : Int} {e : TypeId} {i : TyI} (hE : sliceE C.P ty' = some e) (hi : tyI C.P e = some i) (hx : evalA t x = some (.sem (listS E xs))) (hy : evalA t y = some (.v (.int kd m))) (hz : evalA t z = some (.v (.int kd' m))) (hsz : i.size = E.sz) (hs0 : Nat.blt 0 E.sz = true) (h0 : 0 ≤ m) (hm : m < xs.length) (hn : Nat.blt d C.N = true) (hk : RunL C ops rest ⟨(d, .sem (fullS E (xs.take m.toNat))) :: t, r⟩ k) : RunL C ops (⟨some d, .slice ty' x none (some y) (some z), ty, pos, af, none⟩ :: rest) ⟨t, r⟩ k :=
  runL_pure _ rfl rfl hn (rdX hx (rd2 hy hz)) (op_slice_m rfl hE hi hsz (Nat.le_of_ble_eq_true hs0) h0 hm) hk
theorem v_appendA {α : Type} {e : TypeId} {E : Enc α} {xs ys : List α} {i : TyI} (hE : sliceE C.P ty' = some e) (hi : tyI C.P e = some i) (hx : evalA t x = some (.res g)) (hg : look r g = some (.obj (appS e E xs))) (hy : evalA t y = some (.sem (listS E ys))) (hsz : i.size = E.sz) (hz : i.zero.length = E.sz) (h0 : Nat.blt 0 E.sz = true) (hy0 : ys ≠ []) (hby : Nat.ble i.bytes 100000000 = true) (hm : xs.length + ys.length ≤ 1000000) (hf : freshR d r = true) (hft : freshT d t = true) (hr0 : look C.r0 d = none) (hn : Nat.blt d C.N = true) (hk : RunL C ops rest ⟨(d, .res d) :: t, (d, .obj (appS e E (xs ++ ys))) :: (g, .dead) :: r⟩ k) : RunL C ops (⟨some d, .call { callee := .builtin .append, args := #[x, y], argTypes := #[ty', ty'] }, ty, pos, af, none⟩ :: rest) ⟨t, r⟩ k :=
  runL_eff _ [d] rfl rfl hn (rd2 hx hy) (by simp [freshTs, hft]) (op_appendA d rfl hg hE hi hsz hz (Nat.le_of_ble_eq_true h0) hy0 hm (Nat.le_of_ble_eq_true hby) hf hr0) hk
theorem v_appendF {α : Type} {e : TypeId} {E : Enc α} {xs ys : List α} {i : TyI} (hE : sliceE C.P ty' = some e) (hi : tyI C.P e = some i) (hx : evalA t x = some (.res g)) (hg : look r g = some (.obj (ownS e E xs))) (hy : evalA t y = some (.sem (listS E ys))) (hsz : i.size = E.sz) (hz : i.zero.length = E.sz) (h0 : Nat.blt 0 E.sz = true) (hby : Nat.ble i.bytes 100000000 = true) (hm : xs.length + ys.length ≤ 1000000) (hf : freshR d r = true) (hft : freshT d t = true) (hr0 : look C.r0 d = none) (hn : Nat.blt d C.N = true) (hk : RunL C ops rest ⟨(d, .sem (listS E (xs ++ ys))) :: t, (d, .dead) :: (g, .dead) :: r⟩ k) : RunL C ops (⟨some d, .call { callee := .builtin .append, args := #[x, y], argTypes := #[ty', ty'] }, ty, pos, af, none⟩ :: rest) ⟨t, r⟩ k :=
  runL_eff _ [d] rfl rfl hn (rd2 hx hy) (by simp [freshTs, hft]) (op_appendF d rfl hg hE hi hsz hz (Nat.le_of_ble_eq_true h0) hm (Nat.le_of_ble_eq_true hby) hf hr0) hk
theorem p_appendF {t0 : List (Nat × AV)} {r0 : List (Nat × RK)} {qs : List PIt} {gd : Option (Nat × Bool)} {α : Type} {e : TypeId} {E : Enc α} {xs ys : List α} {i : TyI} (hE : sliceE C.P ty' = some e) (hi : tyI C.P e = some i) (hx : evalA t x = some (.res g)) (hg : look r g = some (.obj (ownS e E xs))) (hy : evalA t y = some (.sem (listS E ys))) (hsz : i.size = E.sz) (hz : i.zero.length = E.sz) (h0 : Nat.blt 0 E.sz = true) (hby : Nat.ble i.bytes 100000000 = true) (hm : xs.length + ys.length ≤ 1000000) (hr0 : look C.r0 d = none) (hn : Nat.blt d C.N = true) (hgd : wantedA t ops ⟨some d, .call { callee := .builtin .append, args := #[x, y], argTypes := #[ty', ty'] }, ty, pos, af, gd⟩ = some true) (hk : PlanL C ops t0 r0 (⟨some d, .sem (listS E (xs ++ ys)), [(d, .dead), (g, .dead)], [g], [d]⟩ :: qs) rest ⟨(d, .sem (listS E (xs ++ ys))) :: t, (d, .dead) :: (g, .dead) :: r⟩ k) : PlanL C ops t0 r0 qs (⟨some d, .call { callee := .builtin .append, args := #[x, y], argTypes := #[ty', ty'] }, ty, pos, af, gd⟩ :: rest) ⟨t, r⟩ k :=
  planL_eff _ [(d, .dead), (g, .dead)] [g] [d] (rd2_ok (by simp [Op.operands, Call.operands]) (by simp [Op.operands, Call.operands])) hgd rfl hn (rd2 hx hy) (fun r' hF hN => op_appendF d rfl ((hF g (List.mem_singleton.2 rfl)).trans hg) hE hi hsz hz (Nat.le_of_ble_eq_true h0) hm (Nat.le_of_ble_eq_true hby) (hN d (List.mem_singleton.2 rfl)) hr0) hk
/-- A list without room, as a row that may be appended to. -/
theorem run_app (n g : Nat) {α : Type} (e : TypeId) {E : Enc α} {xs : List α} (hx : look t n = some (.sem (fullS E xs))) (hf : freshR g r = true) (hft : freshT g t = true) (h0 : look C.r0 g = none) (h : Run C k ⟨(n, .res g) :: t, (g, .obj (appS e E xs)) :: r⟩) : Run C k ⟨t, r⟩ := .mk fun a w hs => by
  obtain ⟨ι, F, S, hA⟩ := hs
  obtain ⟨u, h1, h2⟩ := hA.ts n _ hx
  simp only [AVR] at h2
  have hw := hA.sw.add (x := .obj (appS e E xs)) (v := u) (G := fun _ => False) hf h0 (fun T l he => by cases he) (fun R he => by cases he; exact .inr ⟨h2, fun _ h => h⟩) (fun k hk => hk.elim) (fun k hk => hk.elim) (fun _ _ _ _ _ _ _ hk => hk)
  refine h.go a w ⟨_, _, S, hw, fun m z hz => ?_, hA.sz, hA.df⟩
  rw [look_cons] at hz
  by_cases hm : n = m
  · subst hm
    rw [if_pos rfl] at hz
    cases hz
    exact ⟨_, h1, by simp [AVR, newI_same, (fullS E xs).one h2]⟩
  · rw [if_neg hm] at hz
    obtain ⟨u, h1, h2⟩ := hA.ts m z hz
    exact ⟨u, h1, h2.fut (Fut.refl _ _) fun i hi => newI_other fun e => by subst e; rw [freshT_look hft hz] at hi; cases hi⟩
theorem run_freezeA (n g : Nat) {α : Type} {e : TypeId} {E : Enc α} {xs : List α} (hx : look t n = some (.res g)) (hg : look r g = some (.obj (appS e E xs))) (h : Run C k ⟨(n, .sem (listS E xs)) :: t, (g, .dead) :: r⟩) : Run C k ⟨t, r⟩ := .mk fun a w hs => by
  obtain ⟨ι, F, S, hA⟩ := hs
  have hF : Fut S w (fun k => S k ∨ F g k) w := ⟨fun k hk => .inl hk, fun _ _ _ => rfl⟩
  refine h.go a w ⟨ι, F, _, hA.sw.drop g hg rfl, fun m z hz => ?_, hA.sz, hA.df⟩
  rw [look_cons] at hz
  by_cases hm : n = m
  · subst hm
    rw [if_pos rfl] at hz
    cases hz
    obtain ⟨u, h1, h2⟩ := hA.ts n _ hx
    simp only [AVR] at h2
    refine ⟨u, h1, ?_⟩
    simp only [AVR]
    rw [h2.1]
    rcases hA.sw.hs.ob g _ hg with h3 | ⟨⟨ad, h3, h4⟩, _⟩
    · exact ownS_list h3 (fun k hk => .inl hk) (fun k hk => .inr hk)
    · exact ⟨some ad, xs.length, h3, Nat.le_refl _, h4.fut hF.mono hF.same⟩
  · rw [if_neg hm] at hz
    obtain ⟨u, h1, h2⟩ := hA.ts m z hz
    exact ⟨u, h1, h2.fut hF fun _ _ => rfl⟩
end
end Go.Proofs.Ytjkidecaciomgaa
