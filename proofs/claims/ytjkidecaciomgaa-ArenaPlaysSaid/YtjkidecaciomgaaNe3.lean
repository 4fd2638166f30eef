/- Rows within rows: the rules; a store into one of the many; what is owned, lent. -/
import Derived.Test.YtjkidecaciomgaaNe2
namespace Go.Proofs.Ytjkidecaciomgaa
set_option linter.unusedVariables false
set_option linter.unusedSimpArgs false
set_option maxRecDepth 100000
open Go.RowKit
section
variable {C : Cx} {k : List Item} {t t0 : List (Nat × AV)} {r r0 : List (Nat × RK)} {β : Type} {e T : TypeId} {E : Enc β} {ops : Array Oper} {rs : List Oper} {qs : List PIt} {o : Oper}
variable {d g g2 h : Nat} {ty ty' t2 : TypeId} {pos : String} {af : Array Edge} {x y : Operand} {gd : Option (Nat × Bool)} {done rest : List (List β)} {l ks : List β}
theorem op_lenN {e' : TypeId} {n : Nat} (ho : o.op = .call { callee := .builtin .len, args := #[x], argTypes := #[ty] }) (hg : look r g = some (.obj (nestP T e E done rest))) (hE : sliceE C.P ty = some e') (hn : done.length + rest.length = n) : OpPure C r o [(x, .res g)] (.v (.int .i64 n)) := OpPure.here fun ι F S w ρ hs hr => by
  have hx := hr (x, .res g) (by simp)
  simp only [AVR] at hx ⊢
  obtain ⟨ps, F1, F2, q0, q1, ⟨⟨us, h1, h2⟩, h3⟩, q3, q4⟩ := hs.hs.ob g _ hg
  have hl : ps.length = done.length := by rw [← q4, List.length_map]
  rw [mixL_length, hl, hn] at h1
  obtain ⟨hu, hel⟩ := sliceE_elem hE
  rcases h1.2 with ⟨hv, h0⟩ | ⟨b, cap, cur, hv, _⟩
  · exact ⟨.int .i64 n, by simp [execOp, ho, resolve, invoke, builtin, hx.1, hv, run_len_slice _ _ _ _ _ _ hu, goInt, h0], rfl⟩
  · exact ⟨.int .i64 n, by simp [execOp, ho, resolve, invoke, builtin, hx.1, hv, run_len_slice _ _ _ _ _ _ hu, goInt], rfl⟩
theorem v_lenN' {e' : TypeId} (n : Nat) (hE : sliceE C.P ty' = some e') (hx : evalA t x = some (.res g)) (hg : look r g = some (.obj (nestP T e E done rest))) (hln : done.length + rest.length = n) (hn : Nat.blt d C.N = true) (hk : RunL C ops rs ⟨(d, .v (.int .i64 n)) :: t, r⟩ k) : RunL C ops (⟨some d, .call { callee := .builtin .len, args := #[x], argTypes := #[ty'] }, ty, pos, af, none⟩ :: rs) ⟨t, r⟩ k := runL_pure _ rfl rfl hn (rd1 hx) (op_lenN rfl hg hE hln) hk
theorem v_idxN {kd : IntKind} {m : Int} {e' : TypeId} {i : TyI} (hE : sliceE C.P ty' = some e') (hi : tyI C.P e' = some i) (hx : evalA t x = some (.res g)) (hg : look r g = some (.obj (nestP T e E done rest))) (hy : evalA t y = some (.v (.int kd m))) (hsz : i.size = 1) (h0 : 0 ≤ m) (hlt : m.toNat < done.length + rest.length) (hn : Nat.blt d C.N = true) (hk : RunL C ops rs ⟨(d, .ptr g m.toNat) :: t, r⟩ k) : RunL C ops (⟨some d, .indexAddr ty' x y, ty, pos, af, none⟩ :: rs) ⟨t, r⟩ k := runL_pure _ rfl rfl hn (rd2 hx hy) (op_idxN rfl hg hE hi hsz h0 hlt) hk
theorem p_idxN {kd : IntKind} {m : Int} {e' : TypeId} {i : TyI} (hE : sliceE C.P ty' = some e') (hi : tyI C.P e' = some i) (hx : evalA t x = some (.res g)) (hg : look r g = some (.obj (nestP T e E done rest))) (hy : evalA t y = some (.v (.int kd m))) (hsz : i.size = 1) (h0 : 0 ≤ m) (hlt : m.toNat < done.length + rest.length) (hn : Nat.blt d C.N = true) (hgd : wantedA t ops ⟨some d, .indexAddr ty' x y, ty, pos, af, gd⟩ = some true) (hk : PlanL C ops t0 r0 (⟨some d, .ptr g m.toNat, [], [g], []⟩ :: qs) rs ⟨(d, .ptr g m.toNat) :: t, r⟩ k) : PlanL C ops t0 r0 qs (⟨some d, .indexAddr ty' x y, ty, pos, af, gd⟩ :: rs) ⟨t, r⟩ k := planL_2 hgd rfl hn hx hy (by simp [Op.operands, Call.operands]) (by simp [Op.operands, Call.operands]) [g] (fun r' hF => op_idxN rfl ((hF g (List.mem_singleton.2 rfl)).trans hg) hE hi hsz h0 hlt) hk
theorem v_loadN {off : Nat} {i : TyI} (hi : tyI C.P ty' = some i) (h1 : i.agg = false) (h2 : i.size = 1) (hx : evalA t x = some (.ptr g off)) (hg : look r g = some (.obj (nestP T e E done (l :: rest)))) (hoff : off = done.length) (hn : Nat.blt d C.N = true) (hk : RunL C ops rs ⟨(d, .sem (listS E l)) :: t, r⟩ k) : RunL C ops (⟨some d, .load ty' x, ty, pos, af, none⟩ :: rs) ⟨t, r⟩ k := runL_pure _ rfl rfl hn (rd1 hx) (op_loadN rfl hg hoff hi h1 h2) hk
theorem p_storeN {off : Nat} {i : TyI} (hi : tyI C.P ty' = some i) (h2 : i.size = 1) (hx : evalA t x = some (.ptr g off)) (hy : evalA t y = some (.res g2)) (hg : look r g = some (.obj (nestP T e E done (l :: rest)))) (hg2 : look r g2 = some (.obj (ownS e E ks))) (hne : Nat.beq g2 g = false) (hoff : off = done.length) (hgd : wantedA t ops ⟨none, .store ty' x y, ty, pos, af, gd⟩ = some true) (hk : PlanL C ops t0 r0 (⟨none, .v undef, [(g, .obj (nestP T e E (done ++ [ks]) rest)), (g2, .dead)], [g, g2], []⟩ :: qs) rs ⟨t, (g, .obj (nestP T e E (done ++ [ks]) rest)) :: (g2, .dead) :: r⟩ k) : PlanL C ops t0 r0 qs (⟨none, .store ty' x y, ty, pos, af, gd⟩ :: rs) ⟨t, r⟩ k :=
  planL_eff0 _ [(g, .obj (nestP T e E (done ++ [ks]) rest)), (g2, .dead)] [g, g2] [] (rd2_ok (by simp [Op.operands]) (by simp [Op.operands])) hgd rfl (rd2 hx hy) (fun r' hF _ => op_storeN rfl ((hF g (by simp)).trans hg) ((hF g2 (by simp)).trans hg2) hne hoff hi h2) hk
/-- The outer row and the many, apart. -/
theorem run_openN (g h : Nat) {ls : List (List β)} (hg : look r g = some (.obj (nestP T e E ls []))) (hf : freshR h r = true) (hft : freshT h t = true) (h0 : look C.r0 h = none) (hne : Nat.beq h g = false) (hk : ∀ ps : List (SlV × List β), ps.map (·.2) = ls → Run C k ⟨t, (h, .obj (manyR e E ps)) :: (g, .obj (ownS T valE (ps.map (·.1)))) :: r⟩) : Run C k ⟨t, r⟩ := .mk fun a w hs => by
  refine (run_open (T := T) (e := e) (E := E) (ls := ls) (t := t) (r := (g, .obj (nestR T e E ls)) :: r) g h (by rw [look_cons, if_pos rfl]) ?_ hft h0 hne fun ps hps => ?_).go a w ?_
  · simp only [freshR, RK.has, hf]
    rfl
  · exact .mk fun a w hs => by
      obtain ⟨ι, F, S, hA⟩ := hs
      refine (hk ps hps).go a w ⟨ι, F, S, hA.sw.congr fun g' => ?_, hA.ts, hA.sz, hA.df⟩
      simp only [look_cons]
      by_cases e1 : h = g'
      · simp [e1]
      · by_cases e2 : g = g' <;> simp [e1, e2]
  · obtain ⟨ι, F, S, hA⟩ := hs
    obtain ⟨ps, F1, F2, q0, q1, q2, q3, q4⟩ := hA.sw.hs.ob g _ hg
    have q2' : (ownS T valE (ps.map (·.1))).H w S F1 (ι g) := own_same (E1 := mixE E) (E2 := valE) rfl (by rw [mixL_length]; simp) (by rw [mix_all, val_all]; simp) q2
    obtain ⟨hw, _⟩ := hA.sw.turn (x' := .obj (nestR T e E ls)) hg rfl (But.refl _ _) (fun _ _ e => by cases e) (fun R' e0 => by cases e0; exact ⟨ps, F1, F2, q0, q1, q2', q3, q4⟩)
    exact ⟨ι, F, S, hw, hA.ts, hA.sz, hA.df⟩
theorem op_storeM {ps : List (SlV × List β)} {i b cap off j f : Nat} {v v' : β} {ti : TyI} {V : AV} (ho : o.op = .store ty x y) (hg : look r h = some (.obj (manyR e E ps))) (hp : ps[i]? = some (⟨some ⟨b, 0, none⟩, l.length, cap⟩, l)) (hoff : off = j * E.sz + f) (hj : l[j]? = some v) (hi : tyI C.P ty = some ti) (hk : okC V = true) (hl : (cellsA V).length = ti.size) (hle : f + ti.size ≤ E.sz) (hlf : AV.leaves (cellsA V) = true) (hv : E.f v' = spliceL (E.f v) f (cellsA V)) : OpEff C r o [(x, .v (.pointer (some ⟨b, off, none⟩))), (y, V)] (.v undef) ((h, .obj (manyR e E (ps.set i (⟨some ⟨b, 0, none⟩, l.length, cap⟩, l.set j v')))) :: r) [] := fun ι F S w ρ hs hr => by
  have hx := hr (x, .v (.pointer (some ⟨b, off, none⟩))) (by simp)
  have hy := hr (y, V) (by simp)
  simp only [AVR] at hx
  obtain ⟨hpn, hM⟩ := hs.hs.ob h _ hg
  obtain ⟨Fi, g1, g2', g3⟩ := hM.at hp
  obtain ⟨⟨us, h1, h2⟩, h3⟩ := g2'
  have hlt := (List.getElem?_eq_some_iff.1 hj).1
  rcases h1.2 with ⟨_, h0⟩ | ⟨b1, cap1, cur, hvv, hbase, hh, hn, hcap, hsz, htk⟩
  · dsimp only at h0; omega
  · simp only [SlV.v, Value.slice.injEq, Option.some.injEq, Addr.mk.injEq, and_true, true_and] at hvv
    obtain ⟨rfl, rfl⟩ := hvv
    dsimp only at h1 h2 hn htk hlt
    have hvc := cellsA_R hy hk
    have hvl : (ρ y).cells.toList.length = ti.size := by rw [hvc.length]; exact hl
    have hcl : cur.toList.length = cur.size := Array.length_toList
    have hone := hvc.leaf_one hlf
    have hm1 : (j + 1) * E.sz ≤ l.length * E.sz := Nat.mul_le_mul_right _ (by omega)
    have hm2 : l.length * E.sz ≤ cap * E.sz := Nat.mul_le_mul_right _ hn
    rw [Nat.add_mul, Nat.one_mul] at hm1
    have hst := run_storeCells_at C.P b off e (ρ y).cells.toList 0 cur w hh (by omega) hone
    rw [Nat.add_zero] at hst
    have hsz2 : (ρ y).cells.size = ti.size := by rw [← Array.length_toList]; exact hvl
    have hrun : (Instr.storeAt ty (ρ x) (ρ y)).run C.P w = .ok () (w.setRow b (cur.toList.take off ++ (ρ y).cells.toList ++ cur.toList.drop (off + (ρ y).cells.toList.length)).toArray) := by
      rw [hx]
      simp only [Instr.storeAt, Instr.sureAddr, storeVar, Sem.run_bind, Sem.run_pure, Result.andThen_ok, run_sizeOf hi, hsz2, ne_eq, not_true, if_false]
      exact hst
    rw [← spliceL_eq _ _ _ (by omega)] at hrun
    have hFg : ∀ k, Fi k ↔ k = b := fun k => by rw [h3]; simp [SlV.v, Value.ownBlock, eq_comm]
    have hbutI : ∀ k, k < w.heap.size → ¬ Fi k → (w.setRow b (spliceL cur.toList off (ρ y).cells.toList).toArray).heap[k]? = w.heap[k]? := fun k _ hn => setRow_other w b k _ fun e => hn ((hFg k).2 e)
    have hSi : ∀ k, S k → ¬ Fi k := fun k hk hki => hs.hs.out h _ hg rfl k (g1 k hki) hk
    have hbut : But (F h) w (w.setRow b (spliceL cur.toList off (ρ y).cells.toList).toArray) := ⟨rfl, rfl, rfl, by simp, fun k hk hn => hbutI k hk fun hki => hn (g1 k hki)⟩
    have hFut : Fut S w S (w.setRow b (spliceL cur.toList off (ρ y).cells.toList).toArray) := ⟨fun _ h => h, fun k hk hl => hbutI k hl (hSi k hk)⟩
    obtain ⟨hw, _⟩ := hs.turn (x' := .obj (manyR e E (ps.set i (⟨some ⟨b, 0, none⟩, l.length, cap⟩, l.set j v')))) hg rfl hbut (fun T l' e => by cases e) (fun R e0 => by
      cases e0
      refine ⟨hpn, g3 _ _ (fun k hk hl => hbutI k hl (hk.elim (hSi k) id)) ⟨⟨spliceL us off (ρ y).cells.toList, ⟨by rw [spliceL_length, h1.1, List.length_set], .inr ⟨b, cap, _, by dsimp only; rw [List.length_set]; rfl, hbase, setRow_heap w b cur _ e (0, 0) hh, by rw [List.length_set]; exact hn, hcap, by rw [List.size_toArray, spliceL_length, Array.length_toList]; exact hsz, ?_⟩⟩, ?_⟩, h3⟩⟩
      · rw [List.toList_toArray, List.length_set, spliceL_take _ _ _ _ (by omega), htk]
      · dsimp only
        rw [E.all_splice hj (by rw [hl]; exact hle) hv, ← hoff]
        exact (h2.fut hFut fun _ _ => rfl).splice ((hvc.leaf_any hlf).fut hFut fun _ _ => rfl))
    refine Does.skip (w' := w.setRow b (spliceL cur.toList off (ρ y).cells.toList).toArray) ?_ ⟨ι, F, S, hw, hFut, fun _ _ => rfl, by simp [AVR]⟩
    simp [execOp, ho, hrun]
theorem v_storeM {ps : List (SlV × List β)} {b cap off : Nat} {v : β} {ti : TyI} {V : AV} (i j f : Nat) (v' : β) (hi : tyI C.P ty' = some ti) (hx : evalA t x = some (.v (.pointer (some ⟨b, off, none⟩)))) (hy : evalA t y = some V) (hg : look r h = some (.obj (manyR e E ps))) (hp : ps[i]? = some (⟨some ⟨b, 0, none⟩, l.length, cap⟩, l)) (hoff : off = j * E.sz + f) (hj : l[j]? = some v) (hk : okC V = true) (hl : (cellsA V).length = ti.size) (hle : f + ti.size ≤ E.sz) (hlf : AV.leaves (cellsA V) = true) (hv : E.f v' = spliceL (E.f v) f (cellsA V)) (hn : RunL C ops rs ⟨t, (h, .obj (manyR e E (ps.set i (⟨some ⟨b, 0, none⟩, l.length, cap⟩, l.set j v')))) :: r⟩ k) : RunL C ops (⟨none, .store ty' x y, ty, pos, af, none⟩ :: rs) ⟨t, r⟩ k :=
  runL_eff0 _ [] rfl rfl (rd2 hx hy) rfl (op_storeM rfl hg hp hoff hj hi hk hl hle hlf hv) hn
/-! Slices and pointers as they are. -/
theorem op_lenV {s : SlV} {e' : TypeId} (ho : o.op = .call { callee := .builtin .len, args := #[x], argTypes := #[ty] }) (hE : sliceE C.P ty = some e') : OpPure C r o [(x, .v s.v)] (.v (.int .i64 s.n)) := OpPure.here fun ι F S w ρ hs hr => by
  have hx := hr (x, .v s.v) (by simp)
  simp only [AVR, SlV.v] at hx ⊢
  obtain ⟨hu, hel⟩ := sliceE_elem hE
  exact ⟨.int .i64 s.n, by simp [execOp, ho, resolve, invoke, builtin, hx, run_len_slice _ _ _ _ _ _ hu, goInt], rfl⟩
theorem v_lenV {s : SlV} {e' : TypeId} (hE : sliceE C.P ty' = some e') (hx : evalA t x = some (.v s.v)) (hn : Nat.blt d C.N = true) (hk : RunL C ops rs ⟨(d, .v (.int .i64 s.n)) :: t, r⟩ k) : RunL C ops (⟨some d, .call { callee := .builtin .len, args := #[x], argTypes := #[ty'] }, ty, pos, af, none⟩ :: rs) ⟨t, r⟩ k := runL_pure _ rfl rfl hn (rd1 hx) (op_lenV rfl hE) hk
theorem op_idxV {b n cap : Nat} {kd : IntKind} {m : Int} {e' : TypeId} {i : TyI} (ho : o.op = .indexAddr ty x y) (hE : sliceE C.P ty = some e') (hi : tyI C.P e' = some i) (h0 : 0 ≤ m) (hlt : m.toNat < n) : OpPure C r o [(x, .v (SlV.v ⟨some ⟨b, 0, none⟩, n, cap⟩)), (y, .v (.int kd m))] (.v (.pointer (some ⟨b, m.toNat * i.size, none⟩))) := OpPure.here fun ι F S w ρ hs hr => by
  have hx := hr (x, .v (SlV.v ⟨some ⟨b, 0, none⟩, n, cap⟩)) (by simp)
  have hm := hr (y, .v (.int kd m)) (by simp)
  simp only [AVR, SlV.v] at hx hm ⊢
  obtain ⟨hu, hel⟩ := sliceE_elem hE
  have hrun : (Instr.indexAt ty (.slice (some ⟨b, 0, none⟩) n cap) (.int kd m)).run C.P w = .ok (.pointer (some ((⟨b, 0, none⟩ : Addr).add (m.toNat * i.size)))) w := by
    rw [run_indexAt_slice _ _ _ _ _ _ _ hu, if_pos (by omega), hel, run_sizeOf hi]; rfl
  refine ⟨.pointer (some ((⟨b, 0, none⟩ : Addr).add (m.toNat * i.size))), by simp [execOp, ho, hx, hm, hrun], by rw [Addr.add_lit, Nat.zero_add]⟩
theorem v_idxV {b n cap : Nat} {kd : IntKind} {m : Int} {e' : TypeId} {i : TyI} (hE : sliceE C.P ty' = some e') (hi : tyI C.P e' = some i) (hx : evalA t x = some (.v (SlV.v ⟨some ⟨b, 0, none⟩, n, cap⟩))) (hy : evalA t y = some (.v (.int kd m))) (h0 : 0 ≤ m) (hlt : m.toNat < n) (hn : Nat.blt d C.N = true) (hk : RunL C ops rs ⟨(d, .v (.pointer (some ⟨b, m.toNat * i.size, none⟩))) :: t, r⟩ k) : RunL C ops (⟨some d, .indexAddr ty' x y, ty, pos, af, none⟩ :: rs) ⟨t, r⟩ k := runL_pure _ rfl rfl hn (rd2 hx hy) (op_idxV rfl hE hi h0 hlt) hk
theorem op_fldV {b off j : Nat} {fl : FldI} (ho : o.op = .fieldAddr ty x j) (hf : fldI C.P ty j = some fl) (h0 : fl.size ≠ 0) : OpPure C r o [(x, .v (.pointer (some ⟨b, off, none⟩)))] (.v (.pointer (some ⟨b, off + fl.off, none⟩))) := OpPure.here fun ι F S w ρ hs hr => by
  have h1 := hr (x, .v (.pointer (some ⟨b, off, none⟩))) (by simp)
  simp only [AVR] at h1 ⊢
  exact ⟨.pointer (some ⟨b, off + fl.off, none⟩), by simp [execOp, ho, h1, run_fieldAt hf h0, Addr.add_lit], rfl⟩
theorem v_fldV {b off j : Nat} {fl : FldI} (hf : fldI C.P ty' j = some fl) (h0 : Nat.beq fl.size 0 = false) (hx : evalA t x = some (.v (.pointer (some ⟨b, off, none⟩)))) (hn : Nat.blt d C.N = true) (hk : RunL C ops rs ⟨(d, .v (.pointer (some ⟨b, off + fl.off, none⟩))) :: t, r⟩ k) : RunL C ops (⟨some d, .fieldAddr ty' x j, ty, pos, af, none⟩ :: rs) ⟨t, r⟩ k := runL_pure _ rfl rfl hn (rd1 hx) (op_fldV rfl hf (fun e => by rw [e] at h0; cases h0)) hk
end
section
variable {β : Type} {e T : TypeId} {E : Enc β}
theorem many_lists {w : World} {S S' : Bl} (hS : ∀ k, S k → S' k) : ∀ {ps : List (SlV × List β)} {F : Bl}, manyH e E w S ps F → (∀ k, F k → S' k) → AVRs ι0 S' w ((ps.map (·.2)).map fun l => AV.sem (listS E l)) (ps.map fun p => p.1.v)
  | [], _, _, _ => rfl
  | p :: ps, F, ⟨F1, F2, h1, h2, h3, h4⟩, hF => ⟨_, _, rfl, by simpa [AVR] using ownS_list h3 hS fun k hk => hF k ((h1 k).2 (.inl hk)), many_lists hS h4 fun k hk => hF k ((h1 k).2 (.inr hk))⟩
theorem lst_all (ls : List (List β)) : (lstE E).all ls = ls.map fun l => .sem (listS E l) := by
  induction ls with
  | nil => rfl
  | cons p ps ih =>
    have : (lstE E).all (p :: ps) = [.sem (listS E p)] ++ (lstE E).all ps := rfl
    rw [this, ih]
    rfl
theorem nest_list {w : World} {S S' F : Bl} {v : Value} {ls : List (List β)} (h : (nestP T e E ls []).H w S F v) (hS : ∀ k, S k → S' k) (hF : ∀ k, F k → S' k) : (listS (lstE E) ls).R w S' v := by
  obtain ⟨ps, F1, F2, q0, q1, ⟨⟨us, h1, h2⟩, h3⟩, q3, q4⟩ := h
  have hl : ps.length = ls.length := by rw [← q4, List.length_map]
  rw [mixL_length, hl] at h1
  rw [mix_all] at h2
  have hus : us = ps.map fun p => p.1.v := by
    have hv : ∀ (l : List Value) (us : List Value), AVRs ι0 S w (l.map AV.v) us → us = l := by
      intro l
      induction l with
      | nil => intro us h; exact h
      | cons x l ih =>
        rintro us ⟨u, r, rfl, h5, h6⟩
        simp only [AVR] at h5
        rw [h5, ih _ h6]
    refine hv _ us ?_
    rw [List.map_map]
    simpa [Function.comp_def] using h2
  rcases h1.2 with ⟨hv0, h0⟩ | ⟨b, cap, cur, hv, hbase, hh, hn, hcap, hsz, htk⟩
  · have : ls = [] := List.eq_nil_of_length_eq_zero (by simpa using h0)
    subst this
    exact ⟨none, 0, hv0, by simp, .inl rfl⟩
  · refine ⟨some ⟨b, 0, none⟩, cap, by simpa using hv, by simpa using hn, .inr ⟨b, 0, rfl, hF b ((q0 b).2 (.inl ((h3 b).2 (by rw [hv]; rfl)))), us, ?_, fun j u hu => ?_⟩⟩
    · rw [lst_all, hus, ← q4]
      exact many_lists hS q3 fun k hk => hF k ((q0 k).2 (.inr hk))
    · exact h1.cells (g := b) (by rw [hv]; rfl) j u hu
/-- A contract on two lists that are public serves an own row and rows within rows. -/
theorem lend2 {α : Type} {P : Program} {f : FuncId} {e1 : TypeId} {E1 : Enc α} {xs : List α} {ls : List (List β)} {bs : List AV} {u : Value} (hb0 : AV.hasL 0 bs = false) (hb1 : AV.hasL 1 bs = false) (hh : Fun P f (.agg [.sem (listS E1 xs), .sem (listS (lstE E) ls)] :: bs) [] (.v u) []) : Fun P f (.agg [.res 0, .res 1] :: bs) [(0, .obj (ownS e1 E1 xs)), (1, .obj (nestP T e E ls []))] (.v u) [(0, .obj (ownS e1 E1 xs)), (1, .obj (nestP T e E ls []))] := fun ι F S w vals hs hv => by
  have l0 : look [(0, RK.obj (ownS e1 E1 xs)), (1, .obj (nestP T e E ls []))] 0 = some (.obj (ownS e1 E1 xs)) := rfl
  have l1 : look [(0, RK.obj (ownS e1 E1 xs)), (1, .obj (nestP T e E ls []))] 1 = some (.obj (nestP T e E ls [])) := rfl
  have ho0 := hs.ob 0 _ l0
  have ho1 := hs.ob 1 _ l1
  let S2 : Bl := fun k => S k ∨ F 0 k ∨ F 1 k
  have hF : Fut S w S2 w := ⟨fun _ h => .inl h, fun _ _ _ => rfl⟩
  simp only [AVRs, AVR] at hv
  obtain ⟨p, vs, rfl, ⟨us, rfl, a0, r0, rfl, ⟨rfl, _⟩, a1, r1, rfl, ⟨rfl, _⟩, rfl⟩, hvs⟩ := hv
  have hbnd : ∀ k, S2 k → k < w.heap.size := fun k hk => by
    rcases hk with hk | hk | hk
    · exact hs.bnd k hk
    · exact hs.lt l0 rfl hk
    · exact hs.lt l1 rfl hk
  have c0 : (listS E1 xs).R w S2 (ι 0) := ownS_list ho0 (fun k hk => .inl hk) (fun k hk => .inr (.inl hk))
  have c1 : (listS (lstE E) ls).R w S2 (ι 1) := nest_list ho1 (fun k hk => .inl hk) (fun k hk => .inr (.inr hk))
  refine (hh ι F S2 w (_ :: vs) ⟨fun _ _ _ h => (by cases h), fun _ _ h => (by cases h), fun _ _ _ _ h => (by cases h), fun _ _ h => (by cases h), hbnd⟩ ⟨_, vs, rfl, ?_, hvs.fut hF fun _ _ => rfl⟩).mono fun e w' hh2 => ?_
  · simp only [AVR, AVRs]
    exact ⟨[ι 0, ι 1], rfl, _, _, rfl, c0, _, _, rfl, c1, rfl⟩
  obtain ⟨ι', F', S', u', rfl, h1, h2, h3, h4, h5, h6, h7⟩ := hh2
  have hb : Below w.heap.size w w' := ⟨h5.os, h5.tape, h5.output, h5.size, fun k hk => h5.block k hk (fun ⟨_, _, h, _⟩ => by cases h)⟩
  have hF' : Fut S w S w' := ⟨fun _ h => h, fun k _ hk => hb.block k hk⟩
  simp only [AVR] at h2
  subst h2
  refine ⟨ι, F, S, u', rfl, hs.step hF' (fun g x hg hx k hk => hb.block k (hs.lt hg hx hk)) hs.out (fun k hk => Nat.lt_of_lt_of_le (hs.bnd k hk) hb.size), by simp [AVR], hF', fun _ _ _ _ => rfl, But.of_below hb, fun k hk => .inl hk, fun g x hg hx k hk => .inr ⟨g, x, hg, hx, hk⟩⟩
end
end Go.Proofs.Ytjkidecaciomgaa
