/- VL, part 18: what slices.Delete needs: parts of a row by its address, an append of a part of it to another one. -/
import Derived.Test.YtjkidecaciomgaaVL17
namespace Go.Proofs.Ytjkidecaciomgaa
set_option linter.unusedVariables false
set_option linter.unusedSimpArgs false
set_option maxRecDepth 100000
open Go.RowKit

/-- A row from a place on. -/
abbrev fromU (b n c m : Nat) : Value := .slice (some (if c = m then ⟨b, 0, none⟩ else ⟨b, m, none⟩)) (n - m) (c - m)
section
variable {C : Cx} {r : List (Nat × RK)} {o : Oper} {x y z u : Operand} {ty : TypeId} {g : Nat}
theorem op_from_u {b n c : Nat} {kd : IntKind} {m : Int} {e : TypeId} {i : TyI} (ho : o.op = .slice ty x (some y) none none) (hE : sliceE C.P ty = some e) (hi : tyI C.P e = some i) (hsz : i.size = 1) (h0 : 0 ≤ m) (hm : m ≤ n) (hc : n ≤ c) : OpPure C r o [(x, .v (rowO b 0 n c)), (y, .v (.int kd m))] (.v (fromU b n c m.toNat)) := OpPure.here fun ι F S w ρ hs hr => by
  have hx := hr (x, .v (rowO b 0 n c)) (by simp)
  have hv := hr (y, .v (.int kd m)) (by simp)
  simp only [AVR] at hx hv ⊢
  have hu := sliceE_spec hE
  have hc1 : (n : Int) ≤ c := by omega
  refine ⟨_, ?_, rfl⟩
  by_cases hcm : c = m.toNat
  · simp [execOp, ho, Instr.sliceAt, run_underlying hu, hx, hv, Instr.slice, Instr.sliceBounds, Instr.sliceBound, asIntOf, h0, hm, hc1, run_sizeOf hi, hsz, hcm]
  · simp [execOp, ho, Instr.sliceAt, run_underlying hu, hx, hv, Instr.slice, Instr.sliceBounds, Instr.sliceBound, asIntOf, h0, hm, hc1, run_sizeOf hi, hsz, Addr.add_lit, hcm]
theorem op_slice3 {b n c : Nat} {kd : IntKind} {p q s : Int} {e : TypeId} {i : TyI} (ho : o.op = .slice ty x (some y) (some z) (some u)) (hE : sliceE C.P ty = some e) (hi : tyI C.P e = some i) (hsz : i.size = 1) (h0 : 0 ≤ p) (h1 : p ≤ q) (h2 : q ≤ s) (hps : p < s) (hc : s ≤ c) : OpPure C r o [(x, .v (rowO b 0 n c)), (y, .v (.int kd p)), (z, .v (.int kd q)), (u, .v (.int kd s))] (.v (rowO b p.toNat (q.toNat - p.toNat) (s.toNat - p.toNat))) := OpPure.here fun ι F S w ρ hs hr => by
  have hx := hr (x, .v (rowO b 0 n c)) (by simp)
  have hv := hr (y, .v (.int kd p)) (by simp)
  have hz := hr (z, .v (.int kd q)) (by simp)
  have hu' := hr (u, .v (.int kd s)) (by simp)
  simp only [AVR] at hx hv hz hu' ⊢
  have hu := sliceE_spec hE
  have g1 : 0 ≤ q := by omega
  have g2 : 0 ≤ s := by omega
  have g4 : ¬ s.toNat = p.toNat := by omega
  have g5 : q ≤ max s 0 := by omega
  have g6 : p ≤ max q 0 := by omega
  refine ⟨_, ?_, rfl⟩
  simp [execOp, ho, Instr.sliceAt, run_underlying hu, hx, hv, hz, hu', Instr.slice, Instr.sliceBounds, Instr.sliceBound, asIntOf, h0, h1, h2, hc, g1, g2, g4, g5, g6, run_sizeOf hi, hsz, Addr.add_lit]
theorem op_fromto {b n c : Nat} {kd kd' : IntKind} {p q : Int} {e : TypeId} {i : TyI} (ho : o.op = .slice ty x (some y) (some z) none) (hE : sliceE C.P ty = some e) (hi : tyI C.P e = some i) (hsz : i.size = 1) (h0 : 0 ≤ p) (h1 : p ≤ q) (hc : q ≤ c) (hpc : p < c) : OpPure C r o [(x, .v (rowO b 0 n c)), (y, .v (.int kd p)), (z, .v (.int kd' q))] (.v (rowO b p.toNat (q.toNat - p.toNat) (c - p.toNat))) := OpPure.here fun ι F S w ρ hs hr => by
  have hx := hr (x, .v (rowO b 0 n c)) (by simp)
  have hv := hr (y, .v (.int kd p)) (by simp)
  have hz := hr (z, .v (.int kd' q)) (by simp)
  simp only [AVR] at hx hv hz ⊢
  have hu := sliceE_spec hE
  have g1 : 0 ≤ q := by omega
  have g4 : ¬ c = p.toNat := by omega
  have g6 : p ≤ max q 0 := by omega
  refine ⟨_, ?_, rfl⟩
  simp [execOp, ho, Instr.sliceAt, run_underlying hu, hx, hv, hz, Instr.slice, Instr.sliceBounds, Instr.sliceBound, asIntOf, h0, h1, hc, g1, g4, g6, run_sizeOf hi, hsz, Addr.add_lit]
/-- The end of a row is put behind its beginning, in place. -/
theorem op_appendU {b cap j p : Nat} {e : TypeId} {i : TyI} {xs : List Int} (ho : o.op = .call { callee := .builtin .append, args := #[x, y], argTypes := #[ty, ty] }) (hg : look r g = some (.obj (atS (rowV b xs.length cap) (ownS e intE xs)))) (hE : sliceE C.P ty = some e) (hi : tyI C.P e = some i) (hsz : i.size = 1) (hp : p ≤ j) (hj : j ≤ xs.length) (hne : xs ≠ []) : OpEff C r o [(x, .v (rowO b 0 p cap)), (y, .v (fromU b xs.length cap j))] (.v (rowO b 0 (p + (xs.length - j)) cap)) ((g, .obj (atS (rowV b xs.length cap) (ownS e intE (xs.take p ++ xs.drop j ++ xs.drop (p + (xs.length - j)))))) :: r) [] := fun ι F S w ρ hs hr => by
  have hx := hr (x, .v (rowO b 0 p cap)) (by simp)
  have hy := hr (y, .v (fromU b xs.length cap j)) (by simp)
  simp only [AVR] at hx hy
  have hu := sliceE_spec hE
  obtain ⟨ti, dd, zv, t1, t2, t3, t4, t5, t6, t7⟩ := tyI_info hi
  have hpos := List.length_pos_iff.2 hne
  obtain ⟨hv0, ⟨us, h1, h2⟩, h3⟩ := hs.hs.ob g _ hg
  rcases h1.2 with ⟨_, hz0⟩ | ⟨b', cap', cur, hv, hb0, hh, hn, hc, hs1, hs2⟩
  · omega
  · rw [hv0] at hv
    simp only [Value.slice.injEq, Option.some.injEq, Addr.mk.injEq, and_true] at hv
    obtain ⟨rfl, _, rfl⟩ := hv
    have hi1 : intE.sz = 1 := rfl
    have hs1' : cur.size = cap := by rw [hi1, Nat.mul_one] at hs1; exact hs1
    have hul : us.length = xs.length := by rw [h1.1]; exact Nat.mul_one _
    have hs3 : cur.toList.take xs.length = us := by rw [← hs2, hi1, Nat.mul_one]
    have hcl : cur.toList.length = cap := by rw [Array.length_toList, hs1']
    have hone : ∀ v ∈ us, v.oneCell' = true := h2.leaf_one (intE.all_leaf xs)
    have hnl : (us.drop j).length = xs.length - j := by rw [List.length_drop, hul]
    have hrun := run_append_room (P := C.P) w ty o.type e ti hu t1 b p cap cur hh (if cap = j then ⟨b, 0, none⟩ else ⟨b, j, none⟩) (xs.length - j) (cap - j) (us.drop j) (by rw [hnl, t5, hsz, Nat.mul_one]) (fun t v ht => by
      have hlt := (List.getElem?_eq_some_iff.1 ht).1
      rw [hnl] at hlt
      rw [if_neg (by omega), Addr.add_lit, cell_of_row w b _ cur e (0, 0) hh, ← Array.getElem?_toList]
      rw [List.getElem?_drop, ← hs3, List.getElem?_take] at ht
      rw [if_pos (by omega)] at ht
      exact ht) (fun v hv' => hone v (List.mem_of_mem_drop hv')) (by omega) (by rw [t5, hsz, Nat.mul_one, hnl]; omega)
    rw [t5, hsz, Nat.mul_one, hnl] at hrun
    have hFg : ∀ k, F g k ↔ k = b := fun k => by rw [h3, hv0]; simp [Value.ownBlock, eq_comm]
    generalize hcs : cur.toList.take p ++ us.drop j ++ cur.toList.drop (p + (xs.length - j)) = cs at hrun
    have hbut : But (F g) w (w.setRow b cs.toArray) := ⟨rfl, rfl, rfl, by simp, fun k _ hn => setRow_other w b k _ fun e => hn ((hFg k).2 e)⟩
    have hFut : Fut S w S (w.setRow b cs.toArray) := ⟨fun _ h => h, fun k hk hl => hbut.block k hl fun hf => hs.hs.out g _ hg rfl k hf hk⟩
    have hcsl : cs.length = cap := by rw [← hcs]; simp [hul]; omega
    have hxl : (xs.take p ++ xs.drop j ++ xs.drop (p + (xs.length - j))).length = xs.length := by simp; omega
    obtain ⟨hw, _⟩ := hs.turn (x' := .obj (atS (rowV b xs.length cap) (ownS e intE (xs.take p ++ xs.drop j ++ xs.drop (p + (xs.length - j)))))) hg rfl hbut (fun T l' e => by cases e) (fun R e0 => by
      cases e0
      refine ⟨hv0, ⟨us.take p ++ us.drop j ++ us.drop (p + (xs.length - j)), ⟨?_, .inr ⟨b, cap, cs.toArray, by rw [hv0, hxl], hb0, setRow_heap w b cur _ e (0, 0) hh, by omega, hc, by rw [List.size_toArray, hcsl]; exact (Nat.mul_one _).symm, ?_⟩⟩, ?_⟩, h3⟩
      · rw [hxl, hi1]
        simp [hul]
        omega
      · rw [hxl, List.toList_toArray, ← hcs, hi1, Nat.mul_one]
        have e1 : cur.toList.take p = us.take p := by rw [← hs3, List.take_take, Nat.min_eq_left (by omega)]
        have e2 : cur.toList.drop (p + (xs.length - j)) = us.drop (p + (xs.length - j)) ++ cur.toList.drop xs.length := by
          conv => lhs; rw [← List.take_append_drop xs.length cur.toList]
          rw [hs3, List.drop_append_of_le_length (by omega)]
        rw [e1, e2, ← List.append_assoc]
        exact List.take_left' (by simp [hul]; omega)
      · have hd : ∀ k, intE.all (xs.drop k) = (intE.all xs).drop k := fun k => by rw [intE_all, intE_all, List.map_drop]
        have ht : ∀ k, intE.all (xs.take k) = (intE.all xs).take k := fun k => by rw [intE_all, intE_all, List.map_take]
        have h4 := h2.fut (ι' := ι0) hFut fun _ _ => rfl
        rw [intE.all_append, intE.all_append, hd, hd, ht]
        exact ((h4.take _).append (h4.drop _)).append (h4.drop _))
    refine Does.value (v := rowO b 0 (p + (xs.length - j)) cap) (w' := w.setRow b cs.toArray) ?_ ⟨ι, F, S, hw, hFut, fun _ _ => rfl, by simp [AVR]⟩
    simp [execOp, ho, resolve, invoke, builtin, hx, hy, hrun]
end
section
variable {C : Cx} {k : List Item} {t t0 : List (Nat × AV)} {r r0 : List (Nat × RK)} {ops : Array Oper} {rest : List Oper} {qs : List PIt} {gd : Option (Nat × Bool)}
variable {d : Nat} {ty ty' : TypeId} {pos : String} {af : Array Edge} {x y z u : Operand} {g : Nat}
theorem v_slice3 {b n c : Nat} {kd : IntKind} {p q s : Int} {e : TypeId} {i : TyI} (hE : sliceE C.P ty' = some e) (hi : tyI C.P e = some i) (hx : evalA t x = some (.v (rowO b 0 n c))) (hy : evalA t y = some (.v (.int kd p))) (hz : evalA t z = some (.v (.int kd q))) (hu : evalA t u = some (.v (.int kd s))) (hsz : i.size = 1) (h0 : 0 ≤ p) (h1 : p ≤ q) (h2 : q ≤ s) (hps : p < s) (hc : s ≤ c) (hn : Nat.blt d C.N = true) (hk : RunL C ops rest ⟨(d, .v (rowO b p.toNat (q.toNat - p.toNat) (s.toNat - p.toNat))) :: t, r⟩ k) : RunL C ops (⟨some d, .slice ty' x (some y) (some z) (some u), ty, pos, af, none⟩ :: rest) ⟨t, r⟩ k := runL_pure _ rfl rfl hn (rdX hx (rdX hy (rd2 hz hu))) (op_slice3 rfl hE hi hsz h0 h1 h2 hps hc) hk
theorem v_fromto {b n c : Nat} {kd kd' : IntKind} {p q : Int} {e : TypeId} {i : TyI} (hE : sliceE C.P ty' = some e) (hi : tyI C.P e = some i) (hx : evalA t x = some (.v (rowO b 0 n c))) (hy : evalA t y = some (.v (.int kd p))) (hz : evalA t z = some (.v (.int kd' q))) (hsz : i.size = 1) (h0 : 0 ≤ p) (h1 : p ≤ q) (hc : q ≤ c) (hpc : p < c) (hn : Nat.blt d C.N = true) (hk : RunL C ops rest ⟨(d, .v (rowO b p.toNat (q.toNat - p.toNat) (c - p.toNat))) :: t, r⟩ k) : RunL C ops (⟨some d, .slice ty' x (some y) (some z) none, ty, pos, af, none⟩ :: rest) ⟨t, r⟩ k := runL_pure _ rfl rfl hn (rdX hx (rd2 hy hz)) (op_fromto rfl hE hi hsz h0 h1 hc hpc) hk
theorem p_toV {b o' n c : Nat} {kd : IntKind} {m : Int} {e : TypeId} {i : TyI} (hE : sliceE C.P ty' = some e) (hi : tyI C.P e = some i) (hx : evalA t x = some (.v (rowO b o' n c))) (hy : evalA t y = some (.v (.int kd m))) (h0 : 0 ≤ m) (hm : m ≤ c) (hn : Nat.blt d C.N = true) (hgd : wantedA t ops ⟨some d, .slice ty' x none (some y) none, ty, pos, af, gd⟩ = some true) (hk : PlanL C ops t0 r0 (⟨some d, .v (rowO b o' m.toNat c), [], [], []⟩ :: qs) rest ⟨(d, .v (rowO b o' m.toNat c)) :: t, r⟩ k) : PlanL C ops t0 r0 qs (⟨some d, .slice ty' x none (some y) none, ty, pos, af, gd⟩ :: rest) ⟨t, r⟩ k := planL_2 hgd rfl hn hx hy (by simp [Op.operands, Call.operands]) (by simp [Op.operands, Call.operands]) [] (fun r' _ => (op_to_val rfl hE hi h0 hm)) hk
theorem p_fromU {b n c : Nat} {kd : IntKind} {m : Int} {e : TypeId} {i : TyI} (hE : sliceE C.P ty' = some e) (hi : tyI C.P e = some i) (hx : evalA t x = some (.v (rowO b 0 n c))) (hy : evalA t y = some (.v (.int kd m))) (hsz : i.size = 1) (h0 : 0 ≤ m) (hm : m ≤ n) (hc : n ≤ c) (hn : Nat.blt d C.N = true) (hgd : wantedA t ops ⟨some d, .slice ty' x (some y) none none, ty, pos, af, gd⟩ = some true) (hk : PlanL C ops t0 r0 (⟨some d, .v (fromU b n c m.toNat), [], [], []⟩ :: qs) rest ⟨(d, .v (fromU b n c m.toNat)) :: t, r⟩ k) : PlanL C ops t0 r0 qs (⟨some d, .slice ty' x (some y) none none, ty, pos, af, gd⟩ :: rest) ⟨t, r⟩ k := planL_2 hgd rfl hn hx hy (by simp [Op.operands, Call.operands]) (by simp [Op.operands, Call.operands]) [] (fun r' _ => (op_from_u rfl hE hi hsz h0 hm hc)) hk
theorem p_appendU (g : Nat) {b cap j p : Nat} {e : TypeId} {i : TyI} {xs : List Int} (hE : sliceE C.P ty' = some e) (hi : tyI C.P e = some i) (hx : evalA t x = some (.v (rowO b 0 p cap))) (hy : evalA t y = some (.v (fromU b xs.length cap j))) (hg : look r g = some (.obj (atS (rowV b xs.length cap) (ownS e intE xs)))) (hsz : i.size = 1) (hp : p ≤ j) (hj : j ≤ xs.length) (hne : xs ≠ []) (hn : Nat.blt d C.N = true) (hgd : wantedA t ops ⟨some d, .call { callee := .builtin .append, args := #[x, y], argTypes := #[ty', ty'] }, ty, pos, af, gd⟩ = some true) (hk : PlanL C ops t0 r0 (⟨some d, .v (rowO b 0 (p + (xs.length - j)) cap), [(g, .obj (atS (rowV b xs.length cap) (ownS e intE (xs.take p ++ xs.drop j ++ xs.drop (p + (xs.length - j))))))], [g], []⟩ :: qs) rest ⟨(d, .v (rowO b 0 (p + (xs.length - j)) cap)) :: t, (g, .obj (atS (rowV b xs.length cap) (ownS e intE (xs.take p ++ xs.drop j ++ xs.drop (p + (xs.length - j)))))) :: r⟩ k) : PlanL C ops t0 r0 qs (⟨some d, .call { callee := .builtin .append, args := #[x, y], argTypes := #[ty', ty'] }, ty, pos, af, gd⟩ :: rest) ⟨t, r⟩ k :=
  planL_eff _ [(g, .obj (atS (rowV b xs.length cap) (ownS e intE (xs.take p ++ xs.drop j ++ xs.drop (p + (xs.length - j))))))] [g] [] (rd2_ok (by simp [Op.operands, Call.operands]) (by simp [Op.operands, Call.operands])) hgd rfl hn (rd2 hx hy) (fun r' hF _ => op_appendU rfl ((hF g (List.mem_singleton.2 rfl)).trans hg) hE hi hsz hp hj hne) hk
end
end Go.Proofs.Ytjkidecaciomgaa
