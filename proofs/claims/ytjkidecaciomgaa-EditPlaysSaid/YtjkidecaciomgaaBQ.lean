/- VL18, Ed1, EdM, Ed2, EdP, EdQ. -/
import Derived.Test.YtjkidecaciomgaaVL17
import Derived.Test.YtjkidecaciomgaaSh2
import Derived.Test.YtjkidecaciomgaaBP
import Derived.Test.YtjkidecaciomgaaFoD
import Derived.Test.YtjkidecaciomgaaVa2
/- VL, part 18: what slices.Delete needs: parts of a row by its address, an append of a part of it to another one. -/
namespace Go.Proofs.Ytjkidecaciomgaa
set_option linter.unusedVariables false
set_option linter.unusedSimpArgs false
set_option maxRecDepth 100000
open Go.RowKit

/-- A row from a place on. -/
abbrev fromU (b n c m : Nat) : Value := .slice (some (if c = m then ⟨b, 0, none⟩ else ⟨b, m, none⟩)) (n - m) (c - m)
section
variable {C : Cx} {r : List (Nat × RK)} {o : Oper} {x y z u : Operand} {ty : TypeId} {g : Nat}
theorem op_from_u {b n c : Nat} {kd : IntKind} {m : Int} {e : TypeId} {i : TyI} (ho : o.op = .slice ty x (some y) none none) (hE : sliceE C.P ty = some e) (hi : tyI C.P e = some i) (hsz : i.size = 1) (h0 : 0 ≤ m) (hm : m ≤ n) (hc : n ≤ c) : OpPure C r o [(x, .v (rowO b 0 n c)), (y, .v (.int kd m))] (.v (fromU b n c m.toNat)) := OpPure.here fun ι F S w ρ hs hr => by
  have hx := hr (x, .v (rowO b 0 n c)) (by simp)
  have hv := hr (y, .v (.int kd m)) (by simp)
  simp only [AVR] at hx hv ⊢
  have hu := sliceE_spec hE
  have hc1 : (n : Int) ≤ c := by omega
  refine ⟨_, ?_, rfl⟩
  by_cases hcm : c = m.toNat
  · simp [execOp, ho, Instr.sliceAt, run_underlying hu, hx, hv, Instr.slice, Instr.sliceBounds, Instr.sliceBound, asIntOf, h0, hm, hc1, run_sizeOf hi, hsz, hcm]
  · simp [execOp, ho, Instr.sliceAt, run_underlying hu, hx, hv, Instr.slice, Instr.sliceBounds, Instr.sliceBound, asIntOf, h0, hm, hc1, run_sizeOf hi, hsz, Addr.add_lit, hcm]
theorem op_slice3 {b n c : Nat} {kd : IntKind} {p q s : Int} {e : TypeId} {i : TyI} (ho : o.op = .slice ty x (some y) (some z) (some u)) (hE : sliceE C.P ty = some e) (hi : tyI C.P e = some i) (hsz : i.size = 1) (h0 : 0 ≤ p) (h1 : p ≤ q) (h2 : q ≤ s) (hps : p < s) (hc : s ≤ c) : OpPure C r o [(x, .v (rowO b 0 n c)), (y, .v (.int kd p)), (z, .v (.int kd q)), (u, .v (.int kd s))] (.v (rowO b p.toNat (q.toNat - p.toNat) (s.toNat - p.toNat))) := OpPure.here fun ι F S w ρ hs hr => by
  have hx := hr (x, .v (rowO b 0 n c)) (by simp)
  have hv := hr (y, .v (.int kd p)) (by simp)
  have hz := hr (z, .v (.int kd q)) (by simp)
  have hu' := hr (u, .v (.int kd s)) (by simp)
  simp only [AVR] at hx hv hz hu' ⊢
  have hu := sliceE_spec hE
  have g1 : 0 ≤ q := by omega
  have g2 : 0 ≤ s := by omega
  have g4 : ¬ s.toNat = p.toNat := by omega
  have g5 : q ≤ max s 0 := by omega
  have g6 : p ≤ max q 0 := by omega
  refine ⟨_, ?_, rfl⟩
  simp [execOp, ho, Instr.sliceAt, run_underlying hu, hx, hv, hz, hu', Instr.slice, Instr.sliceBounds, Instr.sliceBound, asIntOf, h0, h1, h2, hc, g1, g2, g4, g5, g6, run_sizeOf hi, hsz, Addr.add_lit]
theorem op_fromto {b n c : Nat} {kd kd' : IntKind} {p q : Int} {e : TypeId} {i : TyI} (ho : o.op = .slice ty x (some y) (some z) none) (hE : sliceE C.P ty = some e) (hi : tyI C.P e = some i) (hsz : i.size = 1) (h0 : 0 ≤ p) (h1 : p ≤ q) (hc : q ≤ c) (hpc : p < c) : OpPure C r o [(x, .v (rowO b 0 n c)), (y, .v (.int kd p)), (z, .v (.int kd' q))] (.v (rowO b p.toNat (q.toNat - p.toNat) (c - p.toNat))) := OpPure.here fun ι F S w ρ hs hr => by
  have hx := hr (x, .v (rowO b 0 n c)) (by simp)
  have hv := hr (y, .v (.int kd p)) (by simp)
  have hz := hr (z, .v (.int kd' q)) (by simp)
  simp only [AVR] at hx hv hz ⊢
  have hu := sliceE_spec hE
  have g1 : 0 ≤ q := by omega
  have g4 : ¬ c = p.toNat := by omega
  have g6 : p ≤ max q 0 := by omega
  refine ⟨_, ?_, rfl⟩
  simp [execOp, ho, Instr.sliceAt, run_underlying hu, hx, hv, hz, Instr.slice, Instr.sliceBounds, Instr.sliceBound, asIntOf, h0, h1, hc, g1, g4, g6, run_sizeOf hi, hsz, Addr.add_lit]
/-- The end of a row is put behind its beginning, in place. -/
theorem op_appendU {b cap j p : Nat} {e : TypeId} {i : TyI} {xs : List Int} (ho : o.op = .call { callee := .builtin .append, args := #[x, y], argTypes := #[ty, ty] }) (hg : look r g = some (.obj (atS (rowV b xs.length cap) (ownS e intE xs)))) (hE : sliceE C.P ty = some e) (hi : tyI C.P e = some i) (hsz : i.size = 1) (hp : p ≤ j) (hj : j ≤ xs.length) (hne : xs ≠ []) : OpEff C r o [(x, .v (rowO b 0 p cap)), (y, .v (fromU b xs.length cap j))] (.v (rowO b 0 (p + (xs.length - j)) cap)) ((g, .obj (atS (rowV b xs.length cap) (ownS e intE (xs.take p ++ xs.drop j ++ xs.drop (p + (xs.length - j)))))) :: r) [] := fun ι F S w ρ hs hr => by
  have hx := hr (x, .v (rowO b 0 p cap)) (by simp)
  have hy := hr (y, .v (fromU b xs.length cap j)) (by simp)
  simp only [AVR] at hx hy
  have hu := sliceE_spec hE
  obtain ⟨ti, dd, zv, t1, t2, t3, t4, t5, t6, t7⟩ := tyI_info hi
  have hpos := List.length_pos_iff.2 hne
  obtain ⟨hv0, ⟨us, h1, h2⟩, h3⟩ := hs.hs.ob g _ hg
  rcases h1.2 with ⟨_, hz0⟩ | ⟨b', cap', cur, hv, hb0, hh, hn, hc, hs1, hs2⟩
  · omega
  · rw [hv0] at hv
    simp only [Value.slice.injEq, Option.some.injEq, Addr.mk.injEq, and_true] at hv
    obtain ⟨rfl, _, rfl⟩ := hv
    have hi1 : intE.sz = 1 := rfl
    have hs1' : cur.size = cap := by rw [hi1, Nat.mul_one] at hs1; exact hs1
    have hul : us.length = xs.length := by rw [h1.1]; exact Nat.mul_one _
    have hs3 : cur.toList.take xs.length = us := by rw [← hs2, hi1, Nat.mul_one]
    have hcl : cur.toList.length = cap := by rw [Array.length_toList, hs1']
    have hone : ∀ v ∈ us, v.oneCell' = true := h2.leaf_one (intE.all_leaf xs)
    have hnl : (us.drop j).length = xs.length - j := by rw [List.length_drop, hul]
    have hrun := run_append_room (P := C.P) w ty o.type e ti hu t1 b p cap cur hh (if cap = j then ⟨b, 0, none⟩ else ⟨b, j, none⟩) (xs.length - j) (cap - j) (us.drop j) (by rw [hnl, t5, hsz, Nat.mul_one]) (fun t v ht => by
      have hlt := (List.getElem?_eq_some_iff.1 ht).1
      rw [hnl] at hlt
      rw [if_neg (by omega), Addr.add_lit, cell_of_row w b _ cur e (0, 0) hh, ← Array.getElem?_toList]
      rw [List.getElem?_drop, ← hs3, List.getElem?_take] at ht
      rw [if_pos (by omega)] at ht
      exact ht) (fun v hv' => hone v (List.mem_of_mem_drop hv')) (by omega) (by rw [t5, hsz, Nat.mul_one, hnl]; omega)
    rw [t5, hsz, Nat.mul_one, hnl] at hrun
    have hFg : ∀ k, F g k ↔ k = b := fun k => by rw [h3, hv0]; simp [Value.ownBlock, eq_comm]
    generalize hcs : cur.toList.take p ++ us.drop j ++ cur.toList.drop (p + (xs.length - j)) = cs at hrun
    have hbut : But (F g) w (w.setRow b cs.toArray) := ⟨rfl, rfl, rfl, by simp, fun k _ hn => setRow_other w b k _ fun e => hn ((hFg k).2 e)⟩
    have hFut : Fut S w S (w.setRow b cs.toArray) := ⟨fun _ h => h, fun k hk hl => hbut.block k hl fun hf => hs.hs.out g _ hg rfl k hf hk⟩
    have hcsl : cs.length = cap := by rw [← hcs]; simp [hul]; omega
    have hxl : (xs.take p ++ xs.drop j ++ xs.drop (p + (xs.length - j))).length = xs.length := by simp; omega
    obtain ⟨hw, _⟩ := hs.turn (x' := .obj (atS (rowV b xs.length cap) (ownS e intE (xs.take p ++ xs.drop j ++ xs.drop (p + (xs.length - j)))))) hg rfl hbut (fun T l' e => by cases e) (fun R e0 => by
      cases e0
      refine ⟨hv0, ⟨us.take p ++ us.drop j ++ us.drop (p + (xs.length - j)), ⟨?_, .inr ⟨b, cap, cs.toArray, by rw [hv0, hxl], hb0, setRow_heap w b cur _ e (0, 0) hh, by omega, hc, by rw [List.size_toArray, hcsl]; exact (Nat.mul_one _).symm, ?_⟩⟩, ?_⟩, h3⟩
      · rw [hxl, hi1]
        simp [hul]
        omega
      · rw [hxl, List.toList_toArray, ← hcs, hi1, Nat.mul_one]
        have e1 : cur.toList.take p = us.take p := by rw [← hs3, List.take_take, Nat.min_eq_left (by omega)]
        have e2 : cur.toList.drop (p + (xs.length - j)) = us.drop (p + (xs.length - j)) ++ cur.toList.drop xs.length := by
          conv => lhs; rw [← List.take_append_drop xs.length cur.toList]
          rw [hs3, List.drop_append_of_le_length (by omega)]
        rw [e1, e2, ← List.append_assoc]
        exact List.take_left' (by simp [hul]; omega)
      · have hd : ∀ k, intE.all (xs.drop k) = (intE.all xs).drop k := fun k => by rw [intE_all, intE_all, List.map_drop]
        have ht : ∀ k, intE.all (xs.take k) = (intE.all xs).take k := fun k => by rw [intE_all, intE_all, List.map_take]
        have h4 := h2.fut (ι' := ι0) hFut fun _ _ => rfl
        rw [intE.all_append, intE.all_append, hd, hd, ht]
        exact ((h4.take _).append (h4.drop _)).append (h4.drop _))
    refine Does.value (v := rowO b 0 (p + (xs.length - j)) cap) (w' := w.setRow b cs.toArray) ?_ ⟨ι, F, S, hw, hFut, fun _ _ => rfl, by simp [AVR]⟩
    simp [execOp, ho, resolve, invoke, builtin, hx, hy, hrun]
end
section
variable {C : Cx} {k : List Item} {t t0 : List (Nat × AV)} {r r0 : List (Nat × RK)} {ops : Array Oper} {rest : List Oper} {qs : List PIt} {gd : Option (Nat × Bool)}
variable {d : Nat} {ty ty' : TypeId} {pos : String} {af : Array Edge} {x y z u : Operand} {g : Nat}
theorem v_slice3 {b n c : Nat} {kd : IntKind} {p q s : Int} {e : TypeId} {i : TyI} (hE : sliceE C.P ty' = some e) (hi : tyI C.P e = some i) (hx : evalA t x = some (.v (rowO b 0 n c))) (hy : evalA t y = some (.v (.int kd p))) (hz : evalA t z = some (.v (.int kd q))) (hu : evalA t u = some (.v (.int kd s))) (hsz : i.size = 1) (h0 : 0 ≤ p) (h1 : p ≤ q) (h2 : q ≤ s) (hps : p < s) (hc : s ≤ c) (hn : Nat.blt d C.N = true) (hk : RunL C ops rest ⟨(d, .v (rowO b p.toNat (q.toNat - p.toNat) (s.toNat - p.toNat))) :: t, r⟩ k) : RunL C ops (⟨some d, .slice ty' x (some y) (some z) (some u), ty, pos, af, none⟩ :: rest) ⟨t, r⟩ k := runL_pure _ rfl rfl hn (rdX hx (rdX hy (rd2 hz hu))) (op_slice3 rfl hE hi hsz h0 h1 h2 hps hc) hk
theorem v_fromto {b n c : Nat} {kd kd' : IntKind} {p q : Int} {e : TypeId} {i : TyI} (hE : sliceE C.P ty' = some e) (hi : tyI C.P e = some i) (hx : evalA t x = some (.v (rowO b 0 n c))) (hy : evalA t y = some (.v (.int kd p))) (hz : evalA t z = some (.v (.int kd' q))) (hsz : i.size = 1) (h0 : 0 ≤ p) (h1 : p ≤ q) (hc : q ≤ c) (hpc : p < c) (hn : Nat.blt d C.N = true) (hk : RunL C ops rest ⟨(d, .v (rowO b p.toNat (q.toNat - p.toNat) (c - p.toNat))) :: t, r⟩ k) : RunL C ops (⟨some d, .slice ty' x (some y) (some z) none, ty, pos, af, none⟩ :: rest) ⟨t, r⟩ k := runL_pure _ rfl rfl hn (rdX hx (rd2 hy hz)) (op_fromto rfl hE hi hsz h0 h1 hc hpc) hk
theorem p_toV {b o' n c : Nat} {kd : IntKind} {m : Int} {e : TypeId} {i : TyI} (hE : sliceE C.P ty' = some e) (hi : tyI C.P e = some i) (hx : evalA t x = some (.v (rowO b o' n c))) (hy : evalA t y = some (.v (.int kd m))) (h0 : 0 ≤ m) (hm : m ≤ c) (hn : Nat.blt d C.N = true) (hgd : wantedA t ops ⟨some d, .slice ty' x none (some y) none, ty, pos, af, gd⟩ = some true) (hk : PlanL C ops t0 r0 (⟨some d, .v (rowO b o' m.toNat c), [], [], []⟩ :: qs) rest ⟨(d, .v (rowO b o' m.toNat c)) :: t, r⟩ k) : PlanL C ops t0 r0 qs (⟨some d, .slice ty' x none (some y) none, ty, pos, af, gd⟩ :: rest) ⟨t, r⟩ k := planL_2 hgd rfl hn hx hy (by simp [Op.operands, Call.operands]) (by simp [Op.operands, Call.operands]) [] (fun r' _ => (op_to_val rfl hE hi h0 hm)) hk
theorem p_fromU {b n c : Nat} {kd : IntKind} {m : Int} {e : TypeId} {i : TyI} (hE : sliceE C.P ty' = some e) (hi : tyI C.P e = some i) (hx : evalA t x = some (.v (rowO b 0 n c))) (hy : evalA t y = some (.v (.int kd m))) (hsz : i.size = 1) (h0 : 0 ≤ m) (hm : m ≤ n) (hc : n ≤ c) (hn : Nat.blt d C.N = true) (hgd : wantedA t ops ⟨some d, .slice ty' x (some y) none none, ty, pos, af, gd⟩ = some true) (hk : PlanL C ops t0 r0 (⟨some d, .v (fromU b n c m.toNat), [], [], []⟩ :: qs) rest ⟨(d, .v (fromU b n c m.toNat)) :: t, r⟩ k) : PlanL C ops t0 r0 qs (⟨some d, .slice ty' x (some y) none none, ty, pos, af, gd⟩ :: rest) ⟨t, r⟩ k := planL_2 hgd rfl hn hx hy (by simp [Op.operands, Call.operands]) (by simp [Op.operands, Call.operands]) [] (fun r' _ => (op_from_u rfl hE hi hsz h0 hm hc)) hk
theorem p_appendU (g : Nat) {b cap j p : Nat} {e : TypeId} {i : TyI} {xs : List Int} (hE : sliceE C.P ty' = some e) (hi : tyI C.P e = some i) (hx : evalA t x = some (.v (rowO b 0 p cap))) (hy : evalA t y = some (.v (fromU b xs.length cap j))) (hg : look r g = some (.obj (atS (rowV b xs.length cap) (ownS e intE xs)))) (hsz : i.size = 1) (hp : p ≤ j) (hj : j ≤ xs.length) (hne : xs ≠ []) (hn : Nat.blt d C.N = true) (hgd : wantedA t ops ⟨some d, .call { callee := .builtin .append, args := #[x, y], argTypes := #[ty', ty'] }, ty, pos, af, gd⟩ = some true) (hk : PlanL C ops t0 r0 (⟨some d, .v (rowO b 0 (p + (xs.length - j)) cap), [(g, .obj (atS (rowV b xs.length cap) (ownS e intE (xs.take p ++ xs.drop j ++ xs.drop (p + (xs.length - j))))))], [g], []⟩ :: qs) rest ⟨(d, .v (rowO b 0 (p + (xs.length - j)) cap)) :: t, (g, .obj (atS (rowV b xs.length cap) (ownS e intE (xs.take p ++ xs.drop j ++ xs.drop (p + (xs.length - j)))))) :: r⟩ k) : PlanL C ops t0 r0 qs (⟨some d, .call { callee := .builtin .append, args := #[x, y], argTypes := #[ty', ty'] }, ty, pos, af, gd⟩ :: rest) ⟨t, r⟩ k :=
  planL_eff _ [(g, .obj (atS (rowV b xs.length cap) (ownS e intE (xs.take p ++ xs.drop j ++ xs.drop (p + (xs.length - j))))))] [g] [] (rd2_ok (by simp [Op.operands, Call.operands]) (by simp [Op.operands, Call.operands])) hgd rfl hn (rd2 hx hy) (fun r' hF _ => op_appendU rfl ((hF g (List.mem_singleton.2 rfl)).trans hg) hE hi hsz hp hj hne) hk
end
end Go.Proofs.Ytjkidecaciomgaa
/- slices.Index and Delete over rows of the call's own; edit: into, leave. -/
namespace Go.Proofs.Ytjkidecaciomgaa
set_option linter.unusedVariables false
set_option linter.unusedSimpArgs false
set_option maxRecDepth 100000
open Go.RowKit

theorem index_o {xs : List Int} (v : Int) (hm : xs.length ≤ 1000000) : Fun Try.prog 164 [.res 0, .v (.int .i64 v)] [(0, .obj (ownS 3 intE xs))] (.v (.int .i64 (idxI xs v))) [(0, .obj (ownS 3 intE xs))] := by
  refine fun_intro 19 Try.func164 rfl rfl rfl (fun ι F S w => ?_)
  (repeat (first | (apply v_move; exact rfl; exact rfl) | (apply v_assign; exact rfl; exact rfl) | refine run_seq ?_ | refine run_region ?_ | refine runL_nil ?_ | refine run_block ?_ | (apply v_lenO; exact slA rfl; exact rfl; exact rfl; exact rfl)))
  refine v_loop (fun i : Nat => ⟨[(0, .res 0), (1, .v (.int .i64 v)), (7, .v (.int .i64 xs.length)), (8, .v (.int .i64 i))], [(0, .obj (ownS 3 intE xs))]⟩) (fun i => i ≤ xs.length ∧ ∀ j, j < i → xs[j]? ≠ some v) (fun i => xs.length - i) 0 idN ⟨rfl, trivial⟩ (by repeat (first | exact trivial | refine ⟨rfl, ?_⟩)) (by repeat (first | exact trivial | refine ⟨rfl, ?_⟩)) rfl ⟨by omega, fun j hj => by omega⟩ fun i ⟨hi, hp⟩ ih => ?_
  (repeat (first | refine run_seq ?_ | refine run_region ?_ | refine runL_nil ?_ | (apply v_lss; exact rfl; exact rfl; exact rfl)))
  refine run_cond rfl (fun h => ?_) (fun h => ?_)
  · have hlt : i < xs.length := by simpa using h
    have hx : xs[((i : Int)).toNat]? = some xs[i] := by simp [hlt]
    (repeat (first | (apply v_idxO; exact slA rfl; exact tyA rfl; exact rfl; exact rfl; exact rfl; exact rfl; exact (by omega); exact (by omega); exact rfl) | (apply v_move; exact rfl; exact rfl) | (apply v_assign; exact rfl; exact rfl) | refine run_seq ?_ | refine run_region ?_ | refine runL_nil ?_ | refine run_skip ?_ | refine run_block ?_))
    refine v_loadO (f := 0) (j := ((i : Int)).toNat) (tyA rfl) rfl rfl rfl rfl hx (by decide) rfl rfl ?_
    (repeat (first | refine runL_nil ?_ | (apply v_eql; exact rfl; exact rfl; exact rfl)))
    refine run_cond rfl (fun h => ?_) (fun h => ?_)
    · have he : v = xs[i] := by simpa using h
      (repeat (first | (apply v_move; exact rfl; exact rfl) | (apply v_assign; exact rfl; exact rfl) | refine run_seq ?_ | refine run_region ?_ | refine runL_nil ?_))
      exact run_ret idN _ Try.func164 ⟨_, _, rfl, rfl, rfl⟩ (by rw [idxI_at (i := i) (by simp [hlt, he]) hp]; rfl) ⟨rfl, trivial⟩ ⟨rfl, trivial⟩ rfl
    · have he : v ≠ xs[i] := by simpa using h
      (repeat (first | (apply v_move; exact rfl; exact rfl) | refine run_region ?_ | refine runL_nil ?_ | refine run_skip ?_ | refine run_inBlock ?_ | (apply v_add; exact rfl; exact rfl; exact rfl; exact (by omega))))
      exact v_again ih (i + 1) idN ⟨rfl, trivial⟩ (by repeat (first | exact trivial | refine ⟨rfl, ?_⟩)) (by repeat (first | exact trivial | refine ⟨rfl, ?_⟩)) rfl ⟨by omega, fun j hj => by
        by_cases e : j = i
        · subst e; simpa [hlt] using Ne.symm he
        · exact hp j (by omega)⟩ (by omega)
  · have hge : i = xs.length := by have : ¬ i < xs.length := (by simpa using h); omega
    (repeat (first | (apply v_assign; exact rfl; exact rfl) | refine run_seq ?_ | refine run_region ?_ | refine runL_nil ?_ | (apply run_exit; exact rfl)))
    exact run_ret idN _ Try.func164 ⟨_, _, rfl, rfl, rfl⟩ (by rw [idxI_none fun j hj => hp j (by omega)]; rfl) ⟨rfl, trivial⟩ ⟨rfl, trivial⟩ rfl
theorem delete_f {xs : List Int} {k : Nat} (hk : k < xs.length) (hm : xs.length ≤ 1000000) : Fun Try.prog 185 [.res 0, .v (.int .i64 (k : Int)), .v (.int .i64 ((k : Int) + 1))] [(0, .obj (ownS 3 intE xs))] (.sem (listS intE (xs.eraseIdx k))) [] := by
  have hne : xs ≠ [] := fun e => by rw [e] at hk; simp at hk
  refine fun_intro 33 Try.func185 rfl rfl rfl (fun ι F S w => ?_)
  refine run_seq ?_
  refine run_region ?_
  refine runL_row 0 0 rfl rfl hne fun b cap hcap => ?_
  (repeat (first | (apply v_lenV; exact slA rfl; exact rfl; exact rfl) | (apply v_move; exact rfl; exact rfl) | (apply v_assign; exact rfl; exact rfl) | refine run_seq ?_ | refine run_region ?_ | refine runL_nil ?_))
  refine v_slice3 (slA rfl) (tyA rfl) rfl rfl rfl rfl rfl (by omega) (by omega) (by omega) (by omega) (by omega) rfl ?_
  (repeat (first | (apply v_move; exact rfl; exact rfl) | refine run_seq ?_ | refine run_region ?_ | refine runL_nil ?_ | (apply v_eql; exact rfl; exact rfl; exact rfl)))
  refine run_condN rfl (beq_false_of_ne (by omega)) ?_
  (repeat (first | (apply v_lenV; exact slA rfl; exact rfl; exact rfl) | (apply v_move; exact rfl; exact rfl) | (apply v_assign; exact rfl; exact rfl) | refine run_seq ?_ | refine run_region ?_ | refine runL_nil ?_ | refine run_skip ?_))
  refine run_draws (by kernel_rfl) (by kernel_rfl) ?_
  (repeat (first | (apply p_move; exact rfl; exact rfl; exact rfl)))
  refine p_toV (slA rfl) (tyA rfl) rfl rfl (by omega) (by omega) rfl rfl ?_
  (repeat (first | (apply p_move; exact rfl; exact rfl; exact rfl)))
  refine p_fromU (slA rfl) (tyA rfl) rfl rfl rfl (by omega) (by omega) hcap rfl rfl ?_
  skip
  refine p_appendU 0 (slA rfl) (tyA rfl) rfl rfl rfl rfl (by omega) (by omega) hne rfl rfl ?_
  (repeat (first | (apply p_assign; exact rfl; exact rfl; exact rfl)))
  refine planL_nil (by kernel_rfl) ?_
  have hlen : ((k : Int)).toNat + (xs.length - ((k : Int) + 1).toNat) = xs.length - 1 := by omega
  have hrow : xs.take ((k : Int)).toNat ++ xs.drop ((k : Int) + 1).toNat = xs.eraseIdx k := by rw [List.eraseIdx_eq_take_drop_succ]; congr 1
  have hel : (xs.eraseIdx k).length = xs.length - 1 := List.length_eraseIdx_of_lt hk
  rw [hlen, hrow]
  generalize hys : xs.eraseIdx k ++ xs.drop (xs.length - 1) = ys
  have hyl : ys.length = xs.length := by rw [← hys, List.length_append, hel, List.length_drop]; omega
  have hyt : ys.take (xs.length - 1) = xs.eraseIdx k := by rw [← hys, ← hel, List.take_left]
  have hyne : ys ≠ [] := fun e => by rw [e] at hyl; simp at hyl; omega
  rw [← hyl]
  (repeat (first | (apply v_lenV; exact slA rfl; exact rfl; exact rfl) | (apply v_move; exact rfl; exact rfl) | refine run_seq ?_ | refine run_region ?_))
  refine v_fromto (slA rfl) (tyA rfl) rfl rfl rfl rfl (by omega) (by omega) (by omega) (by omega) rfl ?_
  refine v_clearU (g := 0) (cap := cap) (xs := ys) (slA rfl) (by kernel_rfl) rfl rfl (tyA rfl) (by omega) (by omega) ?_
  (repeat (first | (apply v_move; exact rfl; exact rfl) | (apply v_assign; exact rfl; exact rfl) | refine run_seq ?_ | refine run_region ?_ | refine runL_nil ?_))
  have hz : (ys.take (((ys.length - 1 : Nat) : Int)).toNat ++ List.replicate (((ys.length : Nat) : Int).toNat - (((ys.length - 1 : Nat) : Int)).toNat) 0).length = ys.length := by
    rw [List.length_append, List.length_take, List.length_replicate]
    omega
  refine run_unrow (xs := ys.take (((ys.length - 1 : Nat) : Int)).toNat ++ List.replicate (((ys.length : Nat) : Int).toNat - (((ys.length - 1 : Nat) : Int)).toNat) 0) 6 0 50 (ys.length - 1) rfl (by rw [hz]; rfl) (by intro e; rw [e] at hz; simp at hz; omega) (by rw [hz]; omega) rfl rfl rfl ?_
  have hfin : (ys.take (((ys.length - 1 : Nat) : Int)).toNat ++ List.replicate (((ys.length : Nat) : Int).toNat - (((ys.length - 1 : Nat) : Int)).toNat) 0).take (ys.length - 1) = xs.eraseIdx k := by
    rw [show (((ys.length - 1 : Nat) : Int)).toNat = ys.length - 1 by omega, List.take_append_of_le_length (by simp), List.take_take, Nat.min_self, hyl]
    exact hyt
  rw [hfin]
  refine run_freeze 6 50 rfl rfl ?_
  exact run_ret idN _ Try.func185 ⟨_, _, rfl, rfl, rfl⟩ rfl ⟨rfl, trivial⟩ trivial rfl
theorem into_f {xs ys : List Int} {k : Nat} (hk : k ≤ xs.length) (hm : xs.length ≤ 1000) (hm2 : ys.length ≤ 1000) : Fun Try.prog 165 [.sem (listS intE xs), .v (.int .i64 (k : Int)), .sem (listS intE ys)] [] (.sem (listS intE (xs.take k ++ ys ++ xs.drop k))) [] := by
  have hcl := clone_o (xs := xs.take ((k : Int)).toNat) (by simp; omega)
  refine fun_intro 20 Try.func165 rfl rfl rfl (fun ι F S w => ?_)
  (repeat (first | (apply v_cOx; exact rfl; exact cbA rfl; (first | exact hcl); exact rfl; exact rfl; exact rfl; exact rfl; exact rfl) | (apply v_move; exact rfl; exact rfl) | (apply v_assign; exact rfl; exact rfl) | refine run_seq ?_ | refine run_region ?_ | refine runL_nil ?_ | (apply v_sliceH; exact slA rfl; exact tyA rfl; exact rfl; exact rfl; exact rfl; exact (by omega); exact (by omega); exact rfl)))
  refine v_appendD (slA rfl) (tyA rfl) rfl rfl rfl rfl rfl rfl rfl (by simp; omega) rfl rfl rfl rfl ?_
  (repeat (first | (apply v_move; exact rfl; exact rfl) | (apply v_assign; exact rfl; exact rfl) | refine run_seq ?_ | refine run_region ?_ | refine runL_nil ?_ | (apply v_sliceL; exact slA rfl; exact tyA rfl; exact rfl; exact rfl; exact rfl; exact (by omega); exact (by omega); exact rfl)))
  refine v_appendD (slA rfl) (tyA rfl) rfl rfl rfl rfl rfl rfl rfl (by simp; omega) rfl rfl rfl rfl ?_
  (repeat (first | (apply v_assign; exact rfl; exact rfl) | refine runL_nil ?_))
  refine run_freeze 6 19 rfl rfl ?_
  exact run_ret idN _ Try.func165 ⟨_, _, rfl, rfl, rfl⟩ (by rw [show ((k : Int)).toNat = k by omega]; rfl) trivial trivial rfl
/-- A node whose children are a row of the caller's own. -/
def nodeLr (x : Nd) (g : Nat) : List AV := [.v (.int .i64 x.kind), .v (.int .i64 x.parent), .v (.int .i64 x.host), .v (.int .i64 x.shadow), .v (.int .i64 x.mode), .v (.bool x.slot), .v (.string x.name), .v (.string x.want), .res g]
theorem nodeo_s {l : List Nd} (h : WF l) {id : Int} {x : Nd} (hx : nodeAt l id = some x) : Fun Try.prog 38 [.ptr 0 0, .v (.int .i64 id)] (forR 1 l) (.tup [.agg (nodeLr x 2), .v (.bool true)]) (forR 1 l ++ [(2, .obj (ownS 3 intE x.kids))]) := by
  have hm : l.length ≤ 1000000 := by have := h.len; omega
  have hkx := (kids_ok h id x hx).1
  have hj := (nodeAt_some hx).2.2
  refine fun_intro 24 Try.func38 rfl rfl rfl (fun ι F S w => ?_)
  (repeat (first | (apply v_cSx; exact rfl; exact cbA rfl; (first | exact at_m hx hm); (repeat (first | exact trivial | refine ⟨rfl, ?_⟩)); exact rfl; exact rfl; exact rfl; exact rfl; exact rfl) | (apply v_move; exact rfl; exact rfl) | (apply v_assign; exact rfl; exact rfl) | refine run_seq ?_ | refine run_region ?_ | refine runL_nil ?_ | refine run_skip ?_ | (apply run_cond; exact rfl; (focus (intro hb; cases hb; done)); intro hb; clear hb) | (apply v_eqlNil; exact ptA rfl; exact rfl; exact NN.ptr; exact rfl) | (apply v_nilCheck; exact rfl; exact NN.ptr; exact rfl) | (apply v_allocD; exact tyA rfl; exact rfl; exact rfl; exact rfl; exact rfl)))
  refine v_loadO (f := 0) (tyA rfl) rfl rfl rfl rfl hj (by decide) rfl rfl ?_
  (repeat (first | (apply v_loadO; exact tyA rfl; exact rfl; exact rfl; exact rfl; exact rfl; (first | exact hj); exact (by decide); exact rfl; exact rfl) | (apply v_cOx; exact rfl; exact cbA rfl; (first | exact clone_o hkx); exact rfl; exact rfl; exact rfl; exact rfl; exact rfl) | (apply v_move; exact rfl; exact rfl) | (apply v_assign; exact rfl; exact rfl) | refine run_seq ?_ | refine run_region ?_ | refine runL_nil ?_ | (apply v_fldP; exact flA rfl; exact rfl; exact rfl; exact rfl) | (apply v_loadB; exact tyA rfl; exact rfl; exact rfl; exact rfl; exact rfl; exact rfl; exact rfl) | (apply v_nilCheck; exact rfl; exact NN.ptr; exact rfl) | (apply v_allocD; exact tyA rfl; exact rfl; exact rfl; exact rfl; exact rfl) | (apply v_storeW; exact tyA rfl; exact rfl; exact rfl; exact rfl; exact rfl; exact rfl; exact rfl; exact rfl) | (apply v_storeB; exact tyA rfl; exact rfl; exact rfl; exact rfl; exact rfl; exact rfl; exact rfl; exact rfl)))
  exact run_ret (mp [(2, 21)]) _ Try.func38 ⟨_, _, _, _, _, _, rfl, rfl, rfl, ty33, rfl, (fun h => by cases h), rfl, ⟨_, _, rfl, rfl, rfl⟩⟩ rfl ⟨rfl, rfl, trivial⟩ ⟨rfl, rfl, rfl, trivial⟩ rfl
theorem nodel_w {l : List Nd} (h : WF l) (id : Int) : Fun Try.prog 38 [.ptr 0 0, .v (.int .i64 id)] (forR 1 l) (.tup [.agg (nodeL (nodeR l id)), .v (.bool (nodeAt l id).isSome)]) (forR 1 l) := by
  cases hx : nodeAt l id with
  | none =>
    rw [nodeR_none hx]
    exact nodel_n h hx
  | some x =>
    rw [nodeR_some hx]
    exact nodel_s h hx
/-- A node leaves its parent. -/
noncomputable def leaveM (l : List Nd) (a : Int) : List Nd :=
  match nodeAt l (nodeR l a).parent with
  | none => l
  | some p => (putM l (nodeR l a).parent (p.kids.erase a)).1
theorem leave_f {l : List Nd} (h : WF l) (a : Int) : Fun Try.prog 163 [.ptr 0 0, .v (.int .i64 a)] (forR 1 l) (.tup []) (forR 2 (leaveM l a)) := by
  have hn := nodel_w h a
  cases hp : nodeAt l (nodeR l a).parent with
  | none =>
    have e1 : leaveM l a = l := by rw [leaveM, hp]
    have hq := nodel_n h hp
    rw [e1]
    generalize nodeR l a = n at *
    generalize (nodeAt l a).isSome = ok at *
    refine fun_intro 37 Try.func163 rfl rfl rfl (fun ι F S w => ?_)
    (repeat (first | (apply v_cSx; exact rfl; exact cbA rfl; (first | exact hn | exact hq); (repeat (first | exact trivial | refine ⟨rfl, ?_⟩)); exact rfl; exact rfl; exact rfl; exact rfl; exact rfl) | (apply v_move; exact rfl; exact rfl) | (apply v_assign; exact rfl; exact rfl) | refine run_seq ?_ | refine run_region ?_ | refine runL_nil ?_ | refine run_skip ?_ | (apply v_extract; exact rfl; exact rfl; exact rfl) | (apply v_fldP; exact flA rfl; exact rfl; exact rfl; exact rfl) | (apply v_loadB; exact tyA rfl; exact rfl; exact rfl; exact rfl; exact rfl; exact rfl; exact rfl) | (apply run_cond; exact rfl; (focus (intro hb; cases hb; done)); intro hb; clear hb) | (apply v_allocD; exact tyA rfl; exact rfl; exact rfl; exact rfl; exact rfl) | (apply v_storeW; exact tyA rfl; exact rfl; exact rfl; exact rfl; exact rfl; exact rfl; exact rfl; exact rfl)))
    exact run_end (mp [(2, 1)]) _ Try.func163 rfl rfl ⟨rfl, rfl, trivial⟩ ⟨rfl, rfl, trivial⟩ rfl
  | some p =>
    have e1 : leaveM l a = (putM l (nodeR l a).parent (p.kids.erase a)).1 := by rw [leaveM, hp]
    have hq := nodeo_s h hp
    have hpar : (nodeR l a).parent ≠ 0 := fun e => by rw [e, nodeAt_zero] at hp; cases hp
    obtain ⟨n, hna⟩ : ∃ n, nodeAt l a = some n := by
      cases hx : nodeAt l a with
      | some n => exact ⟨n, rfl⟩
      | none => rw [nodeR_none hx] at hpar; exact absurd rfl hpar
    rw [nodeR_some hna] at *
    have hin : a ∈ p.kids := by
      obtain ⟨y, hy, hk⟩ := (h.par hna).resolve_left hpar
      rw [hp] at hy
      cases hy
      exact hk
    have hkl := (kids_ok h _ p hp).1
    have hix := index_o a hkl
    have hii : idxI p.kids a = ((p.kids.idxOf a : Nat) : Int) := by rw [idxI, if_pos hin]
    have hlt : p.kids.idxOf a < p.kids.length := List.idxOf_lt_length_iff.2 hin
    rw [hii] at hix
    have hdel := delete_f hlt hkl
    have hput := put_f h.ups n.parent (p.kids.eraseIdx (p.kids.idxOf a)) (by have := h.len; omega) (by have := List.length_eraseIdx_le p.kids (p.kids.idxOf a); omega) (kids_ok h _)
    have her : p.kids.eraseIdx (p.kids.idxOf a) = p.kids.erase a := (List.erase_eq_eraseIdx_of_idxOf rfl).symm
    rw [her] at hput hdel
    rw [e1]
    generalize p.kids.idxOf a = k at *
    generalize p.kids.erase a = ks at *
    generalize putM l n.parent ks = T at *
    generalize (nodeAt l a).isSome = ok at *
    refine fun_intro 37 Try.func163 rfl rfl rfl (fun ι F S w => ?_)
    (repeat (first | (apply v_cSx; exact rfl; exact cbA rfl; (first | exact hn); (repeat (first | exact trivial | refine ⟨rfl, ?_⟩)); exact rfl; exact rfl; exact rfl; exact rfl; exact rfl) | (apply v_move; exact rfl; exact rfl) | (apply v_assign; exact rfl; exact rfl) | refine run_seq ?_ | refine run_region ?_ | refine runL_nil ?_ | (apply v_extract; exact rfl; exact rfl; exact rfl) | (apply v_fldP; exact flA rfl; exact rfl; exact rfl; exact rfl) | (apply v_loadB; exact tyA rfl; exact rfl; exact rfl; exact rfl; exact rfl; exact rfl; exact rfl) | (apply v_allocD; exact tyA rfl; exact rfl; exact rfl; exact rfl; exact rfl) | (apply v_storeW; exact tyA rfl; exact rfl; exact rfl; exact rfl; exact rfl; exact rfl; exact rfl; exact rfl)))
    refine v_cR (mp [(1, 1), (2, 19)]) hq rfl (cbA rfl) ⟨rfl, rfl, trivial⟩ (by kernel_rfl) (by kernel_rfl) (by kernel_rfl) (by kernel_rfl) (by kernel_rfl) (by kernel_rfl) (by kernel_rfl) (by kernel_rfl) rfl ?_
    (repeat (first | (apply v_move; exact rfl; exact rfl) | (apply v_assign; exact rfl; exact rfl) | refine run_seq ?_ | refine run_region ?_ | refine runL_nil ?_ | (apply v_extract; exact rfl; exact rfl; exact rfl) | (apply v_fldP; exact flA rfl; exact rfl; exact rfl; exact rfl) | (apply v_loadB; exact tyA rfl; exact rfl; exact rfl; exact rfl; exact rfl; exact rfl; exact rfl) | (apply run_cond; exact rfl; rotate_left; (focus (intro hb; cases hb; done)); intro hb; clear hb) | (apply v_allocD; exact tyA rfl; exact rfl; exact rfl; exact rfl; exact rfl) | (apply v_storeW; exact tyA rfl; exact rfl; exact rfl; exact rfl; exact rfl; exact rfl; exact rfl; exact rfl)))
    refine v_cR (mp [(0, 19)]) hix rfl (cbA rfl) ⟨rfl, trivial⟩ (by kernel_rfl) (by kernel_rfl) (by kernel_rfl) (by kernel_rfl) (by kernel_rfl) (by kernel_rfl) (by kernel_rfl) (by kernel_rfl) rfl ?_
    (repeat (first | (apply v_assign; exact rfl; exact rfl) | refine runL_nil ?_))
    refine run_draws (by kernel_rfl) (by kernel_rfl) ?_
    (repeat (first | (apply p_move; exact rfl; exact rfl; exact rfl) | (apply p_fldP; exact flA rfl; exact rfl; exact rfl; exact rfl; exact rfl) | (apply p_loadB; exact tyA rfl; exact rfl; exact rfl; exact rfl; exact rfl; exact rfl; exact rfl; exact rfl) | (apply p_add; exact rfl; exact rfl; exact rfl; exact (by omega); exact rfl)))
    refine p_cR (mp [(0, 19)]) hdel rfl (cbA rfl) ⟨rfl, trivial⟩ (by kernel_rfl) (by kernel_rfl) (by kernel_rfl) (by kernel_rfl) (by kernel_rfl) (by kernel_rfl) (by kernel_rfl) rfl rfl ?_
    refine p_cR (mp [(2, 36)]) hput rfl (cbA rfl) ⟨rfl, rfl, trivial⟩ (by kernel_rfl) (by kernel_rfl) (by kernel_rfl) (by kernel_rfl) (by kernel_rfl) (by kernel_rfl) (by kernel_rfl) rfl rfl ?_
    skip
    refine planL_nil (by kernel_rfl) ?_
    skip
    exact run_end (mp [(2, 36)]) _ Try.func163 rfl rfl ⟨rfl, rfl, trivial⟩ ⟨rfl, rfl, trivial⟩ rfl
end Go.Proofs.Ytjkidecaciomgaa
/- Trees that are changed, plain: Put, leave. -/
namespace Go.Proofs.Ytjkidecaciomgaa
set_option linter.unusedVariables false
set_option linter.unusedSimpArgs false
set_option maxRecDepth 100000
open Go.RowKit

/-- What may be put below p. -/
def PutK (l : List Nd) (p k : Int) : Prop := ∃ x, nodeAt l k = some x ∧ rootedB x = false ∧ k ∉ ch l upX p ∧ (x.parent = 0 ∨ x.parent = p)
theorem arg_all {l : List Nd} {ks : List Int} (h1 : ∀ k ∈ ks, ∃ x, nodeAt l k = some x) (h2 : ks.Nodup) : (List.range ks.length).all (argOk l ks) = true := by
  rw [List.all_eq_true]
  intro i hi
  have hi := List.mem_range.1 hi
  obtain ⟨x, hx⟩ := h1 ks[i] (List.getElem_mem hi)
  have hg : ks.getD i 0 = ks[i] := by simp [hi]
  rw [argOk, hg, hx]
  simp only [Option.isSome_some, Bool.true_and, Bool.not_eq_true', decide_eq_false_iff_not]
  intro hm
  obtain ⟨j, hj, e⟩ := List.mem_iff_getElem.1 hm
  rw [List.length_take] at hj
  rw [List.getElem_take] at e
  have e3 : ks[j]? = ks[i]? := by rw [List.getElem?_eq_getElem hi, ← e, List.getElem?_eq_getElem]
  have := (List.getElem?_inj (show j < ks.length by omega) h2).1 e3
  omega
theorem arg_back {l : List Nd} {ks : List Int} (h : (List.range ks.length).all (argOk l ks) = true) : ks.Nodup := by
  rw [List.Nodup, List.pairwise_iff_getElem]
  intro i j hi hj hij e
  have := List.all_eq_true.1 h j (List.mem_range.2 hj)
  have hg : ks.getD j 0 = ks[j] := by simp [hj]
  rw [argOk, hg, Bool.and_eq_true, Bool.not_eq_true', decide_eq_false_iff_not] at this
  refine this.2 (List.mem_iff_getElem.2 ⟨i, by rw [List.length_take]; omega, ?_⟩)
  rw [List.getElem_take]
  exact e
section
variable {l : List Nd} (h : WF l)
include h
theorem put_done {p : Int} {px : Nd} (hp : nodeAt l p = some px) {ks : List Int} (hn : ks.Nodup) (hk : ∀ k ∈ ks, PutK l p k) : (putM l p ks).2 = 0 ∧ ∀ b, nodeAt (putM l p ks).1 b = (nodeAt l b).map (putN p ks b) := by
  have h1 := arg_all (l := l) (fun k hk' => by obtain ⟨x, hx, _⟩ := hk k hk'; exact ⟨x, hx⟩) hn
  have h2 : ks.all (putOk l p) = true := by
    rw [List.all_eq_true]
    intro k hk'
    obtain ⟨x, hx, hr, ha, hpar⟩ := hk k hk'
    have ha' : aboveB l k p = false := by rw [← Bool.not_eq_true, aboveB_true, ← mem_over h]; exact ha
    rw [putOk, hx]
    simp only [hr, ha', Bool.not_false, Bool.true_and]
    rcases hpar with e | e <;> simp [e]
  have e : putM l p ks = (setKids (parAll (parAll l px.kids 0) ks p) p ks, 0) := by
    rw [putM, hp]
    simp only [h1, h2]
    rfl
  rw [e]
  exact ⟨rfl, put_nodes h hp ks⟩
theorem put_get {p : Int} {ks : List Int} (h0 : (putM l p ks).2 = 0) : (∃ px, nodeAt l p = some px) ∧ ks.Nodup ∧ (∀ k ∈ ks, PutK l p k) ∧ ∀ b, nodeAt (putM l p ks).1 b = (nodeAt l b).map (putN p ks b) := by
  unfold putM at h0 ⊢
  cases hp : nodeAt l p with
  | none => rw [hp] at h0; exact absurd h0 (by simp)
  | some px =>
    rw [hp] at h0
    dsimp only at h0 ⊢
    by_cases h1 : (List.range ks.length).all (argOk l ks) = false
    · rw [if_pos h1] at h0; exact absurd h0 (by simp)
    · rw [if_neg h1] at h0 ⊢
      by_cases h2 : ks.all (putOk l p) = false
      · rw [if_pos h2] at h0; exact absurd h0 (by simp)
      · rw [if_neg h2]
        refine ⟨⟨px, rfl⟩, arg_back (by simpa using h1), fun k hk => ?_, put_nodes h hp ks⟩
        obtain ⟨x, hx, hr, ha, hpar⟩ := putOk_spec (List.all_eq_true.1 (by simpa using h2) k hk)
        exact ⟨x, hx, hr, fun e => ha ((mem_over h _ _).1 e), hpar⟩
theorem kid_of {p c : Int} {px x : Nd} (hp : nodeAt l p = some px) (hc : nodeAt l c = some x) : c ∈ px.kids ↔ x.parent = p := by
  constructor
  · intro hm
    obtain ⟨y, hy, e⟩ := h.kid hp hm
    rw [hc] at hy
    cases hy
    exact e
  · intro e
    have hp1 := nodeAt_some hp
    rcases h.par hc with h0 | ⟨y, hy, hm⟩
    · omega
    · rw [e, hp] at hy
      cases hy
      exact hm
/-- A child may be put again. -/
theorem kid_putK {p c : Int} {px : Nd} (hp : nodeAt l p = some px) (hc : c ∈ px.kids) : PutK l p c := by
  obtain ⟨y, hy, e⟩ := h.kid hp hc
  have hp1 := nodeAt_some hp
  refine ⟨y, hy, ?_, fun ha => ?_, .inr e⟩
  · rw [← Bool.not_eq_true]
    intro hr
    have := h.root hy hr
    omega
  · have h1 := up_step h hy
    rw [show upX y = p by rw [upX, if_neg (by omega), e]] at h1
    have h2 := congrArg List.length h1
    rw [List.length_cons] at h2
    rcases up_le h ha with e1 | e1
    · rw [e1] at h2; omega
    · omega
theorem kids_128 (b : Int) : (nodeR l b).kids.length ≤ 128 := by
  cases hb : nodeAt l b with
  | none => rw [nodeR_none hb]; simp [nd0]
  | some x =>
    rw [nodeR_some hb]
    have := nodup_len l.length x.kids (h.nod hb) fun c hc => by
      obtain ⟨y, hy, _⟩ := h.kid hb hc
      have := nodeAt_some hy
      omega
    have := h.len
    omega
end
/-- What leaving makes of a node. -/
def leaveN (a b : Int) (x : Nd) : Nd := { x with parent := if b = a then 0 else x.parent, kids := x.kids.erase a }
def clearN (a b : Int) (x : Nd) : Nd := { x with parent := if x.parent = a then 0 else x.parent, kids := if b = a then [] else x.kids }
section
variable {l : List Nd} (h : WF l)
include h
theorem leave_wf (a : Int) : WF (leaveM l a) := by
  unfold leaveM
  cases nodeAt l (nodeR l a).parent with
  | none => exact h
  | some p => exact wf_put h _ _
theorem leave_ok (a b : Int) : nodeAt (leaveM l a) b = (nodeAt l b).map (leaveN a b) := by
  cases hp : nodeAt l (nodeR l a).parent with
  | none =>
    have e1 : leaveM l a = l := by rw [leaveM, hp]
    rw [e1]
    cases hb : nodeAt l b with
    | none => rfl
    | some x =>
      have hpar : ∀ n, nodeAt l a = some n → n.parent = 0 := fun n hn => by
        rw [nodeR_some hn] at hp
        refine (h.par hn).resolve_right fun ⟨y, hy, _⟩ => ?_
        rw [hp] at hy
        cases hy
      have h1 : x.kids.erase a = x.kids := List.erase_of_not_mem fun hm => by
        obtain ⟨y, hy, e⟩ := h.kid hb hm
        have := hpar y hy
        have := nodeAt_some hb
        omega
      have h2 : (if b = a then 0 else x.parent) = x.parent := by
        by_cases e : b = a
        · subst e; rw [if_pos rfl, hpar x hb]
        · rw [if_neg e]
      rw [Option.map_some, leaveN, h1, h2]
  | some p =>
    have e1 : leaveM l a = (putM l (nodeR l a).parent (p.kids.erase a)).1 := by rw [leaveM, hp]
    have hp0 := nodeAt_some hp
    obtain ⟨n, hn⟩ : ∃ n, nodeAt l a = some n := by
      cases hx : nodeAt l a with
      | some n => exact ⟨n, rfl⟩
      | none => rw [nodeR_none hx] at hp0; exact absurd hp0.1 (by decide)
    rw [nodeR_some hn] at *
    have hnd := h.nod hp
    rw [e1, (put_done h hp (hnd.erase a) fun k hk => kid_putK h hp (List.mem_of_mem_erase hk)).2 b]
    cases hb : nodeAt l b with
    | none => rfl
    | some x =>
      have hk := kid_of h hp hb
      have hm : b ∈ p.kids.erase a ↔ b ≠ a ∧ b ∈ p.kids := hnd.mem_erase_iff
      have h1 : (if b ∈ p.kids.erase a then n.parent else if x.parent = n.parent then 0 else x.parent) = if b = a then 0 else x.parent := by
        by_cases e : b = a
        · subst e
          rw [hn] at hb
          cases hb
          rw [if_pos rfl, if_neg (fun e => (hm.1 e).1 rfl), if_pos rfl]
        · rw [if_neg e]
          by_cases e2 : x.parent = n.parent
          · rw [if_pos (hm.2 ⟨e, hk.2 e2⟩), e2]
          · rw [if_neg (fun e3 => e2 (hk.1 (hm.1 e3).2)), if_neg e2]
      have h2 : (if b = n.parent then p.kids.erase a else x.kids) = x.kids.erase a := by
        by_cases e : b = n.parent
        · subst e
          rw [hp] at hb
          cases hb
          rw [if_pos rfl]
        · rw [if_neg e]
          refine (List.erase_of_not_mem fun hm => ?_).symm
          exact e ((kid_of h hb hn).1 hm).symm
      rw [Option.map_some, Option.map_some, putN, leaveN, h1, h2]
theorem clear_ok {a : Int} {n : Nd} (hn : nodeAt l a = some n) : (putM l a []).2 = 0 ∧ ∀ b, nodeAt (putM l a []).1 b = (nodeAt l b).map (clearN a b) := by
  obtain ⟨h1, h2⟩ := put_done h hn (ks := []) List.nodup_nil fun k hk => by cases hk
  refine ⟨h1, fun b => ?_⟩
  rw [h2 b]
  congr 1
end
/-- What a check lets pass. -/
theorem chk_ok {l : List Nd} {a b c : Int} (h0 : checkM l a b c = 0) : ∃ n p, nodeAt l a = some n ∧ nodeAt l b = some p ∧ a ∉ ch l upX b ∧ n.kind ≠ 1 ∧ n.kind ≠ 3 ∧ (c = 0 ∨ ∃ x, nodeAt l c = some x ∧ x.parent = b) := by
  unfold checkM at h0
  cases ha : nodeAt l a with
  | none => rw [ha] at h0; exact absurd h0 (by simp)
  | some n =>
    cases hb : nodeAt l b with
    | none => rw [ha, hb] at h0; exact absurd h0 (by simp)
    | some p =>
      rw [ha, hb] at h0
      cases hc : nodeAt l c with
      | none =>
        rw [hc] at h0
        dsimp only at h0
        by_cases h1 : c ≠ 0
        · rw [if_pos h1] at h0; exact absurd h0 (by simp)
        · rw [if_neg h1] at h0
          by_cases h2 : decide (a ∈ ch l upX b) = true
          · rw [if_pos h2] at h0; exact absurd h0 (by simp)
          · rw [if_neg h2] at h0
            by_cases h3 : n.kind = 1 ∨ n.kind = 3
            · rw [if_pos h3] at h0; exact absurd h0 (by simp)
            · exact ⟨n, p, rfl, rfl, by simpa using h2, fun e => h3 (.inl e), fun e => h3 (.inr e), .inl (Classical.byContradiction h1)⟩
      | some x =>
        rw [hc] at h0
        dsimp only at h0
        by_cases h2 : decide (a ∈ ch l upX b) = true
        · rw [if_pos h2] at h0; exact absurd h0 (by simp)
        · rw [if_neg h2] at h0
          by_cases h1 : x.parent ≠ b
          · rw [if_pos h1] at h0; exact absurd h0 (by simp)
          · rw [if_neg h1] at h0
            by_cases h3 : n.kind = 1 ∨ n.kind = 3
            · rw [if_pos h3] at h0; exact absurd h0 (by simp)
            · exact ⟨n, p, rfl, rfl, by simpa using h2, fun e => h3 (.inl e), fun e => h3 (.inr e), .inr ⟨x, rfl, Classical.byContradiction h1⟩⟩
/-- What is ahead of which a node is put. -/
def toM (l : List Nd) (a c : Int) : Int := if c = a then nextM l a else c
def mvM (l : List Nd) (a : Int) : List Int := if (nodeR l a).kind = 4 then (nodeR l a).kids else [a]
noncomputable def l1M (l : List Nd) (a : Int) : List Nd := if (nodeR l a).kind = 4 then (putM l a []).1 else leaveM l a
noncomputable def atM (l : List Nd) (a b c : Int) : Nat := if toM l a c ≠ 0 then (nodeR (l1M l a) b).kids.idxOf (toM l a c) else (nodeR (l1M l a) b).kids.length
noncomputable def beforeM (l : List Nd) (a b c : Int) : List Nd × Int :=
  if checkM l a b c ≠ 0 then (l, checkM l a b c)
  else putM (l1M l a) b ((nodeR (l1M l a) b).kids.take (atM l a b c) ++ mvM l a ++ (nodeR (l1M l a) b).kids.drop (atM l a b c))
section
variable {l : List Nd} (h : WF l)
include h
theorem l1_wf (a : Int) : WF (l1M l a) := by
  unfold l1M
  split
  · exact wf_put h _ _
  · exact leave_wf h a
/-- The children of b then. -/
theorem l1_kids {a b : Int} {n p : Nd} (ha : nodeAt l a = some n) (hb : nodeAt l b = some p) (hab : a ≠ b) : (nodeR (l1M l a) b).kids = if n.kind = 4 then p.kids else p.kids.erase a := by
  unfold l1M
  rw [nodeR_some ha]
  by_cases hk : n.kind = 4
  · rw [if_pos hk, if_pos hk, nodeR, (clear_ok h ha).2 b, hb, Option.map_some, Option.getD_some, clearN, if_neg (Ne.symm hab)]
  · rw [if_neg hk, if_neg hk, nodeR, leave_ok h a b, hb, Option.map_some, Option.getD_some, leaveN]
theorem self_in {a b : Int} {n : Nd} (ha : nodeAt l a = some n) (hab : a ∉ ch l upX b) : a ≠ b := fun e => hab (e ▸ up_self h ha)
/-- What is next is another child, or none. -/
theorem next_in {a b : Int} {n p : Nd} (ha : nodeAt l a = some n) (hb : nodeAt l b = some p) (hpar : n.parent = b) : nextM l a = 0 ∨ (nextM l a ∈ p.kids ∧ nextM l a ≠ a) := by
  have hb0 := nodeAt_some hb
  have hsib : sibs l a = p.kids := by rw [sibs, nodeR_some ha, hpar, if_neg (by omega), nodeR_some hb]
  have hin : a ∈ p.kids := (kid_of h hb ha).2 hpar
  have hidx : indexM l a = ((p.kids.idxOf a : Nat) : Int) := by rw [indexM, nodeR_some ha, hpar, if_neg (by omega), hsib, idxI, if_pos hin]
  have hlt : p.kids.idxOf a < p.kids.length := List.idxOf_lt_length_iff.2 hin
  have e : nextM l a = p.kids.getD (p.kids.idxOf a + 1) 0 := by
    rw [nextM, hidx, if_pos (by omega), hsib]
    congr 1
  rw [e, List.getD_eq_getElem?_getD]
  by_cases hl : p.kids.idxOf a + 1 < p.kids.length
  · right
    rw [List.getElem?_eq_getElem hl, Option.getD_some]
    refine ⟨List.getElem_mem hl, fun e2 => ?_⟩
    have h3 : p.kids[p.kids.idxOf a] = a := List.getElem_idxOf hlt
    have e3 : p.kids[p.kids.idxOf a + 1]? = p.kids[p.kids.idxOf a]? := by rw [List.getElem?_eq_getElem hl, List.getElem?_eq_getElem hlt, e2, h3]
    have := (List.getElem?_inj hl (h.nod hb)).1 e3
    omega
  · left
    rw [List.getElem?_eq_none (by omega)]
    rfl
/-- Ahead of whom it is put is a child of b then, or none. -/
theorem to_in {a b c : Int} (h0 : checkM l a b c = 0) : toM l a c = 0 ∨ toM l a c ∈ (nodeR (l1M l a) b).kids := by
  obtain ⟨n, p, ha, hb, hab, hk1, hk3, hc⟩ := chk_ok h0
  rw [l1_kids h ha hb (self_in h ha hab)]
  have key : toM l a c = 0 ∨ (toM l a c ∈ p.kids ∧ toM l a c ≠ a) := by
    unfold toM
    by_cases e : c = a
    · rw [if_pos e]
      subst e
      have hpar : n.parent = b := by
        rcases hc with hc | ⟨x, hx, hxp⟩
        · rw [hc, nodeAt_zero] at ha; cases ha
        · rw [ha] at hx; cases hx; exact hxp
      exact next_in h ha hb hpar
    · rw [if_neg e]
      rcases hc with hc | ⟨x, hx, hxp⟩
      · exact .inl hc
      · exact .inr ⟨(kid_of h hb hx).2 hxp, e⟩
  rcases key with e | ⟨e1, e2⟩
  · exact .inl e
  · right
    split
    · exact e1
    · exact (h.nod hb).mem_erase_iff.2 ⟨e2, e1⟩
theorem at_le {a b c : Int} (h0 : checkM l a b c = 0) : atM l a b c ≤ (nodeR (l1M l a) b).kids.length := by
  have _ := h.len
  unfold atM
  split
  · exact List.idxOf_le_length
  · exact Nat.le_refl _
theorem mv_len (a : Int) : (mvM l a).length ≤ 128 := by
  unfold mvM
  split
  · exact kids_128 h a
  · simp
end
end Go.Proofs.Ytjkidecaciomgaa
/- edit: Before. -/
namespace Go.Proofs.Ytjkidecaciomgaa
set_option linter.unusedVariables false
set_option linter.unusedSimpArgs false
set_option maxRecDepth 100000
open Go.RowKit

theorem put_nil {l : List Nd} (h : WF l) (p : Int) : Fun Try.prog 46 [.ptr 0 0, .v (.int .i64 p), .v (.slice none 0 0)] (forR 1 l) (.v (.int .i64 (putM l p []).2)) (forR 2 (putM l p []).1) := fun ι F S w vals hh hv => by
  refine put_f h.ups p [] (by have := h.len; omega) (by simp) (kids_ok h p) ι F S w vals hh ?_
  simp only [AVRs, AVR] at hv ⊢
  obtain ⟨u, r, rfl, h1, u2, r2, rfl, h2, u3, r3, rfl, rfl, rfl⟩ := hv
  exact ⟨u, _, rfl, h1, u2, _, rfl, h2, _, _, rfl, ⟨none, 0, rfl, Nat.le_refl _, .inl rfl⟩, rfl⟩
theorem before_f {l : List Nd} (h : WF l) (a b c : Int) : Fun Try.prog 115 [.ptr 0 0, .v (.int .i64 a), .v (.int .i64 b), .v (.int .i64 c)] (forR 1 l) (.v (.int .i64 (beforeM l a b c).2)) (forR 2 (beforeM l a b c).1) := by
  have hchk := lend 1 rfl rfl (check_f h a b c)
  by_cases h0 : checkM l a b c = 0
  · have e1 : beforeM l a b c = putM (l1M l a) b ((nodeR (l1M l a) b).kids.take (atM l a b c) ++ mvM l a ++ (nodeR (l1M l a) b).kids.drop (atM l a b c)) := by rw [beforeM, if_neg (by simpa using h0)]
    obtain ⟨n, p, ha, hb, hab, _⟩ := chk_ok h0
    have hnext := lend 1 rfl rfl (next_k h a)
    have hna := nodel_s h ha
    have hw1 := l1_wf h a
    have hmv := mv_len h a
    have hk1 := kids_128 hw1 b
    have hti := to_in h h0
    have hal := at_le h h0
    have hnb := nodel_w hw1 b
    have hin := into_f hal (by omega) (ys := mvM l a) (by omega)
    have hput := put_f hw1.ups b ((nodeR (l1M l a) b).kids.take (atM l a b c) ++ mvM l a ++ (nodeR (l1M l a) b).kids.drop (atM l a b c)) (by have := hw1.len; omega) (by simp; omega) (kids_ok hw1 b)
    have hix := index_i (xs := (nodeR (l1M l a) b).kids) (toM l a c) (by omega)
    have hat : atM l a b c = if toM l a c ≠ 0 then (nodeR (l1M l a) b).kids.idxOf (toM l a c) else (nodeR (l1M l a) b).kids.length := rfl
    have hto : toM l a c = if c = a then nextM l a else c := rfl
    have hmvd : mvM l a = if n.kind = 4 then n.kids else [a] := by rw [mvM, nodeR_some ha]
    have hl1 : l1M l a = if n.kind = 4 then (putM l a []).1 else leaveM l a := by rw [l1M, nodeR_some ha]
    have hclr := put_nil h a
    have hlv := leave_f h a
    rw [h0] at hchk
    rw [e1]
    clear e1
    generalize (nodeR (l1M l a) b).kids.take (atM l a b c) ++ mvM l a ++ (nodeR (l1M l a) b).kids.drop (atM l a b c) = ks at *
    generalize (nodeAt (l1M l a) b).isSome = ok at *
    generalize nodeR (l1M l a) b = q at *
    generalize putM (l1M l a) b ks = T at *
    generalize (putM l a []).2 = e2 at *
    generalize (putM l a []).1 = lc at *
    generalize leaveM l a = ll at *
    generalize atM l a b c = at0 at *
    generalize l1M l a = l1 at *
    generalize mvM l a = mv at *
    generalize nextM l a = nx at *
    generalize toM l a c = c' at *
    refine fun_intro 72 Try.func115 rfl rfl rfl (fun ι F S w => ?_)
    (repeat (first | (apply v_cSx; exact rfl; exact cbA rfl; (first | exact hchk); (repeat (first | exact trivial | refine ⟨rfl, ?_⟩)); exact rfl; exact rfl; exact rfl; exact rfl; exact rfl) | (apply v_move; exact rfl; exact rfl) | (apply v_assign; exact rfl; exact rfl) | refine run_seq ?_ | refine run_region ?_ | refine runL_nil ?_ | refine run_skip ?_ | (apply run_cond; exact rfl; (focus (intro hb; cases hb; done)); intro hb; clear hb) | (apply v_eql; exact rfl; exact rfl; exact rfl) | (apply v_neq; exact rfl; exact rfl; exact rfl)))
    apply via3 (p := RunL _ _ _ ⟨[(0, .ptr 0 0), (1, .v (.int .i64 a)), (2, .v (.int .i64 b)), (3, .v (.int .i64 c')), (31, .ptr 0 0), (32, .v (.int .i64 a))], forR 1 l⟩ _)
    rotate_left
    · intro key
      by_cases hca : c = a
      · rw [if_pos hca] at hto
        refine run_condY rfl (by simpa using hca) ?_
        (repeat (first | (apply v_cSx; exact rfl; exact cbA rfl; (first | exact hnext); (repeat (first | exact trivial | refine ⟨rfl, ?_⟩)); exact rfl; exact rfl; exact rfl; exact rfl; exact rfl) | (apply v_move; exact rfl; exact rfl) | (apply v_assign; exact rfl; exact rfl) | refine run_seq ?_ | refine run_region ?_ | refine runL_nil ?_))
        refine runL_weak idN (σ2 := ⟨[(0, .ptr 0 0), (1, .v (.int .i64 a)), (2, .v (.int .i64 b)), (3, .v (.int .i64 c')), (31, .ptr 0 0), (32, .v (.int .i64 a))], forR 1 l⟩) ?_ ?_ ?_ ?_ key.out <;> first | exact trivial | exact ⟨rfl, rfl, trivial⟩ | (rw [hto]; exact ⟨rfl, rfl, rfl, rfl, rfl, rfl, trivial⟩) | rfl
      · rw [if_neg hca] at hto
        refine run_condN rfl (by simpa using hca) ?_
        (repeat (first | (apply v_move; exact rfl; exact rfl) | refine run_seq ?_ | refine run_region ?_ | refine run_skip ?_))
        refine runL_weak idN (σ2 := ⟨[(0, .ptr 0 0), (1, .v (.int .i64 a)), (2, .v (.int .i64 b)), (3, .v (.int .i64 c')), (31, .ptr 0 0), (32, .v (.int .i64 a))], forR 1 l⟩) ?_ ?_ ?_ ?_ key.out <;> first | exact trivial | exact ⟨rfl, rfl, trivial⟩ | (rw [hto]; exact ⟨rfl, rfl, rfl, rfl, rfl, rfl, trivial⟩) | rfl
    · clear hto
      (repeat (first | (apply v_cSx; exact rfl; exact cbA rfl; (first | exact hna); (repeat (first | exact trivial | refine ⟨rfl, ?_⟩)); exact rfl; exact rfl; exact rfl; exact rfl; exact rfl) | (apply v_move; exact rfl; exact rfl) | (apply v_assign; exact rfl; exact rfl) | refine run_seq ?_ | refine run_region ?_ | refine runL_nil ?_ | (apply v_extract; exact rfl; exact rfl; exact rfl) | (apply v_allocD; exact tyA rfl; exact rfl; exact rfl; exact rfl; exact rfl) | (apply v_storeW; exact tyA rfl; exact rfl; exact rfl; exact rfl; exact rfl; exact rfl; exact rfl; exact rfl)))
      refine v_l intE [a] (slA rfl) (tyA rfl) rfl rfl rfl rfl rfl rfl rfl rfl rfl rfl ?_
      (repeat (first | (apply v_assign; exact rfl; exact rfl) | refine run_seq ?_ | refine run_region ?_ | refine runL_nil ?_ | (apply v_fldP; exact flA rfl; exact rfl; exact rfl; exact rfl) | (apply v_loadB; exact tyA rfl; exact rfl; exact rfl; exact rfl; exact rfl; exact rfl; exact rfl) | (apply v_eql; exact rfl; exact rfl; exact rfl)))
      apply via3 (p := RunL _ _ _ ⟨[(0, .ptr 0 0), (1, .v (.int .i64 a)), (2, .v (.int .i64 b)), (3, .v (.int .i64 c')), (12, .sem (listS intE mv)), (50, .ptr 0 0), (51, .v (.int .i64 b))], forR 5 l1⟩ _)
      rotate_left
      · intro key
        by_cases hk : n.kind = 4
        · rw [if_pos hk] at hmvd hl1
          refine run_condY rfl (by simpa using hk) ?_
          (repeat (first | (apply v_move; exact rfl; exact rfl) | (apply v_assign; exact rfl; exact rfl) | refine run_seq ?_ | refine run_region ?_ | refine runL_nil ?_ | (apply v_fldP; exact flA rfl; exact rfl; exact rfl; exact rfl) | (apply v_loadB; exact tyA rfl; exact rfl; exact rfl; exact rfl; exact rfl; exact rfl; exact rfl)))
          refine v_cR (mp [(1, 1), (2, 45)]) hclr rfl (cbA rfl) ⟨rfl, rfl, trivial⟩ (by kernel_rfl) (by kernel_rfl) (by kernel_rfl) (by kernel_rfl) (by kernel_rfl) (by kernel_rfl) (by kernel_rfl) (by kernel_rfl) rfl ?_
          (repeat (first | (apply v_move; exact rfl; exact rfl) | refine run_seq ?_ | refine run_region ?_ | refine runL_nil ?_))
          refine runL_weak (mp [(5, 45)]) (σ2 := ⟨[(0, .ptr 0 0), (1, .v (.int .i64 a)), (2, .v (.int .i64 b)), (3, .v (.int .i64 c')), (12, .sem (listS intE mv)), (50, .ptr 0 0), (51, .v (.int .i64 b))], forR 5 l1⟩) ?_ ?_ ?_ ?_ key.out <;> first | exact trivial | exact ⟨rfl, rfl, trivial⟩ | (rw [hl1]; exact ⟨rfl, rfl, trivial⟩) | (rw [hmvd]; exact ⟨rfl, rfl, rfl, rfl, rfl, rfl, rfl, trivial⟩) | rfl
        · rw [if_neg hk] at hmvd hl1
          refine run_condN rfl (by simpa using hk) ?_
          (repeat (first | (apply v_move; exact rfl; exact rfl) | refine run_region ?_))
          refine v_cR (mp [(1, 1), (2, 48)]) hlv rfl (cbA rfl) ⟨rfl, rfl, trivial⟩ (by kernel_rfl) (by kernel_rfl) (by kernel_rfl) (by kernel_rfl) (by kernel_rfl) (by kernel_rfl) (by kernel_rfl) (by kernel_rfl) rfl ?_
          (repeat (first | (apply v_move; exact rfl; exact rfl) | refine run_seq ?_ | refine run_region ?_ | refine runL_nil ?_))
          refine runL_weak (mp [(5, 48)]) (σ2 := ⟨[(0, .ptr 0 0), (1, .v (.int .i64 a)), (2, .v (.int .i64 b)), (3, .v (.int .i64 c')), (12, .sem (listS intE mv)), (50, .ptr 0 0), (51, .v (.int .i64 b))], forR 5 l1⟩) ?_ ?_ ?_ ?_ key.out <;> first | exact trivial | exact ⟨rfl, rfl, trivial⟩ | (rw [hl1]; exact ⟨rfl, rfl, trivial⟩) | (rw [hmvd]; exact ⟨rfl, rfl, rfl, rfl, rfl, rfl, rfl, trivial⟩) | rfl
      · clear hmvd hl1
        skip
        refine v_cR (mp [(1, 5)]) hnb rfl (cbA rfl) ⟨rfl, rfl, trivial⟩ (by kernel_rfl) (by kernel_rfl) (by kernel_rfl) (by kernel_rfl) (by kernel_rfl) (by kernel_rfl) (by kernel_rfl) (by kernel_rfl) rfl ?_
        (repeat (first | (apply v_move; exact rfl; exact rfl) | (apply v_assign; exact rfl; exact rfl) | refine run_seq ?_ | refine run_region ?_ | refine runL_nil ?_ | (apply v_extract; exact rfl; exact rfl; exact rfl) | (apply v_fldP; exact flA rfl; exact rfl; exact rfl; exact rfl) | (apply v_loadB; exact tyA rfl; exact rfl; exact rfl; exact rfl; exact rfl; exact rfl; exact rfl) | (apply v_neq; exact rfl; exact rfl; exact rfl) | (apply v_lenL; exact slA rfl; exact rfl; exact rfl) | (apply v_allocD; exact tyA rfl; exact rfl; exact rfl; exact rfl; exact rfl) | (apply v_storeW; exact tyA rfl; exact rfl; exact rfl; exact rfl; exact rfl; exact rfl; exact rfl; exact rfl)))
        apply via3 (p := RunL _ _ _ ⟨[(64, .ptr 0 0), (65, .v (.int .i64 b)), (67, .sem (listS intE q.kids)), (68, .v (.int .i64 at0)), (69, .sem (listS intE mv))], forR 5 l1⟩ _)
        rotate_left
        · intro key
          by_cases hc0 : c' = 0
          · rw [if_neg (by simpa using hc0)] at hat
            refine run_condN rfl (by simpa using hc0) ?_
            (repeat (first | (apply v_move; exact rfl; exact rfl) | refine run_seq ?_ | refine run_region ?_ | refine run_skip ?_ | (apply v_fldP; exact flA rfl; exact rfl; exact rfl; exact rfl) | (apply v_loadB; exact tyA rfl; exact rfl; exact rfl; exact rfl; exact rfl; exact rfl; exact rfl)))
            refine runL_weak idN (σ2 := ⟨[(64, .ptr 0 0), (65, .v (.int .i64 b)), (67, .sem (listS intE q.kids)), (68, .v (.int .i64 at0)), (69, .sem (listS intE mv))], forR 5 l1⟩) ?_ ?_ ?_ ?_ key.out <;> first | exact trivial | exact ⟨rfl, rfl, trivial⟩ | exact ⟨rfl, rfl, rfl, rfl, rfl, trivial⟩ | (rw [hat]; exact ⟨rfl, rfl, rfl, rfl, rfl, trivial⟩) | rfl
          · rw [if_pos hc0] at hat
            rw [idxI, if_pos (hti.resolve_left hc0), ← hat] at hix
            refine run_condY rfl (by simpa using hc0) ?_
            (repeat (first | (apply v_cx; exact rfl; exact cbA rfl; (first | exact hix); exact rfl; exact rfl) | (apply v_move; exact rfl; exact rfl) | (apply v_assign; exact rfl; exact rfl) | refine run_seq ?_ | refine run_region ?_ | refine runL_nil ?_ | (apply v_fldP; exact flA rfl; exact rfl; exact rfl; exact rfl) | (apply v_loadB; exact tyA rfl; exact rfl; exact rfl; exact rfl; exact rfl; exact rfl; exact rfl)))
            refine runL_weak idN (σ2 := ⟨[(64, .ptr 0 0), (65, .v (.int .i64 b)), (67, .sem (listS intE q.kids)), (68, .v (.int .i64 at0)), (69, .sem (listS intE mv))], forR 5 l1⟩) ?_ ?_ ?_ ?_ key.out <;> first | exact trivial | exact ⟨rfl, rfl, trivial⟩ | exact ⟨rfl, rfl, rfl, rfl, rfl, trivial⟩ | (rw [hat]; exact ⟨rfl, rfl, rfl, rfl, rfl, trivial⟩) | rfl
        · (repeat (first | (apply v_cx; exact rfl; exact cbA rfl; (first | exact hin); exact rfl; exact rfl)))
          refine v_cR (mp [(1, 5), (2, 71)]) hput rfl (cbA rfl) ⟨rfl, rfl, trivial⟩ (by kernel_rfl) (by kernel_rfl) (by kernel_rfl) (by kernel_rfl) (by kernel_rfl) (by kernel_rfl) (by kernel_rfl) (by kernel_rfl) rfl ?_
          (repeat (first | (apply v_assign; exact rfl; exact rfl) | refine runL_nil ?_))
          exact run_ret (mp [(2, 71)]) _ Try.func115 ⟨_, _, rfl, rfl, rfl⟩ rfl ⟨rfl, rfl, trivial⟩ ⟨rfl, rfl, trivial⟩ rfl
  · have e1 : beforeM l a b c = (l, checkM l a b c) := by rw [beforeM, if_pos h0]
    rw [e1]
    generalize checkM l a b c = e at *
    refine fun_intro 72 Try.func115 rfl rfl rfl (fun ι F S w => ?_)
    (repeat (first | (apply v_cSx; exact rfl; exact cbA rfl; (first | exact hchk); (repeat (first | exact trivial | refine ⟨rfl, ?_⟩)); exact rfl; exact rfl; exact rfl; exact rfl; exact rfl) | (apply v_move; exact rfl; exact rfl) | (apply v_assign; exact rfl; exact rfl) | refine run_seq ?_ | refine run_region ?_ | refine runL_nil ?_ | (apply v_neq; exact rfl; exact rfl; exact rfl)))
    refine run_condY rfl (by simpa using h0) ?_
    (repeat (first | (apply v_move; exact rfl; exact rfl) | (apply v_assign; exact rfl; exact rfl) | refine run_seq ?_ | refine run_region ?_ | refine runL_nil ?_))
    exact run_ret (mp [(2, 1)]) _ Try.func115 ⟨_, _, rfl, rfl, rfl⟩ rfl ⟨rfl, rfl, trivial⟩ ⟨rfl, rfl, trivial⟩ rfl
end Go.Proofs.Ytjkidecaciomgaa
/- What Before has done, plain; edit: Remove, Append, Clear. -/
namespace Go.Proofs.Ytjkidecaciomgaa
set_option linter.unusedVariables false
set_option linter.unusedSimpArgs false
set_option maxRecDepth 100000
open Go.RowKit

/-! ### As it is computed -/
def leaveC (l : List Nd) (a : Int) : List Nd :=
  match nodeAt l (nodeR l a).parent with
  | none => l
  | some p => (putC l (nodeR l a).parent (p.kids.erase a)).1
def l1C (l : List Nd) (a : Int) : List Nd := if (nodeR l a).kind = 4 then (putC l a []).1 else leaveC l a
def atC (l : List Nd) (a b c : Int) : Nat := if toM l a c ≠ 0 then (nodeR (l1C l a) b).kids.idxOf (toM l a c) else (nodeR (l1C l a) b).kids.length
def beforeC (l : List Nd) (a b c : Int) : List Nd × Int :=
  if checkM l a b c ≠ 0 then (l, checkM l a b c)
  else putC (l1C l a) b ((nodeR (l1C l a) b).kids.take (atC l a b c) ++ mvM l a ++ (nodeR (l1C l a) b).kids.drop (atC l a b c))
theorem leave_C {l : List Nd} (h : WF l) (a : Int) : leaveM l a = leaveC l a := by
  unfold leaveM leaveC
  cases nodeAt l (nodeR l a).parent with
  | none => rfl
  | some p => simp only [put_C h]
theorem l1_C {l : List Nd} (h : WF l) (a : Int) : l1M l a = l1C l a := by rw [l1M, l1C, put_C h, leave_C h]
theorem before_C {l : List Nd} (h : WF l) (a b c : Int) : beforeM l a b c = beforeC l a b c := by rw [beforeM, beforeC, put_C (l1_wf h a), atM, atC, l1_C h]
theorem before_wf {l : List Nd} (h : WF l) (a b c : Int) : WF (beforeM l a b c).1 := by
  unfold beforeM
  split
  · exact h
  · exact wf_put (l1_wf h a) _ _
/-! ### What has been done -/
structure Done (l : List Nd) (a b c : Int) (n p : Nd) (ks ks' : List Int) : Prop where
  ha : nodeAt l a = some n
  hb : nodeAt l b = some p
  ck : checkM l a b c = 0
  up : a ∉ ch l upX b
  ek : ks = if n.kind = 4 then p.kids else p.kids.erase a
  ek' : ks' = ks.take (atM l a b c) ++ mvM l a ++ ks.drop (atM l a b c)
  nd : ks'.Nodup
  pk : ∀ k ∈ ks', PutK (l1M l a) b k
  nx : ∀ x, nodeAt (beforeM l a b c).1 x = (nodeAt (l1M l a) x).map (putN b ks' x)
  at' : atM l a b c = if toM l a c ≠ 0 then ks.idxOf (toM l a c) else ks.length
section
variable {l : List Nd} (h : WF l) {a b c : Int}
include h
theorem before_get (h0 : (beforeM l a b c).2 = 0) : ∃ n p ks ks', Done l a b c n p ks ks' := by
  by_cases hc : checkM l a b c = 0
  · obtain ⟨n, p, ha, hb, hab, _⟩ := chk_ok hc
    have e1 : beforeM l a b c = putM (l1M l a) b ((nodeR (l1M l a) b).kids.take (atM l a b c) ++ mvM l a ++ (nodeR (l1M l a) b).kids.drop (atM l a b c)) := by rw [beforeM, if_neg (by simpa using hc)]
    have hk := l1_kids h ha hb (self_in h ha hab)
    rw [e1] at h0
    obtain ⟨_, h2, h3, h4⟩ := put_get (l1_wf h a) h0
    have hat : atM l a b c = if toM l a c ≠ 0 then (nodeR (l1M l a) b).kids.idxOf (toM l a c) else (nodeR (l1M l a) b).kids.length := rfl
    rw [hk] at hat h2 h3
    refine ⟨n, p, _, _, ha, hb, hc, hab, rfl, rfl, h2, h3, fun x => ?_, hat⟩
    rw [e1, h4, hk]
  · rw [beforeM, if_pos hc] at h0
    exact absurd h0 hc
variable {n p : Nd} {ks ks' : List Int} (d : Done l a b c n p ks ks')
include d
theorem Done.ne : a ≠ b := self_in h d.ha d.up
theorem Done.mv : mvM l a = if n.kind = 4 then n.kids else [a] := by
  have _ := h.len
  rw [mvM, nodeR_some d.ha]
/-- A node then. -/
theorem Done.node (x : Int) : nodeAt (beforeM l a b c).1 x = (nodeAt l x).map fun y => putN b ks' x (if n.kind = 4 then clearN a x y else leaveN a x y) := by
  rw [d.nx, l1M, nodeR_some d.ha]
  by_cases hk : n.kind = 4
  · rw [if_pos hk, (clear_ok h d.ha).2 x, Option.map_map]
    simp only [if_pos hk]
    rfl
  · rw [if_neg hk, leave_ok h a x, Option.map_map]
    simp only [if_neg hk]
    rfl
theorem Done.kids : ∃ q, nodeAt (beforeM l a b c).1 b = some q ∧ q.kids = ks' := by
  refine ⟨_, (by rw [d.node h b, d.hb]; rfl), ?_⟩
  exact if_pos rfl
theorem Done.sub : ∀ x ∈ ks, x ∈ p.kids := fun x hx => by
  have _ := h.len
  rw [d.ek] at hx
  split at hx
  · exact hx
  · exact List.mem_of_mem_erase hx
theorem Done.out : ∀ x ∈ ks, x ∉ mvM l a := fun x hx hm => by
  have _ := h.len
  have hnd := d.nd
  rw [d.ek'] at hnd
  have hx2 : x ∈ ks.take (atM l a b c) ∨ x ∈ ks.drop (atM l a b c) := by
    rw [← List.mem_append, List.take_append_drop]
    exact hx
  rw [List.append_assoc, List.nodup_append] at hnd
  rcases hx2 with e | e
  · exact hnd.2.2 x e x (List.mem_append_left _ hm) rfl
  · exact (List.nodup_append.1 hnd.2.1).2.2 x hm x e rfl
theorem Done.mine : (ks'.filter fun x => decide (x ∈ mvM l a)) = mvM l a := by
  rw [d.ek', List.filter_append, List.filter_append]
  have h1 : ∀ zs : List Int, (∀ x ∈ zs, x ∈ ks) → (zs.filter fun x => decide (x ∈ mvM l a)) = [] := fun zs hz => List.filter_eq_nil_iff.2 fun x hx => by simpa using d.out h x (hz x hx)
  rw [h1 _ fun x hx => List.mem_of_mem_take hx, h1 _ fun x hx => List.mem_of_mem_drop hx, List.filter_eq_self.2 fun x hx => by simpa using hx]
  simp
theorem Done.left : (ks'.filter fun x => !decide (x ∈ mvM l a)) = p.kids.filter fun x => !decide (x ∈ mvM l a) := by
  rw [d.ek', List.filter_append, List.filter_append]
  have h1 : ((mvM l a).filter fun x => !decide (x ∈ mvM l a)) = [] := List.filter_eq_nil_iff.2 fun x hx => by simpa using hx
  rw [h1, List.append_nil, ← List.filter_append, List.take_append_drop, d.ek]
  by_cases hk : n.kind = 4
  · rw [if_pos hk]
  · rw [if_neg hk, (h.nod d.hb).erase_eq_filter, List.filter_filter]
    refine List.filter_congr fun x hx => ?_
    rw [d.mv h, if_neg hk]
    simp
/-- What is just behind it. -/
theorem Done.next (hk : n.kind ≠ 4) (hc : c ≠ a) : nextM (beforeM l a b c).1 a = c := by
  obtain ⟨q, hq, hqk⟩ := d.kids h
  have hb0 := nodeAt_some d.hb
  have hmv : mvM l a = [a] := by rw [d.mv h, if_neg hk]
  have hto : toM l a c = c := by rw [toM, if_neg hc]
  have hal : atM l a b c ≤ ks.length := by
    rw [d.at']
    split
    · exact List.idxOf_le_length
    · exact Nat.le_refl _
  have hpos : ks'[atM l a b c]? = some a := by
    rw [d.ek', hmv, List.append_assoc, List.getElem?_append_right (by rw [List.length_take]; omega), List.length_take, Nat.min_eq_left hal, Nat.sub_self]
    rfl
  have hin : a ∈ ks' := List.mem_of_getElem? hpos
  have hidx : idxI ks' a = (atM l a b c : Nat) := idxI_at hpos fun j hj e => by
    have := (List.getElem?_inj (List.getElem?_eq_some_iff.1 e).1 d.nd).1 (e.trans hpos.symm)
    omega
  have hpar : (nodeR (beforeM l a b c).1 a).parent = b := by
    rw [nodeR, d.node h a, d.ha, Option.map_some, Option.getD_some, putN, if_pos hin]
  have hsib : sibs (beforeM l a b c).1 a = ks' := by rw [sibs, hpar, if_neg (by omega), nodeR_some hq, hqk]
  have hindex : indexM (beforeM l a b c).1 a = (atM l a b c : Nat) := by rw [indexM, hpar, if_neg (by omega), hsib, hidx]
  rw [nextM, hindex, if_pos (by omega), hsib, show ((atM l a b c : Nat) : Int).toNat = atM l a b c by omega, List.getD_eq_getElem?_getD, d.ek', hmv, List.append_assoc, List.getElem?_append_right (by rw [List.length_take]; omega), List.length_take, Nat.min_eq_left hal, show atM l a b c + 1 - atM l a b c = 1 by omega]
  show (([a] ++ ks.drop (atM l a b c))[1]?).getD 0 = c
  rw [List.getElem?_append_right (by simp)]
  show ((ks.drop (atM l a b c))[0]?).getD 0 = c
  rw [List.getElem?_drop, Nat.add_zero, d.at', hto]
  have hti := to_in h d.ck
  rw [hto, l1_kids h d.ha d.hb (d.ne h), ← d.ek] at hti
  by_cases h0 : c = 0
  · rw [if_neg (by simpa using h0), List.getElem?_eq_none (Nat.le_refl _), h0]
    rfl
  · rw [if_pos h0]
    have := hti.resolve_left h0
    rw [List.getElem?_eq_getElem (List.idxOf_lt_length_iff.2 this), List.getElem_idxOf]
    rfl
end
noncomputable def removeM (l : List Nd) (a b : Int) : List Nd × Int :=
  match nodeAt l a, nodeAt l b with
  | some n, some _ => if n.parent ≠ b then (l, 4) else (leaveM l a, 0)
  | _, _ => (l, 1)
theorem remove_f {l : List Nd} (h : WF l) (a b : Int) : Fun Try.prog 116 [.ptr 0 0, .v (.int .i64 a), .v (.int .i64 b)] (forR 1 l) (.v (.int .i64 (removeM l a b).2)) (forR 2 (removeM l a b).1) := by
  cases ha : nodeAt l a with
  | none =>
    have e1 : removeM l a b = (l, 1) := by rw [removeM, ha]
    have hnb := nodel_w h b
    rw [e1]
    generalize nodeR l b = q at *
    generalize (nodeAt l b).isSome = ok at *
    refine fun_intro 38 Try.func116 rfl rfl rfl (fun ι F S w => ?_)
    (repeat (first | (apply v_cSx; exact rfl; exact cbA rfl; (first | exact nodel_n h ha | exact hnb); (repeat (first | exact trivial | refine ⟨rfl, ?_⟩)); exact rfl; exact rfl; exact rfl; exact rfl; exact rfl) | (apply v_move; exact rfl; exact rfl) | (apply v_assign; exact rfl; exact rfl) | refine run_seq ?_ | refine run_region ?_ | refine runL_nil ?_ | refine run_block ?_ | (apply v_extract; exact rfl; exact rfl; exact rfl) | (apply v_off; exact rfl; exact rfl) | (apply v_pick_t; exact rfl; exact rfl; exact rfl) | (apply run_cond; exact rfl; rotate_left; (focus (intro hb; cases hb; done)); intro hb; clear hb) | (apply v_not; exact rfl; exact rfl) | (apply v_allocD; exact tyA rfl; exact rfl; exact rfl; exact rfl; exact rfl) | (apply v_storeW; exact tyA rfl; exact rfl; exact rfl; exact rfl; exact rfl; exact rfl; exact rfl; exact rfl)))
    exact run_ret (mp [(2, 1)]) _ Try.func116 ⟨_, _, rfl, rfl, rfl⟩ rfl ⟨rfl, rfl, trivial⟩ ⟨rfl, rfl, trivial⟩ rfl
  | some n =>
    cases hb : nodeAt l b with
    | none =>
      have e1 : removeM l a b = (l, 1) := by rw [removeM, ha, hb]
      rw [e1]
      refine fun_intro 38 Try.func116 rfl rfl rfl (fun ι F S w => ?_)
      (repeat (first | (apply v_cSx; exact rfl; exact cbA rfl; (first | exact nodel_s h ha | exact nodel_n h hb); (repeat (first | exact trivial | refine ⟨rfl, ?_⟩)); exact rfl; exact rfl; exact rfl; exact rfl; exact rfl) | (apply v_move; exact rfl; exact rfl) | (apply v_assign; exact rfl; exact rfl) | refine run_seq ?_ | refine run_region ?_ | refine runL_nil ?_ | refine run_block ?_ | (apply v_extract; exact rfl; exact rfl; exact rfl) | (apply v_on; exact rfl) | (apply v_pick_f; exact rfl; exact rfl; exact rfl) | (apply run_cond; exact rfl; rotate_left; (focus (intro hb; cases hb; done)); intro hb; clear hb) | (apply v_not; exact rfl; exact rfl) | (apply v_allocD; exact tyA rfl; exact rfl; exact rfl; exact rfl; exact rfl) | (apply v_storeW; exact tyA rfl; exact rfl; exact rfl; exact rfl; exact rfl; exact rfl; exact rfl; exact rfl)))
      exact run_ret (mp [(2, 1)]) _ Try.func116 ⟨_, _, rfl, rfl, rfl⟩ rfl ⟨rfl, rfl, trivial⟩ ⟨rfl, rfl, trivial⟩ rfl
    | some q =>
      have e1 : removeM l a b = if n.parent ≠ b then (l, 4) else (leaveM l a, 0) := by rw [removeM, ha, hb]
      have hlv := leave_f h a
      rw [e1]
      generalize leaveM l a = ll at *
      by_cases hp : n.parent ≠ b
      · rw [if_pos hp]
        refine fun_intro 38 Try.func116 rfl rfl rfl (fun ι F S w => ?_)
        (repeat (first | (apply v_cSx; exact rfl; exact cbA rfl; (first | exact nodel_s h ha | exact nodel_s h hb); (repeat (first | exact trivial | refine ⟨rfl, ?_⟩)); exact rfl; exact rfl; exact rfl; exact rfl; exact rfl) | (apply v_move; exact rfl; exact rfl) | (apply v_assign; exact rfl; exact rfl) | refine run_seq ?_ | refine run_region ?_ | refine runL_nil ?_ | refine run_block ?_ | (apply v_extract; exact rfl; exact rfl; exact rfl) | (apply v_fldP; exact flA rfl; exact rfl; exact rfl; exact rfl) | (apply v_loadB; exact tyA rfl; exact rfl; exact rfl; exact rfl; exact rfl; exact rfl; exact rfl) | (apply v_on; exact rfl) | (apply v_pick_f; exact rfl; exact rfl; exact rfl) | (apply run_cond; exact rfl; (focus (intro hb; cases hb; done)); intro hb; clear hb) | (apply v_not; exact rfl; exact rfl) | (apply v_neq; exact rfl; exact rfl; exact rfl) | (apply v_allocD; exact tyA rfl; exact rfl; exact rfl; exact rfl; exact rfl) | (apply v_storeW; exact tyA rfl; exact rfl; exact rfl; exact rfl; exact rfl; exact rfl; exact rfl; exact rfl)))
        refine run_condY rfl (by simpa using hp) ?_
        (repeat (first | (apply v_assign; exact rfl; exact rfl) | refine run_seq ?_ | refine run_region ?_ | refine runL_nil ?_))
        exact run_ret (mp [(2, 1)]) _ Try.func116 ⟨_, _, rfl, rfl, rfl⟩ rfl ⟨rfl, rfl, trivial⟩ ⟨rfl, rfl, trivial⟩ rfl
      · rw [if_neg hp]
        refine fun_intro 38 Try.func116 rfl rfl rfl (fun ι F S w => ?_)
        (repeat (first | (apply v_cSx; exact rfl; exact cbA rfl; (first | exact nodel_s h ha | exact nodel_s h hb); (repeat (first | exact trivial | refine ⟨rfl, ?_⟩)); exact rfl; exact rfl; exact rfl; exact rfl; exact rfl) | (apply v_move; exact rfl; exact rfl) | (apply v_assign; exact rfl; exact rfl) | refine run_seq ?_ | refine run_region ?_ | refine runL_nil ?_ | refine run_block ?_ | (apply v_extract; exact rfl; exact rfl; exact rfl) | (apply v_fldP; exact flA rfl; exact rfl; exact rfl; exact rfl) | (apply v_loadB; exact tyA rfl; exact rfl; exact rfl; exact rfl; exact rfl; exact rfl; exact rfl) | (apply v_on; exact rfl) | (apply v_pick_f; exact rfl; exact rfl; exact rfl) | (apply run_cond; exact rfl; (focus (intro hb; cases hb; done)); intro hb; clear hb) | (apply v_not; exact rfl; exact rfl) | (apply v_neq; exact rfl; exact rfl; exact rfl) | (apply v_allocD; exact tyA rfl; exact rfl; exact rfl; exact rfl; exact rfl) | (apply v_storeW; exact tyA rfl; exact rfl; exact rfl; exact rfl; exact rfl; exact rfl; exact rfl; exact rfl)))
        refine run_condN rfl (by simpa using hp) ?_
        (repeat (first | (apply v_move; exact rfl; exact rfl) | refine run_seq ?_ | refine run_region ?_ | refine run_skip ?_ | refine run_inBlock ?_))
        refine v_cR (mp [(1, 1), (2, 37)]) hlv rfl (cbA rfl) ⟨rfl, rfl, trivial⟩ (by kernel_rfl) (by kernel_rfl) (by kernel_rfl) (by kernel_rfl) (by kernel_rfl) (by kernel_rfl) (by kernel_rfl) (by kernel_rfl) rfl ?_
        (repeat (first | (apply v_assign; exact rfl; exact rfl) | refine run_seq ?_ | refine run_region ?_ | refine runL_nil ?_))
        exact run_ret (mp [(2, 37)]) _ Try.func116 ⟨_, _, rfl, rfl, rfl⟩ rfl ⟨rfl, rfl, trivial⟩ ⟨rfl, rfl, trivial⟩ rfl
theorem append_e {l : List Nd} (h : WF l) (a b : Int) : Fun Try.prog 118 [.ptr 0 0, .v (.int .i64 a), .v (.int .i64 b)] (forR 1 l) (.v (.int .i64 (beforeM l a b 0).2)) (forR 2 (beforeM l a b 0).1) := by
  have hbf := before_f h a b 0
  generalize beforeM l a b 0 = T at *
  refine fun_intro 11 Try.func118 rfl rfl rfl (fun ι F S w => ?_)
  (repeat (first | (apply v_move; exact rfl; exact rfl) | (apply v_assign; exact rfl; exact rfl) | refine run_seq ?_ | refine run_region ?_ | refine runL_nil ?_))
  refine v_cR (mp [(1, 1), (2, 10)]) hbf rfl (cbA rfl) ⟨rfl, rfl, trivial⟩ (by kernel_rfl) (by kernel_rfl) (by kernel_rfl) (by kernel_rfl) (by kernel_rfl) (by kernel_rfl) (by kernel_rfl) (by kernel_rfl) rfl ?_
  (repeat (first | (apply v_assign; exact rfl; exact rfl) | refine runL_nil ?_))
  exact run_ret (mp [(2, 10)]) _ Try.func118 ⟨_, _, rfl, rfl, rfl⟩ rfl ⟨rfl, rfl, trivial⟩ ⟨rfl, rfl, trivial⟩ rfl
theorem clear_f {l : List Nd} (h : WF l) (a : Int) : Fun Try.prog 120 [.ptr 0 0, .v (.int .i64 a)] (forR 1 l) (.v (.int .i64 (putM l a []).2)) (forR 2 (putM l a []).1) := by
  have hput := put_nil h a
  generalize putM l a [] = T at *
  refine fun_intro 8 Try.func120 rfl rfl rfl (fun ι F S w => ?_)
  (repeat (first | (apply v_move; exact rfl; exact rfl) | (apply v_assign; exact rfl; exact rfl) | refine run_seq ?_ | refine run_region ?_ | refine runL_nil ?_))
  refine v_cR (mp [(1, 1), (2, 7)]) hput rfl (cbA rfl) ⟨rfl, rfl, trivial⟩ (by kernel_rfl) (by kernel_rfl) (by kernel_rfl) (by kernel_rfl) (by kernel_rfl) (by kernel_rfl) (by kernel_rfl) (by kernel_rfl) rfl ?_
  (repeat (first | (apply v_assign; exact rfl; exact rfl) | refine runL_nil ?_))
  exact run_ret (mp [(2, 7)]) _ Try.func120 ⟨_, _, rfl, rfl, rfl⟩ rfl ⟨rfl, rfl, trivial⟩ ⟨rfl, rfl, trivial⟩ rfl
end Go.Proofs.Ytjkidecaciomgaa
/- What may be put is put; All of a forest that is being made. -/
namespace Go.Proofs.Ytjkidecaciomgaa
set_option linter.unusedVariables false
set_option linter.unusedSimpArgs false
set_option maxRecDepth 100000
open Go.RowKit

/-- Where nodes only lose what they are below of, less is above. -/
theorem ch_less {l l1 : List Nd} (h : WF l) (h1 : WF l1) (hg : ∀ x y, nodeAt l1 x = some y → ∃ z, nodeAt l x = some z ∧ (upX y = upX z ∨ upX y = 0)) (b : Int) : ∀ k ∈ ch l1 upX b, k ∈ ch l upX b := by
  refine desc_induct (desc_up h1) (p := fun b => ∀ k ∈ ch l1 upX b, k ∈ ch l upX b) (fun b hb k hk => ?_) (fun b y hb ih k hk => ?_) b
  · rw [ch_none hb] at hk; cases hk
  · obtain ⟨z, hz, e⟩ := hg b y hb
    rw [up_step h1 hb] at hk
    rw [up_step h hz]
    rcases List.mem_cons.1 hk with e1 | hk
    · rw [e1]; exact List.mem_cons_self
    · refine List.mem_cons_of_mem _ ?_
      rcases e with e | e
      · rw [← e]; exact ih k hk
      · rw [e, ch_none nodeAt_zero] at hk; cases hk
section
variable {l : List Nd} (h : WF l)
include h
theorem host_no {x : Int} {y : Nd} (hx : nodeAt l x = some y) (hk : y.kind ≠ 3) : y.host = 0 := (h.host hx).resolve_right fun e => hk e.1
theorem par_host {x : Int} {y : Nd} (hx : nodeAt l x = some y) (hp : y.parent ≠ 0) : y.host = 0 := host_no h hx fun e => hp (h.root hx (by simp [rootedB, e]))
theorem l1_less (a b : Int) : ∀ k ∈ ch (l1M l a) upX b, k ∈ ch l upX b := by
  refine ch_less h (l1_wf h a) (fun x y hy => ?_) b
  unfold l1M at hy
  cases ha : nodeAt l a with
  | none =>
    rw [nodeR_none ha] at hy
    rw [if_neg (by decide), leave_ok h] at hy
    cases hz : nodeAt l x with
    | none => rw [hz] at hy; cases hy
    | some z =>
      rw [hz] at hy
      cases hy
      refine ⟨z, rfl, .inl ?_⟩
      have e : x ≠ a := fun e => by rw [e, ha] at hz; cases hz
      simp [upX, leaveN, e]
  | some n =>
    rw [nodeR_some ha] at hy
    by_cases hk : n.kind = 4
    · rw [if_pos hk, (clear_ok h ha).2] at hy
      cases hz : nodeAt l x with
      | none => rw [hz] at hy; cases hy
      | some z =>
        rw [hz] at hy
        cases hy
        refine ⟨z, rfl, ?_⟩
        by_cases e : z.parent = a
        · right
          have ha0 := nodeAt_some ha
          have := par_host h hz (by omega)
          simp [upX, clearN, e, this]
        · left
          simp [upX, clearN, e]
    · rw [if_neg hk, leave_ok h] at hy
      cases hz : nodeAt l x with
      | none => rw [hz] at hy; cases hy
      | some z =>
        rw [hz] at hy
        cases hy
        refine ⟨z, rfl, ?_⟩
        by_cases e : x = a
        · by_cases e2 : z.parent = 0
          · left
            simp [upX, leaveN, e, e2]
          · right
            have := par_host h hz e2
            simp [upX, leaveN, e, this]
        · left
          simp [upX, leaveN, e]
/-- What a check lets pass is put. -/
theorem before_ok {a b c : Int} (hc : checkM l a b c = 0) : (beforeM l a b c).2 = 0 := by
  obtain ⟨n, p, ha, hb, hab, hk1, hk3, _⟩ := chk_ok hc
  have hne := self_in h ha hab
  have hks := l1_kids h ha hb hne
  have hw1 := l1_wf h a
  have hmv : mvM l a = if n.kind = 4 then n.kids else [a] := by rw [mvM, nodeR_some ha]
  have hbx : ∃ q, nodeAt (l1M l a) b = some q := by
    unfold l1M
    rw [nodeR_some ha]
    split
    · rw [(clear_ok h ha).2, hb]; exact ⟨_, rfl⟩
    · rw [leave_ok h, hb]; exact ⟨_, rfl⟩
  obtain ⟨q, hq⟩ := hbx
  rw [beforeM, if_neg (by simpa using hc)]
  refine (put_done hw1 hq ?_ ?_).1
  · have hperm : ((nodeR (l1M l a) b).kids.take (atM l a b c) ++ mvM l a ++ (nodeR (l1M l a) b).kids.drop (atM l a b c)).Perm ((nodeR (l1M l a) b).kids ++ mvM l a) := by
      rw [List.append_assoc]
      refine (List.Perm.append_left _ List.perm_append_comm).trans ?_
      rw [← List.append_assoc, List.take_append_drop]
    rw [hperm.nodup_iff, List.nodup_append, hks, hmv]
    by_cases hk : n.kind = 4
    · rw [if_pos hk, if_pos hk]
      refine ⟨h.nod hb, h.nod ha, fun x hx y hy e => ?_⟩
      subst e
      obtain ⟨z, hz, e1⟩ := h.kid hb hx
      exact hne (((kid_of h ha hz).1 hy).symm.trans e1)
    · rw [if_neg hk, if_neg hk]
      refine ⟨(h.nod hb).erase a, by simp, fun x hx y hy e => ?_⟩
      rw [e, List.mem_singleton.1 hy] at hx
      exact ((h.nod hb).mem_erase_iff.1 hx).1 rfl
  · have hold : ∀ k ∈ (nodeR (l1M l a) b).kids, PutK (l1M l a) b k := fun k hk => by
      rw [nodeR_some hq] at hk
      exact kid_putK hw1 hq hk
    intro k hk
    rw [List.mem_append, List.mem_append] at hk
    rcases hk with (hk | hk) | hk
    · exact hold k (List.mem_of_mem_take hk)
    · have hless := l1_less h a b
      rw [hmv] at hk
      by_cases hk4 : n.kind = 4
      · rw [if_pos hk4] at hk
        obtain ⟨y, hy, hyp⟩ := h.kid ha hk
        have ha0 := nodeAt_some ha
        have hl1 : nodeAt (l1M l a) k = some (clearN a k y) := by rw [l1M, nodeR_some ha, if_pos hk4, (clear_ok h ha).2, hy]; rfl
        refine ⟨_, hl1, ?_, fun e => ?_, .inl (if_pos hyp)⟩
        · rw [← Bool.not_eq_true]
          intro hr
          have := h.root hy hr
          omega
        · refine hab (up_trans h ?_ (hless k e))
          rw [up_step h hy, show upX y = a by rw [upX, if_neg (by omega), hyp]]
          exact List.mem_cons_of_mem _ (up_self h ha)
      · rw [if_neg hk4, List.mem_singleton] at hk
        subst hk
        have hl1 : nodeAt (l1M l k) k = some (leaveN k k n) := by rw [l1M, nodeR_some ha, if_neg hk4, leave_ok h, ha]; rfl
        refine ⟨_, hl1, ?_, fun e => hab (hless k e), .inl (if_pos rfl)⟩
        show (n.kind == 1 || n.kind == 3) = false
        simp [hk1, hk3]
    · exact hold k (List.mem_of_mem_drop hk)
theorem before_len (a b c : Int) : (beforeM l a b c).1.length = l.length := by
  have key : ∀ l2 : List Nd, (∀ x, (nodeAt l2 x).isSome = (nodeAt l x).isSome) → l2.length = l.length := fun l2 hl => by
    have h1 : ∀ (l l2 : List Nd), (∀ x, (nodeAt l2 x).isSome = (nodeAt l x).isSome) → l2.length ≤ l.length := fun l l2 hl => by
      by_cases e : l2.length = 0
      · omega
      · have := hl l2.length
        rw [nodeAt, if_pos (by omega), List.getElem?_eq_getElem (by omega), Option.isSome_some] at this
        cases hx : nodeAt l l2.length with
        | none => rw [hx] at this; cases this
        | some y => have := nodeAt_some hx; omega
    exact Nat.le_antisymm (h1 l l2 hl) (h1 l2 l fun x => (hl x).symm)
  by_cases hc : checkM l a b c = 0
  · obtain ⟨n, p, ks, ks', d⟩ := before_get h (before_ok h hc)
    refine key _ fun x => ?_
    rw [d.node h x]
    cases nodeAt l x <;> rfl
  · rw [beforeM, if_pos hc]
end
theorem all_m {l : List Nd} (h : WF l) : Fun Try.prog 41 [.ptr 0 0] (forR 1 l) (.sem (listS nodeE l)) (forR 1 l) := by
  have hlen := h.len
  have hln := lend 1 rfl rfl (len_f (l := l))
  refine fun_intro 25 Try.func41 rfl rfl rfl (fun ι F S w => ?_)
  (repeat (first | (apply v_cSx; exact rfl; exact cbA rfl; (first | exact hln); (repeat (first | exact trivial | refine ⟨rfl, ?_⟩)); exact rfl; exact rfl; exact rfl; exact rfl; exact rfl) | (apply v_move; exact rfl; exact rfl) | (apply v_assign; exact rfl; exact rfl) | refine run_seq ?_ | refine run_region ?_ | refine runL_nil ?_ | refine run_block ?_))
  refine run_own 3 3 33 nodeE rfl rfl rfl rfl ?_
  refine v_loop (fun i : Nat => ⟨[(0, .ptr 0 0), (8, .v (.int .i64 l.length)), (9, .v (.int .i64 i)), (3, .res 3)], (3, .obj (ownS 33 nodeE (l.take i))) :: forR 1 l⟩) (fun i => i ≤ l.length) (fun i => l.length - i) 0 idN ⟨rfl, rfl, trivial⟩ (by repeat (first | exact trivial | refine ⟨rfl, ?_⟩)) (by repeat (first | exact trivial | refine ⟨rfl, ?_⟩)) rfl (by omega) fun i hi ih => ?_
  (repeat (first | refine run_seq ?_ | refine run_region ?_ | refine runL_nil ?_ | (apply v_lss; exact rfl; exact rfl; exact rfl)))
  refine run_cond rfl (fun hb => ?_) (fun hb => ?_)
  · have hlt : i < l.length := by simpa using hb
    have ht := take_nodeR hlt
    have hn := nodel_w h ((i : Int) + 1)
    generalize nodeR l ((i : Int) + 1) = x at *
    generalize (nodeAt l ((i : Int) + 1)).isSome = ok at *
    (repeat (first | (apply v_cSx; exact rfl; exact cbA rfl; (first | exact hn); (repeat (first | exact trivial | refine ⟨rfl, ?_⟩)); exact rfl; exact rfl; exact rfl; exact rfl; exact rfl) | (apply v_move; exact rfl; exact rfl) | (apply v_assign; exact rfl; exact rfl) | refine run_seq ?_ | refine run_region ?_ | refine runL_nil ?_ | refine run_skip ?_ | refine run_block ?_ | (apply v_extract; exact rfl; exact rfl; exact rfl) | (apply v_loadB; exact tyA rfl; exact rfl; exact rfl; exact rfl; exact rfl; exact rfl; exact rfl) | (apply v_allocD; exact tyA rfl; exact rfl; exact rfl; exact rfl; exact rfl) | (apply v_storeW; exact tyA rfl; exact rfl; exact rfl; exact rfl; exact rfl; exact rfl; exact rfl; exact rfl) | (apply v_add; exact rfl; exact rfl; exact rfl; exact (by omega))))
    refine v_l nodeE [x] (slA rfl) (tyA rfl) rfl rfl rfl rfl rfl rfl rfl rfl rfl rfl ?_
    refine v_appendD (slA rfl) (tyA rfl) rfl rfl rfl rfl rfl rfl rfl (by simp; omega) rfl rfl rfl rfl ?_
    (repeat (first | (apply v_move; exact rfl; exact rfl) | (apply v_assign; exact rfl; exact rfl) | refine run_region ?_ | refine runL_nil ?_ | refine run_inBlock ?_ | (apply v_add; exact rfl; exact rfl; exact rfl; exact (by omega))))
    exact v_again ih (i + 1) (mp [(3, 22)]) ⟨rfl, rfl, trivial⟩ (by repeat (first | exact trivial | refine ⟨rfl, ?_⟩)) ⟨by rw [ht]; rfl, rfl, rfl, trivial⟩ rfl (by omega) (by omega)
  · have hge : i = l.length := by have : ¬ i < l.length := by simpa using hb
                                  omega
    (repeat (first | (apply v_move; exact rfl; exact rfl) | (apply v_assign; exact rfl; exact rfl) | refine run_seq ?_ | refine run_region ?_ | refine runL_nil ?_ | (apply run_exit; exact rfl)))
    refine run_freeze 2 3 rfl rfl ?_
    exact run_ret idN _ Try.func41 ⟨_, _, rfl, rfl, rfl⟩ (by rw [hge, List.take_length]; rfl) ⟨rfl, rfl, trivial⟩ ⟨rfl, rfl, trivial⟩ rfl
end Go.Proofs.Ytjkidecaciomgaa
