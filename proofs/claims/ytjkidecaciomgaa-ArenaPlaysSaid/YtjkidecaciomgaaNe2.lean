/- Rows within rows, while they are laid: done rows, and lists that are still others'. -/
import Derived.Test.YtjkidecaciomgaaNe1
namespace Go.Proofs.Ytjkidecaciomgaa
set_option linter.unusedVariables false
set_option linter.unusedSimpArgs false
set_option maxRecDepth 100000
open Go.RowKit

def mixE {β : Type} (E : Enc β) : Enc (Option SlV × List β) where
  sz := 1
  f := fun p => match p.1 with
    | some s => [.v s.v]
    | none => [.sem (listS E p.2)]
  len := fun p => by obtain ⟨_ | _, _⟩ := p <;> rfl
  leaf := fun p => by obtain ⟨_ | _, _⟩ := p <;> rfl
def lstE {β : Type} (E : Enc β) : Enc (List β) where
  sz := 1
  f := fun l => [.sem (listS E l)]
  len := fun _ => rfl
  leaf := fun _ => rfl
def mixL {β : Type} (ps : List (SlV × List β)) (rest : List (List β)) : List (Option SlV × List β) := ps.map (fun p => (some p.1, p.2)) ++ rest.map (fun l => (none, l))
def nestP {β : Type} (T e : TypeId) (E : Enc β) (done rest : List (List β)) : Res where
  H := fun w S F v => ∃ (ps : List (SlV × List β)) (F1 F2 : Bl), (∀ k, F k ↔ F1 k ∨ F2 k) ∧ (∀ k, F1 k → ¬ F2 k) ∧ (ownS T (mixE E) (mixL ps rest)).H w S F1 v ∧ manyH e E w S ps F2 ∧ ps.map (·.2) = done
  one := fun ⟨_, _, _, _, _, h, _⟩ => Res.one _ h
  bnd := fun ⟨_, _, _, h0, _, h1, h2, _⟩ k hk => by
    rcases (h0 k).1 hk with hk | hk
    · exact Res.bnd _ h1 k hk
    · exact h2.lt k hk
  fut := fun hm hw ⟨ps, F1, F2, h0, h1, h2, h3, h4⟩ => ⟨ps, F1, F2, h0, h1, Res.fut _ hm (fun k hk => hw k (hk.imp id fun hk => (h0 k).2 (.inl hk))) h2, h3.fut hm (fun k hk => hw k (hk.imp id fun hk => (h0 k).2 (.inr hk))), h4⟩
section
variable {β : Type} {e T : TypeId} {E : Enc β}
theorem mixL_length (ps : List (SlV × List β)) (rest : List (List β)) : (mixL ps rest).length = ps.length + rest.length := by simp [mixL]
theorem mix_nil (rest : List (List β)) : (mixE E).all (mixL [] rest) = (lstE E).all rest := by
  simp only [mixL, List.map_nil, List.nil_append, Enc.all, List.flatMap_map]
  rfl
theorem mix_all (ps : List (SlV × List β)) (rest : List (List β)) : (mixE E).all (mixL ps rest) = ps.map (fun p => .v p.1.v) ++ rest.map (fun l => .sem (listS E l)) := by
  simp only [mixL, Enc.all, List.flatMap_append, List.flatMap_map]
  congr 1
  · induction ps with
    | nil => rfl
    | cons p ps ih => simp only [List.flatMap_cons, List.map_cons, ih]; rfl
  · induction rest with
    | nil => rfl
    | cons p ps ih => simp only [List.flatMap_cons, List.map_cons, ih]; rfl
theorem val_all (ps : List SlV) : valE.all ps = ps.map (fun p => .v p.v) := by
  induction ps with
  | nil => rfl
  | cons p ps ih =>
    have : valE.all (p :: ps) = [.v p.v] ++ valE.all ps := rfl
    rw [this, ih]
    rfl
theorem own_same {α γ : Type} {E1 : Enc α} {E2 : Enc γ} {xs : List α} {ys : List γ} {w : World} {S F : Bl} {v : Value} (hs : E1.sz = E2.sz) (hl : xs.length = ys.length) (ha : E1.all xs = E2.all ys) (h : (ownS T E1 xs).H w S F v) : (ownS T E2 ys).H w S F v := by
  obtain ⟨⟨us, h1, h2⟩, h3⟩ := h
  exact ⟨⟨us, by rw [← hs, ← hl]; exact h1, by rw [← ha]; exact h2⟩, h3⟩
end
section
variable {C : Cx} {k : List Item} {t t0 : List (Nat × AV)} {r r0 : List (Nat × RK)} {β : Type} {e T : TypeId} {E : Enc β} {ops : Array Oper} {rest' : List Oper} {qs : List PIt} {o : Oper}
variable {d g g2 : Nat} {ty ty' t2 : TypeId} {pos : String} {af : Array Edge} {x y : Operand} {gd : Option (Nat × Bool)} {done rest : List (List β)} {l ks : List β}
theorem run_nest0 (g : Nat) (e : TypeId) (E : Enc β) {ls : List (List β)} (hg : look r g = some (.obj (ownS T (lstE E) ls))) (hk : Run C k ⟨t, (g, .obj (nestP T e E [] ls)) :: r⟩) : Run C k ⟨t, r⟩ := .mk fun a w hs => by
  obtain ⟨ι, F, S, hA⟩ := hs
  have hR := hA.sw.hs.ob g _ hg
  obtain ⟨hw, _⟩ := hA.sw.turn (x' := .obj (nestP T e E [] ls)) hg rfl (But.refl _ _) (fun _ _ e => by cases e) (fun R' e0 => by
    cases e0
    exact ⟨[], F g, fun _ => False, fun k => ⟨.inl, fun h => h.resolve_right id⟩, fun k _ h => h, own_same (E1 := lstE E) (E2 := mixE E) (xs := ls) (ys := mixL [] ls) rfl (by rw [mixL_length]; simp) (mix_nil ls).symm hR, fun _ h => h, rfl⟩)
  exact hk.go a w ⟨ι, F, S, hw, hA.ts, hA.sz, hA.df⟩
theorem nest_form {ι : Nat → Value} {F : Nat → Bl} {S : Bl} {w : World} (h : HeapSim r ι F S w) (hg : look r g = some (.obj (nestP T e E done rest))) (hn : 0 < done.length + rest.length) : ∃ (ps : List (SlV × List β)) (F1 F2 : Bl) (us : List Value) (b cap : Nat) (cur : Array Value), (∀ k, F g k ↔ F1 k ∨ F2 k) ∧ (∀ k, F1 k → ¬ F2 k) ∧ w.ownsRow 0 T 1 (ι g) (done.length + rest.length) us ∧ AVRs ι0 S w (ps.map (fun p => AV.v p.1.v) ++ rest.map (fun l => .sem (listS E l))) us ∧ manyH e E w S ps F2 ∧ ps.map (·.2) = done ∧ ι g = .slice (some ⟨b, 0, none⟩) (done.length + rest.length) cap ∧ (∀ k, F1 k ↔ k = b) ∧ w.heap[b]? = some (.cells cur T (0, 0)) ∧ done.length + rest.length ≤ cap ∧ cur.size = cap * 1 ∧ cur.toList.take ((done.length + rest.length) * 1) = us ∧ ps.length = done.length := by
  obtain ⟨ps, F1, F2, q0, q1, ⟨⟨us, h1, h2⟩, h3⟩, q3, q4⟩ := h.ob g _ hg
  have hl : ps.length = done.length := by rw [← q4, List.length_map]
  rw [mixL_length, hl] at h1
  have h1s : w.ownsRow 0 T 1 (ι g) (done.length + rest.length) us := h1
  rw [mix_all] at h2
  rcases h1s.2 with ⟨_, h0⟩ | ⟨b, cap, cur, hv, hbase, hh, hn', hcap, hsz, htk⟩
  · omega
  · exact ⟨ps, F1, F2, us, b, cap, cur, q0, q1, h1s, h2, q3, q4, hv, fun k => by rw [h3, hv]; simp [Value.ownBlock, eq_comm], hh, hn', hsz, htk, hl⟩
theorem op_idxN {kd : IntKind} {m : Int} {e' : TypeId} {i : TyI} (ho : o.op = .indexAddr ty x y) (hg : look r g = some (.obj (nestP T e E done rest))) (hE : sliceE C.P ty = some e') (hi : tyI C.P e' = some i) (hsz : i.size = 1) (h0 : 0 ≤ m) (hlt : m.toNat < done.length + rest.length) : OpPure C r o [(x, .res g), (y, .v (.int kd m))] (.ptr g m.toNat) := OpPure.here fun ι F S w ρ hs hr => by
  have hx := hr (x, .res g) (by simp)
  have hm := hr (y, .v (.int kd m)) (by simp)
  simp only [AVR] at hx hm ⊢
  obtain ⟨ps, F1, F2, us, b, cap, cur, _, _, _, _, _, _, hv, _⟩ := nest_form hs.hs hg (by omega)
  obtain ⟨hu, hel⟩ := sliceE_elem hE
  have hrun : (Instr.indexAt ty (.slice (some ⟨b, 0, none⟩) (done.length + rest.length) cap) (.int kd m)).run C.P w = .ok (.pointer (some ((⟨b, 0, none⟩ : Addr).add (m.toNat * 1)))) w := by
    rw [run_indexAt_slice _ _ _ _ _ _ _ hu, if_pos (by omega), hel, run_sizeOf hi, hsz]; rfl
  refine ⟨.pointer (some ((⟨b, 0, none⟩ : Addr).add (m.toNat * 1))), by simp [execOp, ho, hx.1, hv, hm, hrun], b, by rw [hv]; simp [baseOf], by rw [Addr.add_lit, Nat.zero_add, Nat.mul_one]⟩
theorem op_loadN {off : Nat} {i : TyI} (ho : o.op = .load ty x) (hg : look r g = some (.obj (nestP T e E done (l :: rest)))) (hoff : off = done.length) (hi : tyI C.P ty = some i) (h1 : i.agg = false) (h2 : i.size = 1) : OpPure C r o [(x, .ptr g off)] (.sem (listS E l)) := OpPure.here fun ι F S w ρ hs hr => by
  have hx := hr (x, .ptr g off) (by simp)
  simp only [AVR] at hx
  obtain ⟨b0, hb, hx⟩ := hx
  obtain ⟨ps, F1, F2, us, b, cap, cur, q0, q1, hrow, hav, hm, hd, hv, hF1, hh, hn, hsz, htk, hpl⟩ := nest_form hs.hs hg (by simp; omega)
  rw [hv] at hb
  obtain rfl : b = b0 := by simpa [baseOf] using hb
  obtain ⟨u, hu, hR⟩ := hav.get (i := off) (x := .sem (listS E l)) (by rw [hoff, ← hpl, List.getElem?_append_right (by simp)]; simp)
  have hc := hrow.cells (g := b) (by rw [hv]; rfl) off u hu
  rw [Addr.add_lit, Nat.zero_add] at hc
  have hld := run_loadVar (w := w) (a := ⟨b, off, none⟩) (us := [u]) hi (fun _ => h2) (by simp [h2]) (fun n v hn => by
    cases n with
    | zero => cases hn; rw [Addr.add_lit, Nat.add_zero]; exact hc
    | succ n => simp at hn)
  refine ⟨u, ?_, hR.fut (Fut.refl _ _) fun _ h => by cases h⟩
  have hp : packV i.agg [u] = u := by rw [h1]; rfl
  rw [hp] at hld
  simp [execOp, ho, hx, Instr.loadAt, Instr.sureAddr, hld]
def anyR : Res where
  H := fun w S F v => v.oneCell' = true ∧ ∀ k, F k → k < w.heap.size
  one := fun h => h.1
  bnd := fun h => h.2
  fut := fun _ hw h => ⟨h.1, fun k hk => by
    have hl := h.2 k hk
    have := hw k (.inr hk) hl
    rw [Array.getElem?_eq_getElem hl] at this
    exact (Array.getElem?_eq_some_iff.1 this).1⟩
theorem op_storeN {off : Nat} {i : TyI} (ho : o.op = .store ty x y) (hg : look r g = some (.obj (nestP T e E done (l :: rest)))) (hg2 : look r g2 = some (.obj (ownS e E ks))) (hne : Nat.beq g2 g = false) (hoff : off = done.length) (hi : tyI C.P ty = some i) (h2 : i.size = 1) : OpEff C r o [(x, .ptr g off), (y, .res g2)] (.v undef) ((g, .obj (nestP T e E (done ++ [ks]) rest)) :: (g2, .dead) :: r) [] := fun ι F S w ρ hs hr => by
  have hne' : g2 ≠ g := fun e => by subst e; simp at hne
  have hx := hr (x, .ptr g off) (by simp)
  have hy := hr (y, .res g2) (by simp)
  simp only [AVR] at hx hy
  obtain ⟨b0, hb, hx⟩ := hx
  obtain ⟨ps, F1, F2, us, b, cap, cur, q0, q1, hrow, hav, hm, hd, hv, hF1, hh, hn, hsz, htk, hpl⟩ := nest_form hs.hs hg (by simp; omega)
  rw [hv] at hb
  obtain rfl : b = b0 := by simpa [baseOf] using hb
  have hR2 := hs.hs.ob g2 _ hg2
  obtain ⟨s, hs1⟩ : ∃ s : SlV, ι g2 = s.v := by
    obtain ⟨⟨us2, h3, _⟩, _⟩ := hR2
    rcases h3.2 with ⟨h7, h8⟩ | ⟨b2, cap2, cur2, h7, _⟩
    · exact ⟨⟨none, 0, 0⟩, h7⟩
    · exact ⟨⟨_, _, _⟩, h7⟩
  rw [hs1] at hR2 hy
  have hdis := hs.hs.dis g2 g _ _ hg2 hg rfl rfl hne'
  have hc1 : (s.v).cells = #[s.v] := rfl
  have hoc : off < cur.size := by rw [hsz, hoff]; simp at hn ⊢; omega
  have hst := run_storeCells_at C.P b off T [s.v] 0 cur w hh (by simp; omega) (by simp [SlV.v, Value.oneCell'])
  rw [Nat.add_zero] at hst
  have hrun : (Instr.storeAt ty (ρ x) (ρ y)).run C.P w = .ok () (w.setRow b (cur.toList.take off ++ [s.v] ++ cur.toList.drop (off + 1)).toArray) := by
    rw [hx, hy.1]
    simp only [Instr.storeAt, Instr.sureAddr, storeVar, Sem.run_bind, Sem.run_pure, Result.andThen_ok, run_sizeOf hi, hc1, h2]
    exact hst
  have hcl : cur.toList.length = cur.size := Array.length_toList
  rw [show cur.toList.take off ++ [s.v] ++ cur.toList.drop (off + 1) = spliceL cur.toList off [s.v] from (spliceL_eq _ _ _ (by simp; omega)).symm] at hrun
  have hbut1 : But (fun k => k = b) w (w.setRow b (spliceL cur.toList off [s.v]).toArray) := ⟨rfl, rfl, rfl, by simp, fun k _ hn => setRow_other w b k _ hn⟩
  obtain ⟨w', hw'⟩ : ∃ w', w.setRow b (spliceL cur.toList off [s.v]).toArray = w' := ⟨_, rfl⟩
  have hnew : w'.heap[b]? = some (.cells (spliceL cur.toList off [s.v]).toArray T (0, 0)) := by rw [← hw']; exact setRow_heap w b cur _ T (0, 0) hh
  rw [hw'] at hrun hbut1
  have hFb : F g b := (q0 b).2 (.inl ((hF1 b).2 rfl))
  have hSb : ∀ k, S k → k ≠ b := fun k hk e => hs.hs.out g _ hg rfl b hFb (e ▸ hk)
  have hF2b : ∀ k, F2 k → k ≠ b := fun k hk e => q1 b ((hF1 b).2 rfl) (e ▸ hk)
  have hF3b : ∀ k, F g2 k → k ≠ b := fun k hk e => hdis k hk (e ▸ hFb)
  have hFut : Fut S w S w' := ⟨fun _ h => h, fun k hk hl => hbut1.block k hl (hSb k hk)⟩
  have hm' : manyH e E w' S ps F2 := hm.fut (fun _ h => h) fun k hk hl => hbut1.block k hl (hk.elim (hSb k) (hF2b k))
  have hR2' : (ownS e E ks).H w' S (F g2) s.v := Res.fut _ (fun _ h => h) (fun k hk hl => hbut1.block k hl (hk.elim (hSb k) (hF3b k))) hR2
  have hmany := manyH_snoc (p := (s, ks)) hR2' hm' fun k hk hk2 => hdis k hk ((q0 k).2 (.inr hk2))
  have hl1 := hs.leak g2
  have hw1 := hl1.reown (g := g) (R := anyR) (G := fun k => F g k ∨ F g2 k) ⟨by rw [hv]; rfl, fun k hk => hk.elim (fun hk => hs.hs.lt hg rfl hk) (fun hk => hs.hs.lt hg2 rfl hk)⟩ (fun k hk => hk.elim (fun hk => hs.own g _ hg rfl k hk) (fun hk => hs.own g2 _ hg2 rfl k hk)) (fun k hk => hk.elim (fun hk => hs.hs.out g _ hg rfl k hk) (fun hk => hs.hs.out g2 _ hg2 rfl k hk)) (fun g' y hg' hy hn k hk hk2 => by
    rw [look_cons] at hg'
    by_cases e : g2 = g'
    · rw [if_pos e] at hg'; cases hg'; cases hy
    · rw [if_neg e] at hg'
      rcases hk2 with hk2 | hk2
      · exact hs.hs.dis g' g _ _ hg' hg hy rfl hn k hk hk2
      · exact hs.hs.dis g' g2 _ _ hg' hg2 hy rfl (Ne.symm e) k hk hk2)
  obtain ⟨hw2, _⟩ := hw1.turn (g := g) (x' := .obj (nestP T e E (done ++ [ks]) rest)) (w' := w') (by rw [look_cons, if_pos rfl]) rfl (by
    rw [newF_same]
    exact ⟨hbut1.os, hbut1.tape, hbut1.output, hbut1.size, fun k hk hn => hbut1.block k hk fun e => hn (by subst e; exact .inl hFb)⟩) (fun T' l' e0 => by cases e0) (fun R' e0 => by
    cases e0
    rw [newF_same]
    have hlen : done.length + (l :: rest).length = (ps ++ [(s, ks)]).length + rest.length := by simp; omega
    refine ⟨ps ++ [(s, ks)], fun k => k = b, fun k => F2 k ∨ F g2 k, fun k => ?_, fun k hk hk2 => ?_, ?_, hmany, by rw [List.map_append, hd]; rfl⟩
    · show F g k ∨ F g2 k ↔ _
      rw [q0, hF1, or_assoc]
    · subst hk
      rcases hk2 with hk2 | hk2
      · exact hF2b _ hk2 rfl
      · exact hF3b _ hk2 rfl
    · refine ⟨⟨spliceL us off [s.v], ⟨?_, .inr ⟨b, cap, _, ?_, Nat.zero_le _, hnew, ?_, ?_, ?_, ?_⟩⟩, ?_⟩, fun k => ?_⟩
      · rw [spliceL_length, mixL_length, ← hlen]; exact hrow.1
      · rw [mixL_length, ← hlen]; exact hv
      · rw [mixL_length, ← hlen]; exact hn
      · rcases hrow.2 with ⟨h7, _⟩ | ⟨b', cap', cur', h7, _, _, _, hcap, _⟩
        · rw [hv] at h7; cases h7
        · rw [hv] at h7
          simp only [Value.slice.injEq] at h7
          rw [h7.2.2]; exact hcap
      · rw [List.size_toArray, spliceL_length, Array.length_toList]; exact hsz
      · have hz : (mixE E).sz = 1 := rfl
        rw [List.toList_toArray, mixL_length, ← hlen, hz, spliceL_take _ _ _ _ (by rw [hoff]; simp), htk]
      · rw [mix_all]
        have h3 := (hav.fut hFut fun _ _ => rfl).splice (o := off) (cs := [.v s.v]) (vs := [s.v]) ⟨_, _, rfl, rfl, rfl⟩
        have e3 : spliceL (ps.map (fun p => AV.v p.1.v) ++ (l :: rest).map (fun l => AV.sem (listS E l))) off [.v s.v] = (ps ++ [(s, ks)]).map (fun p => AV.v p.1.v) ++ rest.map (fun l => AV.sem (listS E l)) := by
          simp only [spliceL, hoff, ← hpl]
          rw [List.set_append_right _ _ (by simp)]
          simp
        rw [← e3]
        exact h3
      · rw [hv]; simp [Value.ownBlock, eq_comm])
  refine Does.skip (w' := w') ?_ ⟨ι, _, S, hw2.congr fun g' => ?_, hFut, fun _ _ => rfl, by simp [AVR]⟩
  · simp [execOp, ho, hrun]
  · rw [look_cons, look_cons, look_cons, look_cons, look_cons]
    by_cases e1 : g = g'
    · simp [e1]
    · simp [e1]
end
end Go.Proofs.Ytjkidecaciomgaa
