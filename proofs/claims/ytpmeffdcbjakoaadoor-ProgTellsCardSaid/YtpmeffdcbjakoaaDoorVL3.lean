/- VL, part 3: other names; the begin and the end of a call. -/
import Derived.Test.YtpmeffdcbjakoaaDoorVL2
namespace Go.Proofs.YtpmeffdcbjakoaaDoor
set_option linter.unusedVariables false
set_option linter.unusedSimpArgs false
open Go.RowKit

abbrev idN : Nat → Nat := fun n => n
mutual
def AV.ren (m : Nat → Nat) : AV → AV
  | .v x => .v x
  | .sem p => .sem p
  | .res g => .res (m g)
  | .ptr g o => .ptr (m g) o
  | .fn f l => .fn f (AV.renL m l)
  | .agg l => .agg (AV.renL m l)
  | .tup l => .tup (AV.renL m l)
def AV.renL (m : Nat → Nat) : List AV → List AV
  | [] => []
  | x :: l => AV.ren m x :: AV.renL m l
end
def RK.ren (m : Nat → Nat) : RK → RK
  | .dead => .dead
  | .box T l => .box T (AV.renL m l)
  | .obj R => .obj R
theorem RK.live_ren (m : Nat → Nat) (x : RK) : (x.ren m).live = x.live := by cases x <;> rfl
section
variable {ι : Nat → Value} {S : Bl} {w : World} {m : Nat → Nat}
mutual
theorem AVR.ren : ∀ {x : AV} {u : Value}, AVR ι S w (x.ren m) u ↔ AVR (fun g => ι (m g)) S w x u
  | .v x, u => by simp [AV.ren, AVR]
  | .sem p, u => by simp [AV.ren, AVR]
  | .res g, u => by simp [AV.ren, AVR]
  | .ptr g o, u => by simp [AV.ren, AVR]
  | .fn f l, u => by
    simp only [AV.ren, AVR]
    exact exists_congr fun us => and_congr Iff.rfl AVRs.ren
  | .agg l, u => by
    simp only [AV.ren, AVR]
    exact exists_congr fun us => and_congr Iff.rfl AVRs.ren
  | .tup l, u => by
    simp only [AV.ren, AVR]
    exact exists_congr fun us => and_congr Iff.rfl AVRs.ren
theorem AVRs.ren : ∀ {l : List AV} {us : List Value}, AVRs ι S w (AV.renL m l) us ↔ AVRs (fun g => ι (m g)) S w l us
  | [], us => by simp [AV.renL, AVRs]
  | x :: l, us => by
    simp only [AV.renL, AVRs]
    exact exists_congr fun u => exists_congr fun r => and_congr Iff.rfl (and_congr AVR.ren AVRs.ren)
end
end

/-- r2's resources are r's, by other names. -/
def WkR (r : List (Nat × RK)) (m : Nat → Nat) : List (Nat × RK) → Prop
  | [] => True
  | p :: l => look r (m p.1) = some (p.2.ren m) ∧ WkR r m l
theorem WkR.look {r : List (Nat × RK)} {m : Nat → Nat} : ∀ {l : List (Nat × RK)} {g : Nat} {x : RK}, WkR r m l → look l g = some x → Go.Proofs.YtpmeffdcbjakoaaDoor.look r (m g) = some (x.ren m)
  | [], g, x, _, h => by cases h
  | (k, y) :: l, g, x, h, hx => by
    rw [look_cons] at hx
    by_cases e : k = g
    · subst e; rw [if_pos rfl] at hx; cases hx; exact h.1
    · rw [if_neg e] at hx; exact h.2.look hx
def WkT (t : List (Nat × AV)) (m : Nat → Nat) : List (Nat × AV) → Prop
  | [] => True
  | p :: l => look t p.1 = some (p.2.ren m) ∧ WkT t m l
theorem WkT.look {t : List (Nat × AV)} {m : Nat → Nat} : ∀ {l : List (Nat × AV)} {g : Nat} {x : AV}, WkT t m l → look l g = some x → Go.Proofs.YtpmeffdcbjakoaaDoor.look t g = some (x.ren m)
  | [], g, x, _, h => by cases h
  | (k, y) :: l, g, x, h, hx => by
    rw [look_cons] at hx
    by_cases e : k = g
    · subst e; rw [if_pos rfl] at hx; cases hx; exact h.1
    · rw [if_neg e] at hx; exact h.2.look hx
def notIn (n : Nat) : List Nat → Bool
  | [] => true
  | x :: l => and (!Nat.beq x n) (notIn n l)
def nodupB : List Nat → Bool
  | [] => true
  | x :: l => and (notIn x l) (nodupB l)
theorem notIn_iff {n : Nat} : ∀ {l : List Nat}, notIn n l = true ↔ n ∉ l
  | [] => by simp [notIn]
  | x :: l => by
    simp only [notIn, Bool.and_eq_true, Bool.not_eq_true', List.mem_cons, not_or]
    rw [notIn_iff]
    refine and_congr ⟨fun h e => ?_, fun h => ?_⟩ Iff.rfl
    · subst e; simp at h
    · cases hb : Nat.beq x n
      · rfl
      · exact absurd (Nat.eq_of_beq_eq_true hb).symm h
theorem nodupB_iff : ∀ {l : List Nat}, nodupB l = true ↔ l.Nodup
  | [] => by simp [nodupB]
  | x :: l => by
    simp only [nodupB, Bool.and_eq_true, List.nodup_cons]
    rw [notIn_iff, nodupB_iff]
def idsM {α : Type} (m : Nat → Nat) : List (Nat × α) → List Nat
  | [] => []
  | p :: l => m p.1 :: idsM m l
theorem idsM_inj {α : Type} {m : Nat → Nat} : ∀ {l : List (Nat × α)}, (idsM m l).Nodup → ∀ {g g' : Nat} {x x' : α}, look l g = some x → look l g' = some x' → m g = m g' → g = g'
  | [], _, g, g', x, x', h, _, _ => by cases h
  | (k, y) :: l, hn, g, g', x, x', h, h', e => by
    have mem : ∀ {l : List (Nat × α)} {g : Nat} {x : α}, look l g = some x → m g ∈ idsM m l := by
      intro l
      induction l with
      | nil => intro g x h; cases h
      | cons p l ih =>
        intro g x h
        obtain ⟨k, y⟩ := p
        rw [look_cons] at h
        by_cases e : k = g
        · subst e; exact List.mem_cons_self
        · rw [if_neg e] at h; exact List.mem_cons_of_mem _ (ih h)
    rw [idsM, List.nodup_cons] at hn
    rw [look_cons] at h h'
    by_cases e1 : k = g
    · by_cases e2 : k = g'
      · omega
      · rw [if_neg e2] at h'
        exact absurd (by rw [e1, e]; exact mem h') hn.1
    · by_cases e2 : k = g'
      · rw [if_neg e1] at h
        exact absurd (by rw [e2, ← e]; exact mem h) hn.1
      · rw [if_neg e1] at h
        rw [if_neg e2] at h'
        exact idsM_inj hn.2 h h' e

theorem HeapSim.ren {r r2 : List (Nat × RK)} {ι : Nat → Value} {F : Nat → Bl} {S : Bl} {w : World} {m : Nat → Nat} (h : HeapSim r ι F S w) (hr : WkR r m r2) (hn : nodupB (idsM m r2) = true) : HeapSim r2 (fun g => ι (m g)) (fun g => F (m g)) S w := by
  have hn' := nodupB_iff.1 hn
  refine ⟨fun g T l hg => ?_, fun g R hg => h.ob _ R (hr.look hg), fun g g' x x' hg hg' hx hx' hne k hk => ?_, fun g x hg hx k hk => h.out _ _ (hr.look hg) (by rw [RK.live_ren]; exact hx) k hk, h.bnd⟩
  · obtain ⟨b, h1, h2, cs, h3, h4⟩ := h.bx _ T _ (hr.look hg)
    exact ⟨b, h1, h2, cs, h3, AVRs.ren.1 h4⟩
  · exact h.dis _ _ _ _ (hr.look hg) (hr.look hg') (by rw [RK.live_ren]; exact hx) (by rw [RK.live_ren]; exact hx') (fun e => hne (idsM_inj hn' hg hg' e)) k hk

/-- What came in keeps its name. -/
def KeepM (m : Nat → Nat) : List (Nat × RK) → Prop
  | [] => True
  | p :: l => m p.1 = p.1 ∧ KeepM m l
theorem KeepM.look {m : Nat → Nat} : ∀ {l : List (Nat × RK)} {g : Nat} {x : RK}, KeepM m l → look l g = some x → m g = g
  | [], g, x, _, h => by cases h
  | (k, y) :: l, g, x, h, hx => by
    rw [look_cons] at hx
    by_cases e : k = g
    · subst e; exact h.1
    · rw [if_neg e] at hx; exact h.2.look hx

section
variable {C : Cx} {k : List Item} {σ : VS}
/-- Less is known, by other names. -/
theorem run_weak (m : Nat → Nat) {σ2 : VS} (hk : KeepM m C.r0) (hr : WkR σ.r m σ2.r) (ht : WkT σ.t m σ2.t) (hn : nodupB (idsM m σ2.r) = true) (h : Run C k σ2) : Run C k σ := .mk fun a w hs => by
  obtain ⟨ι, F, S, hA⟩ := hs
  refine h.go a w ⟨fun g => ι (m g), fun g => F (m g), S, ⟨hA.sw.hs.ren hr hn, hA.sw.but, fun g x hg hx => hA.sw.own _ _ (hr.look hg) (by rw [RK.live_ren]; exact hx), hA.sw.sb, hA.sw.fut, fun g x hg hx => ?_⟩, fun n x hx => ?_, hA.sz, hA.df⟩
  · rw [hk.look hg]; exact hA.sw.keep g x hg hx
  · obtain ⟨u, h1, h2⟩ := hA.ts n _ (ht.look hx)
    exact ⟨u, h1, AVR.ren.1 h2⟩
end

/-! ### The begin -/
def argT : Nat → List AV → List (Nat × AV)
  | _, [] => []
  | i, x :: l => (i, x) :: argT (i + 1) l
theorem argT_look : ∀ {l : List AV} {i n : Nat} {x : AV}, look (argT i l) n = some x → i ≤ n ∧ l[n - i]? = some x
  | [], i, n, x, h => by cases h
  | y :: l, i, n, x, h => by
    rw [argT, look_cons] at h
    by_cases e : i = n
    · subst e
      rw [if_pos rfl] at h
      exact ⟨Nat.le_refl _, by simpa using h⟩
    · rw [if_neg e] at h
      obtain ⟨h1, h2⟩ := argT_look h
      refine ⟨by omega, ?_⟩
      rw [show n - i = (n - (i + 1)) + 1 by omega]
      simpa using h2

theorem fun_intro {P : Program} {f : FuncId} {fn : Func} {c : Code} {args : List AV} {r0 r1 : List (Nat × RK)} {rv : AV} (N : Nat) (hf : P.funcs[f]? = some fn) (hb : fn.body = some c) (hN : fn.ntmps = N) (hl : Nat.ble args.length N = true)
    (h : ∀ (ι : Nat → Value) (F : Nat → Bl) (S : Bl) (w : World), Run ⟨P, f, fn, N, w, S, ι, F, r0, rv, r1⟩ [.code c] ⟨argT 0 args, r0⟩) : Fun P f args r0 rv r1 := fun ι F S w vals hh hv => by
  have hlen := hv.length
  have hle := Nat.le_of_ble_eq_true hl
  intro cs
  let b : Frame := { (default : Frame) with fn := f, kind := .normal }
  have henter : Frame.enter P f vals.toArray .normal = b.at { tmps := vals.toArray ++ Array.replicate (fn.ntmps - vals.toArray.size) undef, defers := [] } [.code c] := by
    simp [Frame.enter, Frame.at, hf, hb, b]
  have hsim : Sim ⟨P, f, fn, N, w, S, ι, F, r0, rv, r1⟩ ⟨argT 0 args, r0⟩ { tmps := vals.toArray ++ Array.replicate (fn.ntmps - vals.toArray.size) undef, defers := [] } w := by
    refine ⟨ι, F, S, ⟨hh, But.refl _ _, fun g x hg hx k hk => .inr ⟨g, x, hg, hx, hk⟩, fun k hk => .inl hk, Fut.refl _ _, fun _ _ _ _ => rfl⟩, fun n x hx => ?_, ?_, rfl⟩
    · obtain ⟨_, h2⟩ := argT_look hx
      rw [Nat.sub_zero] at h2
      obtain ⟨u, h3, h4⟩ := hv.get h2
      refine ⟨u, ?_, h4⟩
      have hlt := (List.getElem?_eq_some_iff.1 h3).1
      rw [Array.getElem?_append_left (by simpa using hlt)]
      simpa using h3
    · simp only [Array.size_append, List.size_toArray, Array.size_replicate]
      omega
  obtain ⟨e, w1, fr, h1, h2, h3, h4⟩ := (h ι F S w).go _ w hsim b cs rfl rfl
  rw [← henter] at h2
  exact ⟨e, w1, fr, h1, h2, h3, h4⟩

/-! ### The end -/
/-- A variable's value, out of its cells: one, or a struct's. -/
structure TyI where
  agg : Bool
  size : Nat
  bytes : Nat
  zero : List Value
def aggD : TypeDesc → Bool
  | .struct _ => true
  | .array _ _ => true
  | _ => false
def tyI (P : Program) (T : TypeId) : Option TyI :=
  match P.info? T, P.underlying T with
  | some i, some d => match i.zero with
    | some z => some ⟨aggD d, i.size, i.bytes, z.cells.toList⟩
    | none => none
  | _, _ => none
theorem tyI_info {P : Program} {T : TypeId} {i : TyI} (h : tyI P T = some i) : ∃ ti d z, P.info? T = some ti ∧ P.underlying T = some d ∧ ti.zero = some z ∧ aggD d = i.agg ∧ ti.size = i.size ∧ ti.bytes = i.bytes ∧ z.cells.toList = i.zero := by
  unfold tyI at h
  split at h
  · rename_i ti d h1 h2
    split at h
    · rename_i z hz
      cases h
      exact ⟨ti, d, z, h1, h2, hz, rfl, rfl, rfl, rfl⟩
    · cases h
  · cases h
theorem run_isAgg {P : Program} {T : TypeId} {i : TyI} (h : tyI P T = some i) (w : World) : (isAgg T).run P w = .ok i.agg w := by
  obtain ⟨ti, d, z, h1, h2, h3, h4, _⟩ := tyI_info h
  unfold isAgg
  simp only [Sem.run_bind, run_underlying h2, Result.andThen_ok]
  rw [← h4]
  cases d <;> rfl
theorem run_sizeOf {P : Program} {T : TypeId} {i : TyI} (h : tyI P T = some i) (w : World) : (sizeOf T).run P w = .ok i.size w := by
  obtain ⟨ti, d, z, h1, h2, h3, h4, h5, _⟩ := tyI_info h
  simp [sizeOf, typeInfo, h1, h5]
theorem run_zeroValue {P : Program} {T : TypeId} {i : TyI} (h : tyI P T = some i) (w : World) : ∃ z, (zeroValue T).run P w = .ok z w ∧ z.cells.toList = i.zero := by
  obtain ⟨ti, d, z, h1, h2, h3, h4, h5, h6, h7⟩ := tyI_info h
  exact ⟨z, by simp [zeroValue, typeInfo, h1, h3], h7⟩
/-- A variable's value out of its cells. -/
def packV (agg : Bool) (us : List Value) : Value := if agg then .agg us.toArray else us.headD undef
theorem run_loadVar {P : Program} {T : TypeId} {i : TyI} (h : tyI P T = some i) (hs : i.agg = false → i.size = 1) {w : World} {a : Addr} {us : List Value} (hl : us.length = i.size) (hc : ∀ j u, us[j]? = some u → w.cell? (a.add j) = some u) : (loadVar T a).run P w = .ok (packV i.agg us) w := by
  unfold loadVar packV
  simp only [Sem.run_bind, run_isAgg h, Result.andThen_ok]
  cases ha : i.agg with
  | true =>
    simp only [if_true, Sem.run_bind, run_sizeOf h, Result.andThen_ok]
    rw [← hl, run_loadCells_list w a us hc]
    rfl
  | false =>
    have h1 := hs ha
    match us, hl with
    | [u], _ =>
      have := hc 0 u rfl
      rw [Addr.add_zero'] at this
      simp [this]
    | [], hl => simp at hl; omega
    | _ :: _ :: _, hl => simp at hl; omega
/-- The abstract value of a variable with these cells. -/
def packA (agg : Bool) (l : List AV) : Option AV := bif agg then some (.agg l) else match l with | x :: _ => some x | [] => none
theorem packA_R {ι : Nat → Value} {S : Bl} {w : World} {agg : Bool} {l : List AV} {us : List Value} {x : AV} (h : AVRs ι S w l us) (hx : packA agg l = some x) : AVR ι S w x (packV agg us) := by
  cases agg with
  | true =>
    simp only [packA, cond_true] at hx
    cases hx
    exact ⟨us, rfl, h⟩
  | false =>
    simp only [packA, cond_false] at hx
    cases l with
    | nil => cases hx
    | cons y l =>
      cases hx
      simp only [AVRs] at h
      obtain ⟨u, r, rfl, h1, _⟩ := h
      exact h1

/-- The results' values. -/
def ResA (P : Program) (σ : VS) : List ResultVar → List AV → Prop
  | [], l => l = []
  | .tmp n :: rs, l => ∃ x l', l = x :: l' ∧ look σ.t n = some x ∧ ResA P σ rs l'
  | .cell a T :: rs, l => ∃ x l' g T' cs i, l = x :: l' ∧ look σ.t a = some (.ptr g 0) ∧ look σ.r g = some (.box T' cs) ∧ tyI P T = some i ∧ i.size = cs.length ∧ (i.agg = false → i.size = 1) ∧ packA i.agg cs = some x ∧ ResA P σ rs l'
def oneA : List AV → AV
  | [x] => x
  | l => .tup l

theorem box_cells {r : List (Nat × RK)} {ι : Nat → Value} {F : Nat → Bl} {S : Bl} {w : World} (h : HeapSim r ι F S w) {g o n : Nat} {T : TypeId} {l : List AV} (hg : look r g = some (.box T l)) : ∃ b us, ι g = .pointer (some ⟨b, 0, none⟩) ∧ AVRs ι S w ((l.drop o).take n) us ∧ (∀ j u, us[j]? = some u → w.cell? ((⟨b, o, none⟩ : Addr).add j) = some u) ∧ (o + n ≤ l.length → us.length = n) := by
  obtain ⟨b, h1, h2, cs, h3, h4⟩ := h.bx g T l hg
  refine ⟨b, (cs.toList.drop o).take n, h1, (h4.drop o).take n, fun j u hu => ?_, fun hle => ?_⟩
  · rw [Addr.add_lit, cell_of_row w b _ cs T (0, 0) h3, ← Array.getElem?_toList]
    rw [List.getElem?_take] at hu
    split at hu
    · rwa [List.getElem?_drop] at hu
    · cases hu
  · have := h4.length
    simp only [List.length_take, List.length_drop]
    omega

def resF (tmps : Array Value) : ResultVar → Go.Sem Value
  | .tmp t => pure (tmps.getD t undef)
  | .cell a t => do loadVar t (← asAddr (tmps.getD a undef))
theorem resA_run {P : Program} {σ : VS} {ι : Nat → Value} {F : Nat → Bl} {S : Bl} {w : World} {tmps : Array Value} (hs : HeapSim σ.r ι F S w) (ht : ∀ n x, look σ.t n = some x → ∃ u, tmps[n]? = some u ∧ AVR ι S w x u) : ∀ {rs : List ResultVar} {l : List AV}, ResA P σ rs l →
    ∃ us : List Value, (rs.mapM (resF tmps)).run P w = Result.ok us w ∧ AVRs ι S w l us
  | [], l, h => by
    simp only [ResA] at h
    subst h
    exact ⟨[], rfl, rfl⟩
  | .tmp n :: rs, l, h => by
    obtain ⟨x, l', rfl, h1, h2⟩ := h
    obtain ⟨us, h3, h4⟩ := resA_run hs ht h2
    obtain ⟨u, h5, h6⟩ := ht n x h1
    refine ⟨u :: us, ?_, u, us, rfl, h6, h4⟩
    have e : tmps.getD n undef = u := by rw [Array.getD_eq_getD_getElem?, h5]; rfl
    rw [List.mapM_cons]
    simp only [resF, Sem.run_bind, Sem.run_pure, Result.andThen_ok, h3, e]
  | .cell a T :: rs, l, h => by
    obtain ⟨x, l', g, T', cs, i, rfl, h1, hg, hi, hsz, h1c, hp, h2⟩ := h
    obtain ⟨us, h3, h4⟩ := resA_run hs ht h2
    obtain ⟨u, h5, h6⟩ := ht a _ h1
    obtain ⟨b, vs, hb, hv, hc, hl⟩ := box_cells hs (o := 0) (n := cs.length) hg
    simp only [AVR] at h6
    obtain ⟨b', hb', rfl⟩ := h6
    rw [hb] at hb'
    obtain rfl : b = b' := by simpa [baseOf] using hb'
    have hl' := hl (by omega)
    rw [List.drop_zero, List.take_length] at hv
    refine ⟨packV i.agg vs :: us, ?_, _, us, rfl, packA_R hv hp, h4⟩
    have e : tmps.getD a undef = .pointer (some ⟨b, 0, none⟩) := by rw [Array.getD_eq_getD_getElem?, h5]; rfl
    rw [List.mapM_cons]
    have hld := run_loadVar hi h1c (w := w) (a := ⟨b, 0, none⟩) (us := vs) (by omega) hc
    simp only [resF, Sem.run_bind, Sem.run_pure, Result.andThen_ok, e, asAddr, hld, h3]

theorem run_ret {C : Cx} {k : List Item} {σ : VS} (m : Nat → Nat) (l : List AV) (hf : C.P.funcs[C.f]? = some C.fn) (hl : ResA C.P σ C.fn.results.toList l) (hrv : oneA l = C.rv.ren m) (hk : KeepM m C.r0) (hr : WkR σ.r m C.r1) (hn : nodupB (idsM m C.r1) = true) : Run C (.code .ret :: k) σ := .mk fun a w hs => by
  obtain ⟨ι, F, S, hA⟩ := hs
  obtain ⟨us, h1, h2⟩ := resA_run hA.sw.hs hA.ts hl
  have key : ∃ u, (results C.fn a.tmps).run C.P w = .ok u w ∧ AVR ι S w (oneA l) u := by
    have hm : (C.fn.results.mapM (resF a.tmps)).run C.P w = Result.ok us.toArray w := by
      rw [Array.mapM_eq_mapM_toList]
      simp only [Sem.run_map, h1, Result.andThen_ok]
    refine ⟨_, by
      have he : results C.fn a.tmps = (do let vs ← C.fn.results.mapM (resF a.tmps); pure (if h : vs.size = 1 then vs[0] else .tuple vs)) := by
        unfold results
        congr 1
      rw [he, Sem.run_bind, hm, Result.andThen_ok]
      rfl, ?_⟩
    have hlen := h2.length
    match l, us, h2, hlen with
    | [x], [u], h2, _ =>
      simp only [AVRs] at h2
      obtain ⟨u', r, e, h3, _⟩ := h2
      cases e
      simpa [oneA] using h3
    | [], [], h2, _ => exact ⟨[], by simp, h2⟩
    | x :: y :: l, u :: v :: us, h2, _ => exact ⟨u :: v :: us, by simp, h2⟩
    | [x], [], _, h => simp at h
    | [x], _ :: _ :: _, _, h => simp at h
    | [], _ :: _, _, h => simp at h
    | _ :: _ :: _, [], _, h => simp at h
    | _ :: _ :: _, [_], _, h => simp at h
  obtain ⟨u, h3, h4⟩ := key
  intro b cs hbf hbk
  refine ⟨.returned u, w, { b.at a (.code .ret :: k) with mode := .returning }, ?_, .one step_ret, hbf, rfl, hA.df, hbk, C.fn, by show C.P.funcs[b.fn]? = _; rw [hbf]; exact hf, h3⟩
  rw [hrv] at h4
  refine ⟨fun g => ι (m g), fun g => F (m g), S, u, rfl, hA.sw.hs.ren hr hn, AVR.ren.1 h4, hA.sw.fut, fun g x hg hx => ?_, hA.sw.but, hA.sw.sb, fun g x hg hx => hA.sw.own _ _ (hr.look hg) (by rw [RK.live_ren]; exact hx)⟩
  show ι (m g) = C.ι0 g
  rw [hk.look hg]; exact hA.sw.keep g x hg hx
end Go.Proofs.YtpmeffdcbjakoaaDoor
