/- VL, part 15: a map of its own, from integers to truth: a set. -/
import Derived.Test.YtpmeffdcbjakoaaDoorVL14
import Derived.MapFrom
namespace Go.Proofs.YtpmeffdcbjakoaaDoor
set_option linter.unusedVariables false
set_option linter.unusedSimpArgs false
open Go.RowKit
open Go.MapKept (IsKey)

/-- The entries are those of a set. -/
def FitM (es : Array MapEntry) (M : List Int) : Prop := (∀ x ∈ es.toList, ∃ n : Int, x.key = .int .i64 n ∧ x.val = .bool true ∧ n ∈ M) ∧ ∀ n ∈ M, ∃ x ∈ es.toList, x.key = .int .i64 n
def mapS (M : List Int) : Res where
  H := fun w S F v => ∃ b es clock, v = .map (some b) ∧ (∀ k, F k ↔ k = b) ∧ w.heap[b]? = some (.map es clock) ∧ FitM es M
  one := by
    rintro w S F v ⟨b, es, clock, rfl, _⟩
    rfl
  bnd := by
    rintro w S F v ⟨b, es, clock, rfl, hF, hb, _⟩ k hk
    rw [hF] at hk
    subst hk
    exact (Array.getElem?_eq_some_iff.1 hb).1
  fut := by
    rintro w w' S S' F v hm hw ⟨b, es, clock, rfl, hF, hb, h⟩
    exact ⟨b, es, clock, rfl, hF, by rw [hw b (.inr ((hF b).2 rfl)) (Array.getElem?_eq_some_iff.1 hb).1]; exact hb, h⟩
def zeroV (P : Program) (T : TypeId) : Option Value := (P.info? T).bind fun i => i.zero
theorem zeroV_run {P : Program} {T : TypeId} {z : Value} (h : zeroV P T = some z) (w : World) : (zeroValue T).run P w = .ok z w := by
  unfold zeroV at h
  cases hi : P.info? T with
  | none => rw [hi] at h; cases h
  | some i =>
    rw [hi] at h
    simp only [Option.bind_some] at h
    simp [zeroValue, typeInfo, hi, h]
def mapK (P : Program) (T : TypeId) : Option (TypeId × TypeId) := match P.underlying T with | some (.map k e) => some (k, e) | _ => none
theorem mapK_spec {P : Program} {T k e : TypeId} (h : mapK P T = some (k, e)) : P.underlying T = some (.map k e) := by
  unfold mapK at h
  split at h
  · next h1 => cases h; exact h1
  · cases h
section
variable {C : Cx} {r : List (Nat × RK)} {o : Oper} {x y z : Operand} {ty kt et : TypeId} {g : Nat}
theorem op_makeMap (g : Nat) (ho : o.op = .makeMap ty none) (hf : freshR g r = true) (h0 : look C.r0 g = none) : OpEff C r o [] (.res g) ((g, .obj (mapS [])) :: r) [g] := fun ι F S w ρ hs hr => by
  have hrun : (Instr.makeMap ty none).run C.P w = .ok (.map (some w.heap.size)) (w.alloc (.map #[] 0)) := by
    simp [Instr.makeMap]
  have hb : Below w.heap.size w (w.alloc (.map #[] 0)) := (Below.refl _ _).alloc (Nat.le_refl _) _
  have hw := hs.same hb
  have hFut : Fut S w S (w.alloc (.map #[] 0)) := ⟨fun _ h => h, fun k _ hk => hb.block k hk⟩
  refine Does.value (v := .map (some w.heap.size)) (w' := w.alloc (.map #[] 0)) (by simp [execOp, ho, hrun]) ?_
  refine ⟨_, _, S, hw.add (g := g) (x := .obj (mapS [])) (v := .map (some w.heap.size)) (G := fun k => k = w.heap.size) hf h0 (fun T l e => by cases e) (fun R e => ?_) (fun k hk => ?_) (fun k hk hS => ?_) (fun g' y hg' hy hne k hk hk' => ?_), hFut, fun j hj => newI_other (mem_one hj), ?_⟩
  · cases e
    exact ⟨w.heap.size, #[], 0, rfl, fun _ => Iff.rfl, heap_alloc_new w _, fun x hx => by simp at hx, fun n hn => by simp at hn⟩
  · subst hk; exact .inl hs.but.size
  · subst hk; have := hs.hs.bnd _ hS; omega
  · subst hk'; have := hs.hs.lt hg' hy hk; omega
  · simp only [AVR, newI_same]
    exact ⟨trivial, rfl⟩
theorem op_lookup {n : Int} {M : List Int} (ho : o.op = .lookup ty x y false) (hg : look r g = some (.obj (mapS M))) (hm : mapK C.P ty = some (kt, et)) (hk : C.P.underlying kt = some (.int .i64)) (hz : zeroV C.P et = some (.bool false)) : OpPure C r o [(x, .res g), (y, .v (.int .i64 n))] (.v (.bool (decide (n ∈ M)))) := OpPure.here fun ι F S w ρ hs hr => by
  have hx := hr (x, .res g) (by simp)
  have hy := hr (y, .v (.int .i64 n)) (by simp)
  simp only [AVR] at hx hy
  obtain ⟨b, es, clock, hv, hF, hb, h1, h2⟩ := hs.hs.ob g _ hg
  have hkey : IsKey (.int .i64) (.int .i64 n) := rfl
  have hks : ∀ x ∈ es.toList, IsKey (.int .i64) x.key := fun x hx => by
    obtain ⟨m, h3, _⟩ := h1 x hx
    rw [h3]; rfl
  refine ⟨.bool (decide (n ∈ M)), ?_, by simp [AVR]⟩
  have hrun : (Instr.lookup ty (.map (some b)) (.int .i64 n) false).run C.P w = .ok (.bool (decide (n ∈ M))) w := by
    rcases Go.MapKept.findNow_spec hkey es.toList 0 hks with ⟨h3, h4⟩ | ⟨j, e, h3, h4, h5⟩
    · have hn : n ∉ M := fun hn => by
        obtain ⟨x, hx, he⟩ := h2 n hn
        exact h4 x hx he
      simp [Instr.lookup, run_underlying (mapK_spec hm), Go.MapKept.run_getObj_map hb, Go.MapKept.run_checkKey hk hkey, Go.MapKept.run_findKey hk h3, zeroV_run hz, Result.andThen, hn]
    · obtain ⟨m, h6, h7, h8⟩ := h1 e (List.mem_of_getElem? h4)
      have hn : n ∈ M := by
        rw [h6] at h5
        cases h5
        exact h8
      simp [Instr.lookup, run_underlying (mapK_spec hm), Go.MapKept.run_getObj_map hb, Go.MapKept.run_checkKey hk hkey, Go.MapKept.run_findKey hk h3, Result.andThen, hn, h7]
  simp [execOp, ho, hx.1, hv, hy, hrun]
theorem op_mapUpdate {n : Int} {M : List Int} (ho : o.op = .mapUpdate ty x y z) (hg : look r g = some (.obj (mapS M))) (hm : mapK C.P ty = some (kt, et)) (hk : C.P.underlying kt = some (.int .i64)) : OpEff C r o [(x, .res g), (y, .v (.int .i64 n)), (z, .v (.bool true))] (.v undef) ((g, .obj (mapS (n :: M))) :: r) [] := fun ι F S w ρ hs hr => by
  have hx := hr (x, .res g) (by simp)
  have hy := hr (y, .v (.int .i64 n)) (by simp)
  have hz := hr (z, .v (.bool true)) (by simp)
  simp only [AVR] at hx hy hz
  obtain ⟨b, es, clock, hv, hF, hb, h1, h2⟩ := hs.hs.ob g _ hg
  have hkey : IsKey (.int .i64) (.int .i64 n) := rfl
  have hks : ∀ x ∈ es.toList, IsKey (.int .i64) x.key := fun x hx => by
    obtain ⟨m, h3, _⟩ := h1 x hx
    rw [h3]; rfl
  have hrun : ∃ es' clock', (Instr.mapUpdate ty (.map (some b)) (.int .i64 n) (.bool true)).run C.P w = .ok () { w with heap := w.heap.setIfInBounds b (.map es' clock') } ∧ FitM es' (n :: M) := by
    rcases Go.MapKept.findNow_spec hkey es.toList 0 hks with ⟨h3, h4⟩ | ⟨j, e, h3, h4, h5⟩
    · refine ⟨es.push ⟨.int .i64 n, .bool true, clock⟩, clock + 1, ?_, fun x hx => ?_, fun m hm => ?_⟩
      · simp [Instr.mapUpdate, run_underlying (mapK_spec hm), Go.MapKept.run_getObj_map hb, Go.MapKept.run_checkKey hk hkey, Go.MapKept.run_findKey hk h3, Go.MapKept.run_setObj_map _ hb, Result.andThen]
      · simp only [Array.toList_push, List.mem_append, List.mem_singleton] at hx
        rcases hx with hx | rfl
        · obtain ⟨m, h6, h7, h8⟩ := h1 x hx
          exact ⟨m, h6, h7, List.mem_cons_of_mem _ h8⟩
        · exact ⟨n, rfl, rfl, List.mem_cons_self⟩
      · simp only [Array.toList_push, List.mem_append, List.mem_singleton]
        rcases List.mem_cons.1 hm with rfl | hm
        · exact ⟨_, .inr rfl, rfl⟩
        · obtain ⟨x, hx, he⟩ := h2 m hm
          exact ⟨x, .inl hx, he⟩
    · have hj : es[j]? = some e := by simpa using h4
      refine ⟨es.modify j (fun e' => { e' with key := .int .i64 n, val := .bool true }), clock, ?_, fun x hx => ?_, fun m hm => ?_⟩
      · simp [Instr.mapUpdate, run_underlying (mapK_spec hm), Go.MapKept.run_getObj_map hb, Go.MapKept.run_checkKey hk hkey, Go.MapKept.run_findKey hk h3, hj, h5, Go.MapKept.run_keyThatStays hkey, Go.MapKept.run_setObj_map _ hb, Result.andThen]
      · rcases MapFrom.mem_modify hx with hx | ⟨e', _, rfl⟩
        · obtain ⟨m, h6, h7, h8⟩ := h1 x hx
          exact ⟨m, h6, h7, List.mem_cons_of_mem _ h8⟩
        · exact ⟨n, rfl, rfl, List.mem_cons_self⟩
      · have hjl : j < es.size := (Array.getElem?_eq_some_iff.1 hj).1
        have hnew : ∃ x ∈ (es.modify j (fun e' => { e' with key := .int .i64 n, val := .bool true })).toList, x.key = .int .i64 n := by
          refine ⟨{ e with key := .int .i64 n, val := .bool true }, List.mem_of_getElem? (i := j) ?_, rfl⟩
          rw [Array.getElem?_toList, Array.getElem?_modify, if_pos rfl, hj]
          rfl
        rcases List.mem_cons.1 hm with rfl | hm
        · exact hnew
        · obtain ⟨x, hx, he⟩ := h2 m hm
          obtain ⟨i, hi⟩ := List.getElem?_of_mem hx
          by_cases hij : j = i
          · subst hij
            rw [h4] at hi
            cases hi
            rw [he] at h5
            cases h5
            exact hnew
          · refine ⟨x, List.mem_of_getElem? (i := i) ?_, he⟩
            rw [Array.getElem?_toList, Array.getElem?_modify, if_neg hij]
            simpa using hi
  obtain ⟨es', clock', hrun, hfit⟩ := hrun
  obtain ⟨hs1, hs2⟩ := Go.MapKept.heap_set (o' := .map es' clock') hb
  have hbut : But (F g) w { w with heap := w.heap.setIfInBounds b (.map es' clock') } := ⟨rfl, rfl, rfl, by simp, fun k _ hn => hs2 k fun e => hn ((hF k).2 e)⟩
  have hFut : Fut S w S { w with heap := w.heap.setIfInBounds b (.map es' clock') } := ⟨fun _ h => h, fun k hk hl => hbut.block k hl fun hf => hs.hs.out g _ hg rfl k hf hk⟩
  obtain ⟨hw, _⟩ := hs.turn (x' := .obj (mapS (n :: M))) hg rfl hbut (fun T l' e => by cases e) (fun R e0 => by
    cases e0
    exact ⟨b, es', clock', hv, hF, hs1, hfit⟩)
  refine Does.skip (w' := { w with heap := w.heap.setIfInBounds b (.map es' clock') }) ?_ ⟨ι, F, S, hw, hFut, fun _ _ => rfl, by simp [AVR]⟩
  simp [execOp, ho, hx.1, hv, hy, hz, hrun]
end
section
variable {C : Cx} {k : List Item} {t : List (Nat × AV)} {r : List (Nat × RK)} {ops : Array Oper} {rest : List Oper}
variable {d : Nat} {ty ty' kt et : TypeId} {pos : String} {af : Array Edge} {x y z : Operand} {g : Nat}
/-- Less is known, by other names. -/
theorem runL_weak (m : Nat → Nat) {l : List Oper} {σ σ2 : VS} (hk : KeepM m C.r0) (hr : WkR σ.r m σ2.r) (ht : WkT σ.t m σ2.t) (hn : nodupB (idsM m σ2.r) = true) (h : RunL C ops l σ2 k) : RunL C ops l σ k := .mk fun a w hs => by
  obtain ⟨ι, F, S, hA⟩ := hs
  refine h.go a w ⟨fun g => ι (m g), fun g => F (m g), S, ⟨hA.sw.hs.ren hr hn, hA.sw.but, fun g x hg hx => hA.sw.own _ _ (hr.look hg) (by rw [RK.live_ren]; exact hx), hA.sw.sb, hA.sw.fut, fun g x hg hx => ?_⟩, fun n x hx => ?_, hA.sz, hA.df⟩
  · rw [hk.look hg]; exact hA.sw.keep g x hg hx
  · obtain ⟨u, h1, h2⟩ := hA.ts n _ (ht.look hx)
    exact ⟨u, h1, AVR.ren.1 h2⟩
theorem v_makeMap (hf : freshR d r = true) (hft : freshT d t = true) (h0 : look C.r0 d = none) (hn : Nat.blt d C.N = true) (hk : RunL C ops rest ⟨(d, .res d) :: t, (d, .obj (mapS [])) :: r⟩ k) : RunL C ops (⟨some d, .makeMap ty' none, ty, pos, af, none⟩ :: rest) ⟨t, r⟩ k :=
  runL_eff [] [d] rfl rfl hn trivial (by simp [freshTs, hft]) (op_makeMap d rfl hf h0) hk
theorem v_lookup {n : Int} {M : List Int} (hm : mapK C.P ty' = some (kt, et)) (hkt : C.P.underlying kt = some (.int .i64)) (hz : zeroV C.P et = some (.bool false)) (hx : evalA t x = some (.res g)) (hg : look r g = some (.obj (mapS M))) (hy : evalA t y = some (.v (.int .i64 n))) (hn : Nat.blt d C.N = true) (hk : RunL C ops rest ⟨(d, .v (.bool (decide (n ∈ M)))) :: t, r⟩ k) : RunL C ops (⟨some d, .lookup ty' x y false, ty, pos, af, none⟩ :: rest) ⟨t, r⟩ k :=
  runL_pure _ rfl rfl hn (rd2 hx hy) (op_lookup rfl hg hm hkt hz) hk
theorem v_mapUpdate {n : Int} {M : List Int} (hm : mapK C.P ty' = some (kt, et)) (hkt : C.P.underlying kt = some (.int .i64)) (hx : evalA t x = some (.res g)) (hg : look r g = some (.obj (mapS M))) (hy : evalA t y = some (.v (.int .i64 n))) (hz : evalA t z = some (.v (.bool true))) (hn : RunL C ops rest ⟨t, (g, .obj (mapS (n :: M))) :: r⟩ k) : RunL C ops (⟨none, .mapUpdate ty' x y z, ty, pos, af, none⟩ :: rest) ⟨t, r⟩ k :=
  runL_eff0 _ [] rfl rfl (rdX hx (rd2 hy hz)) rfl (op_mapUpdate rfl hg hm hkt) hn
end
end Go.Proofs.YtpmeffdcbjakoaaDoor
