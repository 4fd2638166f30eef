/- VL, part 2: runs; control; how an operation is carried out. -/
import Derived.Test.YtpmeffdcbjakoaaDoorVL1
namespace Go.Proofs.YtpmeffdcbjakoaaDoor
set_option linter.unusedVariables false
set_option linter.unusedSimpArgs false
open Go.RowKit

/-- How the call ends. -/
def Cx.R (C : Cx) (e : Ending) (w' : World) : Prop :=
  ∃ ι' F' S' u, e = .returned u ∧ HeapSim C.r1 ι' F' S' w' ∧ AVR ι' S' w' C.rv u ∧ Fut C.S0 C.w0 S' w' ∧ (∀ g x, look C.r0 g = some x → x.live = true → ι' g = C.ι0 g) ∧ But C.D C.w0 w' ∧
    (∀ k, S' k → C.S0 k ∨ C.w0.heap.size ≤ k ∨ C.D k) ∧ (∀ g x, look C.r1 g = some x → x.live = true → ∀ k, F' g k → C.w0.heap.size ≤ k ∨ C.D k)

/-- A function's contract: out of these resources and arguments this result, and these resources. -/
def Fun (P : Program) (f : FuncId) (args : List AV) (r0 : List (Nat × RK)) (rv : AV) (r1 : List (Nat × RK)) : Prop :=
  ∀ (ι : Nat → Value) (F : Nat → Bl) (S : Bl) (w : World) (vals : List Value), HeapSim r0 ι F S w → AVRs ι S w args vals → Calls P f vals.toArray w (Cx.R ⟨P, f, default, 0, w, S, ι, F, r0, rv, r1⟩)

def Go_ (C : Cx) (k : List Item) (a : Act) (w : World) : Prop :=
  ∀ (b : Frame) (cs : List Frame), b.fn = C.f → b.kind = .normal → ∃ e w' fr, C.R e w' ∧ Comes C.P (lone (b.at a k) cs w) (lone fr cs w') e ∧ fr.fn = C.f ∧ fr.leaving C.P w' e
theorem Go_.step {C : Cx} {k k' : List Item} {a a' : Act} {w w' : World} (h : Go_ C k' a' w') (hs : ∀ (b : Frame) cs, Go.step C.P (lone (b.at a k) cs w) = .next (lone (b.at a' k') cs w')) : Go_ C k a w := fun b cs hf hk => by
  obtain ⟨e, w1, fr, h1, h2, h3, h4⟩ := h b cs hf hk
  exact ⟨e, w1, fr, h1, Comes.of_steps (.one (hs b cs)) h2, h3, h4⟩
theorem Go_.of_wp {C : Cx} {c : Code} {k : List Item} {a : Act} {w : World} (h : c.wp C.P (fun e a' w' => e = .normal ∧ Go_ C k a' w') a w) : Go_ C (.code c :: k) a w := fun b cs hf hk => by
  obtain ⟨e, a', w', ⟨rfl, hg⟩, harr⟩ := h b k cs
  obtain ⟨e, w1, fr, h1, h2, h3, h4⟩ := hg b cs hf hk
  exact ⟨e, w1, fr, h1, Comes.of_steps harr h2, h3, h4⟩

structure Run (C : Cx) (k : List Item) (σ : VS) : Prop where
  go : ∀ a w, Sim C σ a w → Go_ C k a w
structure RunL (C : Cx) (ops : Array Oper) (l : List Oper) (σ : VS) (k : List Item) : Prop where
  go : ∀ a w, Sim C σ a w → wpList C.P ops (fun e a' w' => e = .normal ∧ Go_ C k a' w') l a w

section
variable {C : Cx} {k : List Item} {σ : VS}
theorem run_seq {x y : Code} (h : Run C (.code x :: .code y :: k) σ) : Run C (.code (.seq x y) :: k) σ := .mk fun a w hs => (h.go a w hs).step fun _ _ => step_seq
theorem run_skip (h : Run C k σ) : Run C (.code .skip :: k) σ := .mk fun a w hs => (h.go a w hs).step fun _ _ => step_skip
theorem run_block {id : Nat} {c : Code} (h : Run C (.code c :: .inBlock id :: k) σ) : Run C (.code (.block id c) :: k) σ := .mk fun a w hs => (h.go a w hs).step fun _ _ => step_block
theorem run_inBlock {id : Nat} (h : Run C k σ) : Run C (.inBlock id :: k) σ := .mk fun a w hs => (h.go a w hs).step fun _ _ => step_inBlock
theorem run_exit {id : Nat} {k' : List Item} (he : exitTo id k = some k') (h : Run C k' σ) : Run C (.code (.exit id) :: k) σ := .mk fun a w hs => (h.go a w hs).step fun _ _ => step_exit he
theorem run_loop {c : Code} (h : Run C (.code c :: .inLoop c :: k) σ) : Run C (.code (.loop c) :: k) σ := .mk fun a w hs => (h.go a w hs).step fun _ _ => step_loop
theorem run_inLoop {c : Code} (h : Run C (.code c :: .inLoop c :: k) σ) : Run C (.inLoop c :: k) σ := .mk fun a w hs => (h.go a w hs).step fun _ _ => step_inLoop
/-- A loop: states by x, what holds of x, what goes down. -/
theorem run_while {α : Type} {c : Code} (St : α → VS) (I : α → Prop) (μ : α → Nat) (round : ∀ x, I x → (∀ y, I y → μ y < μ x → Run C (.inLoop c :: k) (St y)) → Run C (.code c :: .inLoop c :: k) (St x)) : ∀ x, I x → Run C (.code c :: .inLoop c :: k) (St x) := by
  have key : ∀ n x, μ x = n → I x → Run C (.code c :: .inLoop c :: k) (St x) := by
    intro n
    induction n using Nat.strongRecOn with
    | _ n ih => exact fun x hn hx => round x hx fun y hy hlt => run_inLoop (ih (μ y) (hn ▸ hlt) y rfl hy)
  exact fun x hx => key _ x rfl hx
theorem run_cond {x : Operand} {c d : Code} {b : Bool} (hx : evalA σ.t x = some (.v (.bool b))) (h1 : b = true → Run C (.code c :: k) σ) (h0 : b = false → Run C (.code d :: k) σ) : Run C (.code (.cond x c d) :: k) σ := .mk fun a w hs => by
  obtain ⟨ι, F, S, h⟩ := id hs
  have he : a.eval x = .bool b := by
    have := h.ts.eval hx
    simpa [AVR] using this
  cases b
  · exact ((h0 rfl).go a w hs).step fun _ _ => step_cond he
  · exact ((h1 rfl).go a w hs).step fun _ _ => step_cond he
theorem run_region {id : Nat} {l : List Oper} (h : RunL C l.toArray l σ k) : Run C (.code (.region id l.toArray false) :: k) σ := .mk fun a w hs => Go_.of_wp (wp_region_lit (h.go a w hs))
theorem runL_nil {ops : Array Oper} (h : Run C k σ) : RunL C ops [] σ k := .mk fun a w hs => ⟨rfl, h.go a w hs⟩
end

/-- What an operation comes to: a value (or nothing: undef), or what the call that it enters gives back. -/
def Does (P : Program) (s : Go.Sem Next) (w : World) (K : Value → World → Prop) : Prop :=
  match s.run P w with
  | .ok (.value v) w' => K v w'
  | .ok .skip w' => K undef w'
  | .ok (.enter f args) w' => Calls P f args w' (fun e w'' => ∃ v, e = .returned v ∧ K v w'')
  | _ => False
theorem Does.mono {P : Program} {s : Go.Sem Next} {w : World} {K K' : Value → World → Prop} (h : Does P s w K) (hk : ∀ v w', K v w' → K' v w') : Does P s w K' := by
  unfold Does at *
  split <;> simp_all
  exact h.mono fun e w' hh => by
    obtain ⟨v, h1, h2⟩ := hh
    exact ⟨v, h1, hk _ _ h2⟩
theorem Does.wp {P : Program} {o : Oper} {a : Act} {w : World} {next : Act → World → Prop} {Q : Exit → Act → World → Prop} (h : Does P (execOp a.eval o) w fun v w' => next (a.put o.dst v) w') : o.wp P a w next Q := by
  unfold Does at h
  unfold Oper.wp
  split at h
  · rename_i hr; rw [hr]; exact h
  · rename_i hr; rw [hr]; exact h
  · rename_i hr
    rw [hr, Oper.upon_enter]
    exact h.mono fun e w' hh => by
      obtain ⟨v, rfl, h2⟩ := hh
      exact h2
  · exact h.elim
theorem Does.value {P : Program} {s : Go.Sem Next} {w w' : World} {v : Value} {K : Value → World → Prop} (hr : s.run P w = .ok (.value v) w') (h : K v w') : Does P s w K := by
  unfold Does; rw [hr]; exact h
theorem Does.skip {P : Program} {s : Go.Sem Next} {w w' : World} {K : Value → World → Prop} (hr : s.run P w = .ok .skip w') (h : K undef w') : Does P s w K := by
  unfold Does; rw [hr]; exact h

/-- Is the operation carried out: known of its guard? -/
def wantedA (t : List (Nat × AV)) (ops : Array Oper) (o : Oper) : Option Bool :=
  match o.guard with
  | none => some true
  | some (j, want) =>
    match ops[j]? with
    | none => none
    | some oj =>
      match oj.dst with
      | none => none
      | some d =>
        match look t d with
        | some (.v x) => match x with
          | .bool b => some (b == want)
          | _ => some false
        | _ => none
def yieldV (u : Value) : Option Bool := match u with | .bool b => some b | _ => none
theorem wantedA_of {t : List (Nat × AV)} {ops : Array Oper} {o : Oper} {b : Bool} {ι : Nat → Value} {S : Bl} {w : World} {a : Act} (hw : wantedA t ops o = some b) (h : TS t ι S w a) : Region.wanted o (yielded ops a.tmps) = b := by
  unfold wantedA at hw
  unfold Region.wanted
  cases hg : o.guard with
  | none => simp only [hg] at hw ⊢; simpa using hw
  | some p =>
    obtain ⟨j, want⟩ := p
    simp only [hg] at hw ⊢
    cases hj : ops[j]? with
    | none => simp [hj] at hw
    | some oj =>
      simp only [hj] at hw
      cases hd : oj.dst with
      | none => simp [hd] at hw
      | some d =>
        simp only [hd] at hw
        cases hl : look t d with
        | none => simp [hl] at hw
        | some x =>
          cases x <;> simp only [hl] at hw <;> try (cases hw)
          rename_i x
          obtain ⟨u, h1, h2⟩ := h d _ hl
          simp only [AVR] at h2
          subst h2
          have : yielded ops a.tmps j = yieldV u := by
            unfold yielded yieldV
            simp only [hj, hd, Option.bind_some, h1]
            cases u <;> rfl
          rw [this]
          cases u <;> simp only at hw <;> cases hw
          all_goals first | rfl | (rename_i b0; cases b0 <;> cases want <;> rfl)

def Rd (t : List (Nat × AV)) : List (Operand × AV) → Prop
  | [] => True
  | p :: l => evalA t p.1 = some p.2 ∧ Rd t l
theorem Rd.all {t : List (Nat × AV)} : ∀ {l : List (Operand × AV)}, Rd t l → ∀ p ∈ l, evalA t p.1 = some p.2
  | [], _, p, hp => by cases hp
  | q :: l, h, p, hp => by
    rcases List.mem_cons.1 hp with rfl | hp
    · exact h.1
    · exact Rd.all h.2 p hp

/-- An operation that leaves the resources alone: out of its operands' values this value. -/
def OpPure (C : Cx) (r : List (Nat × RK)) (o : Oper) (rd : List (Operand × AV)) (V : AV) : Prop :=
  ∀ ι F S w (ρ : Operand → Value), SimW C r ι F S w → (∀ p ∈ rd, AVR ι S w p.2 (ρ p.1)) → Does C.P (execOp ρ o) w fun u w' => ∃ S', SimW C r ι F S' w' ∧ Fut S w S' w' ∧ AVR ι S' w' V u

section
variable {C : Cx} {k : List Item} {t : List (Nat × AV)} {r : List (Nat × RK)} {ops : Array Oper} {o : Oper} {rest : List Oper}
theorem runL_pure {d : Nat} {V : AV} (rd : List (Operand × AV)) (hg : wantedA t ops o = some true) (hd : o.dst = some d) (hn : Nat.blt d C.N = true) (hr : Rd t rd) (h : OpPure C r o rd V) (hk : RunL C ops rest ⟨(d, V) :: t, r⟩ k) : RunL C ops (o :: rest) ⟨t, r⟩ k := .mk fun a w hs => by
  obtain ⟨ι, F, S, hA⟩ := hs
  have hw := wantedA_of hg hA.ts
  have hdo := h ι F S w a.eval hA.sw (fun p hp => hA.ts.eval (hr.all p hp))
  refine wpList_step fun K hK => ?_
  rw [if_pos hw]
  refine Does.wp (hdo.mono fun u w' hu => ?_)
  obtain ⟨S', h1, h2, h3⟩ := hu
  refine hK _ _ (hk.go _ _ ⟨ι, F, S', h1, ?_, ?_, ?_⟩)
  · rw [hd]; exact hA.ts.put h2 (fun _ _ _ _ _ => rfl) (by rw [hA.sz]; exact Nat.le_of_ble_eq_true hn) h3
  · rw [hd]; simp [Act.put, hA.sz]
  · rw [hd]; simp [Act.put, hA.df]
theorem runL_pure0 {V : AV} (rd : List (Operand × AV)) (hg : wantedA t ops o = some true) (hd : o.dst = none) (hr : Rd t rd) (h : OpPure C r o rd V) (hk : RunL C ops rest ⟨t, r⟩ k) : RunL C ops (o :: rest) ⟨t, r⟩ k := .mk fun a w hs => by
  obtain ⟨ι, F, S, hA⟩ := hs
  have hw := wantedA_of hg hA.ts
  have hdo := h ι F S w a.eval hA.sw (fun p hp => hA.ts.eval (hr.all p hp))
  refine wpList_step fun K hK => ?_
  rw [if_pos hw]
  refine Does.wp (hdo.mono fun u w' hu => ?_)
  obtain ⟨S', h1, h2, h3⟩ := hu
  refine hK _ _ (hk.go _ _ ⟨ι, F, S', h1, ?_, ?_, ?_⟩)
  · rw [hd]; exact hA.ts.fut h2 (fun _ _ _ _ _ => rfl)
  · rw [hd]; exact hA.sz
  · rw [hd]; exact hA.df
/-- The guard says no. -/
theorem runL_off {d : Nat} (hg : wantedA t ops o = some false) (hd : o.dst = some d) (hn : Nat.blt d C.N = true) (hk : RunL C ops rest ⟨(d, .v undef) :: t, r⟩ k) : RunL C ops (o :: rest) ⟨t, r⟩ k := .mk fun a w hs => by
  obtain ⟨ι, F, S, hA⟩ := hs
  have hw := wantedA_of hg hA.ts
  refine wpList_step fun K hK => ?_
  rw [if_neg (by rw [hw]; simp)]
  refine hK _ _ (hk.go _ _ ⟨ι, F, S, hA.sw, ?_, ?_, ?_⟩)
  · rw [hd]; exact hA.ts.put (Fut.refl _ _) (fun _ _ _ _ _ => rfl) (by rw [hA.sz]; exact Nat.le_of_ble_eq_true hn) (by simp [AVR])
  · rw [hd]; simp [Act.put, hA.sz]
  · rw [hd]; simp [Act.put, hA.df]
theorem runL_off0 (hg : wantedA t ops o = some false) (hd : o.dst = none) (hk : RunL C ops rest ⟨t, r⟩ k) : RunL C ops (o :: rest) ⟨t, r⟩ k := .mk fun a w hs => by
  obtain ⟨ι, F, S, hA⟩ := id hs
  have hw := wantedA_of hg hA.ts
  refine wpList_step fun K hK => ?_
  rw [if_neg (by rw [hw]; simp)]
  refine hK _ _ ?_
  rw [hd]
  exact hk.go _ _ hs
/-- Two ways, by the bool in a slot. -/
theorem runL_split (n : Nat) {b : Bool} {l : List Oper} (hb : look t n = some (.v (.bool b))) (h1 : b = true → RunL C ops l ⟨(n, .v (.bool true)) :: t, r⟩ k) (h0 : b = false → RunL C ops l ⟨(n, .v (.bool false)) :: t, r⟩ k) : RunL C ops l ⟨t, r⟩ k := .mk fun a w hs => by
  obtain ⟨ι, F, S, hA⟩ := hs
  have key : ∀ b', b = b' → Sim C ⟨(n, .v (.bool b')) :: t, r⟩ a w := fun b' e => by
    refine ⟨ι, F, S, hA.sw, fun m x hx => ?_, hA.sz, hA.df⟩
    rw [look_cons] at hx
    by_cases hm : n = m
    · subst hm
      rw [if_pos rfl] at hx
      cases hx
      rw [← e]
      exact hA.ts n _ hb
    · rw [if_neg hm] at hx
      exact hA.ts m x hx
  cases b
  · exact (h0 rfl).go a w (key _ rfl)
  · exact (h1 rfl).go a w (key _ rfl)
/-- A claim that follows. -/
theorem runL_know {l : List Oper} (n : Nat) {x y : AV} (hx : look t n = some x) (hy : ∀ ι F S w u, SimW C r ι F S w → AVR ι S w x u → AVR ι S w y u) (h : RunL C ops l ⟨(n, y) :: t, r⟩ k) : RunL C ops l ⟨t, r⟩ k := .mk fun a w hs => by
  obtain ⟨ι, F, S, hA⟩ := hs
  refine h.go a w ⟨ι, F, S, hA.sw, fun m z hz => ?_, hA.sz, hA.df⟩
  rw [look_cons] at hz
  by_cases hm : n = m
  · subst hm
    rw [if_pos rfl] at hz
    cases hz
    obtain ⟨u, h1, h2⟩ := hA.ts n _ hx
    exact ⟨u, h1, hy _ _ _ _ _ hA.sw h2⟩
  · rw [if_neg hm] at hz
    exact hA.ts m z hz
theorem run_know (n : Nat) {x y : AV} (hx : look t n = some x) (hy : ∀ ι F S w u, SimW C r ι F S w → AVR ι S w x u → AVR ι S w y u) (h : Run C k ⟨(n, y) :: t, r⟩) : Run C k ⟨t, r⟩ := .mk fun a w hs => by
  obtain ⟨ι, F, S, hA⟩ := hs
  refine h.go a w ⟨ι, F, S, hA.sw, fun m z hz => ?_, hA.sz, hA.df⟩
  rw [look_cons] at hz
  by_cases hm : n = m
  · subst hm
    rw [if_pos rfl] at hz
    cases hz
    obtain ⟨u, h1, h2⟩ := hA.ts n _ hx
    exact ⟨u, h1, hy _ _ _ _ _ hA.sw h2⟩
  · rw [if_neg hm] at hz
    exact hA.ts m z hz
end
end Go.Proofs.YtpmeffdcbjakoaaDoor
