/- The giver (package ids), by VL. -/
import Derived.Test.YtpmeffdcbjakoaaVL15
import Derived.Laws.LoneSync
import Derived.WalkSpells
import Derived.WalkKit
import Derived.ProofKit
namespace Go.Proofs.Ytpmeffdcbjakoaa
set_option linter.unusedVariables false
set_option linter.unusedSimpArgs false
set_option maxRecDepth 100000
open Go.RowKit

/-- A box of two numbers. -/
abbrev twoB (T : TypeId) (n l : Int) : List (Nat × RK) := [(0, .box T [.v (.int .i64 n), .v (.int .i64 l)])]
/-- A walk over a box of two numbers, as a contract. -/
theorem fun_two {P : Program} {f : FuncId} {T : TypeId} {n l n' : Int} {vs : List Value} {u : Value} (h : ∀ (b : Nat) (w : World), Blk w b T #[.int .i64 n, .int .i64 l] → Calls P f (Value.pointer (some ⟨b, 0, none⟩) :: vs).toArray w fun e w' => e = .returned u ∧ Blk w' b T #[.int .i64 n', .int .i64 l] ∧ But (fun k => k = b) w w') : Fun P f (.ptr 0 0 :: vs.map .v) (twoB T n l) (.v u) (twoB T n' l) := fun ι F S w vals hh hv => by
  have hval : ∀ {l vals : List Value}, AVRs ι S w (l.map .v) vals → vals = l := by
    intro l
    induction l with
    | nil => intro vals h; simpa [AVRs] using h
    | cons x l ih =>
      intro vals h
      simp only [List.map_cons, AVRs, AVR] at h
      obtain ⟨u, r, rfl, rfl, h2⟩ := h
      rw [ih h2]
  obtain ⟨b, e1, e2, cs, e3, e4⟩ := hh.bx 0 T _ rfl
  have hcs : cs = #[.int .i64 n, .int .i64 l] := by
    simp only [AVRs, AVR] at e4
    obtain ⟨_, _, h1, rfl, _, _, rfl, rfl, rfl⟩ := e4
    exact Array.toList_inj.1 h1
  subst hcs
  simp only [AVRs] at hv
  obtain ⟨u0, r, rfl, hp, hr⟩ := hv
  simp only [AVR] at hp
  obtain ⟨b', hb', rfl⟩ := hp
  rw [e1] at hb'
  obtain rfl : b = b' := by simpa [baseOf] using hb'
  rw [hval hr]
  refine (h b w e3).mono fun e w' ⟨he, hB, hbut⟩ => ?_
  have hlt := (Array.getElem?_eq_some_iff.1 e3).1
  have hnS : ¬ S b := hh.out 0 _ rfl rfl b ((e2 b).2 rfl)
  have hD : ∀ k, F 0 k → Dom (twoB T n l) F k := fun k hk => ⟨0, _, rfl, rfl, hk⟩
  have look1 : ∀ {g : Nat} {x : RK}, look (twoB T n' l) g = some x → g = 0 := fun {g x} hg => by
    simp only [twoB, look_cons] at hg
    split at hg
    · rename_i e; exact e.symm
    · cases hg
  refine ⟨ι, F, S, u, he, ⟨fun g T' l' hg => ?_, fun g R hg => ?_, fun g g' x x' hg hg' _ _ hne => ?_, fun g x hg hx k hk => ?_, fun k hk => Nat.lt_of_lt_of_le (hh.bnd k hk) hbut.size⟩, by simp [AVR], ⟨fun _ h => h, fun k hk hl => hbut.block k hl fun e => hnS (e ▸ hk)⟩, fun _ _ _ _ => rfl, ?_, fun k hk => .inl hk, fun g x hg hx k hk => ?_⟩
  · obtain rfl := look1 hg
    simp only [twoB, look_cons, if_true] at hg
    cases hg
    exact ⟨b, e1, e2, _, hB, ⟨_, _, rfl, rfl, _, _, rfl, rfl, rfl⟩⟩
  · obtain rfl := look1 hg
    simp only [twoB, look_cons, if_true] at hg
    cases hg
  · exact absurd ((look1 hg).trans (look1 hg').symm) hne
  · obtain rfl := look1 hg
    exact hh.out 0 _ rfl rfl k hk
  · exact hbut.mono fun k _ e => hD k ((e2 k).2 e)
  · obtain rfl := look1 hg
    exact .inr (hD k hk)
theorem load_v (T : TypeId) (n l : Int) : Fun Try.prog 43 [.ptr 0 0] (twoB T n l) (.v (.int .i64 n)) (twoB T n l) := fun_two (vs := []) fun b w hB => by
  have h0 := hB.cell 0
  have hl := run_call_load (P := Try.prog) Try.func65 (by kernel_rfl) (by kernel_rfl) (by kernel_rfl) .i64 (by kernel_rfl) h0
  show Calls _ _ #[.pointer (some ⟨b, 0, none⟩)] _ _
  go_enter Try.func43, Try.ntmps43
  go_wp2
  go_ret
  exact ⟨rfl, hB, But.refl _ _⟩
theorem cas_v (T : TypeId) (n l m : Int) : Fun Try.prog 44 [.ptr 0 0, .v (.int .i64 n), .v (.int .i64 m)] (twoB T n l) (.v (.bool true)) (twoB T m l) := fun_two (vs := [.int .i64 n, .int .i64 m]) fun b w hB => by
  have h0 := hB.cell 0
  have z0 := hB.frozen 0
  have hl := run_call_cas_hit (P := Try.prog) Try.func66 (by kernel_rfl) (by kernel_rfl) (by kernel_rfl) .i64 (by kernel_rfl) (y := m) h0 z0
  show Calls _ _ #[.pointer (some ⟨b, 0, none⟩), .int .i64 n, .int .i64 m] _ _
  go_enter Try.func44, Try.ntmps44
  go_wp2
  go_ret
  exact ⟨rfl, hB.set_ 0 _, But.set _ _ _ rfl⟩
section
variable {C : Cx} {k : List Item} {t : List (Nat × AV)} {r : List (Nat × RK)} {ops : Array Oper} {rest : List Oper} {o : Oper}
variable {d : Nat} {ty : TypeId} {pos : String} {af : Array Edge} {x y : Operand} {a b : Int} {ts : Array TypeId}
theorem op_max (ho : o.op = .call { callee := .builtin .max, args := #[x, y], argTypes := ts }) : OpPure C r o [(x, .v (.int .i64 a)), (y, .v (.int .i64 b))] (.v (.int .i64 (if b > a then b else a))) := OpPure.here fun ι F S w ρ hs hr => by
  have h1 := hr (x, .v (.int .i64 a)) (by simp)
  have h2 := hr (y, .v (.int .i64 b)) (by simp)
  simp only [AVR] at h1 h2
  refine ⟨.int .i64 (if b > a then b else a), ?_, by simp [AVR]⟩
  simp [execOp, ho, resolve, invoke, builtin, run_max_int2, h1, h2]
theorem v_max (hx : evalA t x = some (.v (.int .i64 a))) (hy : evalA t y = some (.v (.int .i64 b))) (hn : Nat.blt d C.N = true) (hk : RunL C ops rest ⟨(d, .v (.int .i64 (if b > a then b else a))) :: t, r⟩ k) : RunL C ops (⟨some d, .call { callee := .builtin .max, args := #[x, y], argTypes := ts }, ty, pos, af, none⟩ :: rest) ⟨t, r⟩ k := runL_pure _ rfl rfl hn (rd2 hx hy) (op_max rfl) hk
end
def limM (a : Int) : Int := if 0 > a then 0 else a
theorem new_v (a : Int) : Fun Try.prog 14 [.v (.int .i64 a)] [] (.ptr 0 0) (twoB 38 0 (limM a)) := by
  refine fun_intro 7 Try.func14 rfl rfl rfl (fun ι F S w => ?_)
  (repeat (first | (apply v_max; exact rfl; exact rfl; exact rfl) | (apply v_move; exact rfl; exact rfl) | (apply v_assign; exact rfl; exact rfl) | refine run_seq ?_ | refine run_region ?_ | refine runL_nil ?_ | (apply v_boxD; exact rfl; exact rfl; exact rfl; exact rfl; exact rfl; exact rfl; exact rfl) | (apply v_b; exact plA rfl; exact tyA rfl; exact rfl; exact rfl; exact rfl)))
  exact run_ret (mp [(0, 6)]) _ Try.func14 ⟨_, _, rfl, rfl, rfl⟩ rfl trivial ⟨rfl, trivial⟩ rfl
def giveM (n l : Int) : Int := if n < l then n + 1 else 0
def lastM (n l : Int) : Int := if n < l then n + 1 else n
theorem next_v {n l : Int} (h0 : 0 ≤ n) (h1 : l ≤ 9223372036854775807) : Fun Try.prog 15 [.ptr 0 0] (twoB 38 n l) (.v (.int .i64 (giveM n l))) (twoB 38 (lastM n l) l) := by
  have hl := load_v 38 n l
  have hc := cas_v 38 n l (n + 1)
  by_cases h : n < l
  · rw [giveM, lastM, if_pos h, if_pos h]
    refine fun_intro 25 Try.func15 rfl rfl rfl (fun ι F S w => ?_)
    (repeat (first | (apply v_move; exact rfl; exact rfl) | (apply v_assign; exact rfl; exact rfl) | refine run_seq ?_ | refine run_region ?_ | refine runL_nil ?_ | refine run_skip ?_ | refine run_block ?_ | (apply run_cond; exact rfl; (focus (intro hb; cases hb; done)); intro hb; clear hb) | (apply v_eqlNil; exact ptA rfl; exact rfl; exact NN.ptr; exact rfl)))
    refine v_loop (fun _ : Unit => ⟨[(0, .ptr 0 0)], twoB 38 n l⟩) (fun _ => True) (fun _ => 0) () idN ⟨rfl, trivial⟩ (by repeat (first | exact trivial | refine ⟨rfl, ?_⟩)) (by repeat (first | exact trivial | refine ⟨rfl, ?_⟩)) rfl trivial fun _ _ ih => ?_
    clear ih
    (repeat (first | (apply v_cSx; exact rfl; exact cbA rfl; (first | exact hl); (repeat (first | exact trivial | refine ⟨rfl, ?_⟩)); exact rfl; exact rfl; exact rfl; exact rfl; exact rfl) | (apply v_move; exact rfl; exact rfl) | (apply v_assign; exact rfl; exact rfl) | refine run_seq ?_ | refine run_region ?_ | refine runL_nil ?_ | refine run_block ?_ | (apply v_fldP; exact flA rfl; exact rfl; exact rfl; exact rfl) | (apply v_loadB; exact tyA rfl; exact rfl; exact rfl; exact rfl; exact rfl; exact rfl; exact rfl) | (apply v_geq; exact rfl; exact rfl; exact rfl) | (apply v_nilCheck; exact rfl; exact NN.ptr; exact rfl)))
    refine run_condN rfl (by simpa using h) ?_
    (repeat (first | (apply v_move; exact rfl; exact rfl) | refine run_seq ?_ | refine run_region ?_ | refine run_skip ?_ | (apply v_fldP; exact flA rfl; exact rfl; exact rfl; exact rfl) | (apply v_nilCheck; exact rfl; exact NN.ptr; exact rfl) | (apply v_add; exact rfl; exact rfl; exact rfl; exact (by omega))))
    refine v_cR idN hc rfl (cbA rfl) ⟨rfl, trivial⟩ (by kernel_rfl) (by kernel_rfl) (by kernel_rfl) (by kernel_rfl) (by kernel_rfl) (by kernel_rfl) (by kernel_rfl) (by kernel_rfl) rfl ?_
    (repeat (first | (apply v_move; exact rfl; exact rfl) | (apply v_assign; exact rfl; exact rfl) | refine run_seq ?_ | refine run_region ?_ | refine runL_nil ?_ | (apply run_cond; exact rfl; rotate_left; (focus (intro hb; cases hb; done)); intro hb; clear hb) | (apply v_add; exact rfl; exact rfl; exact rfl; exact (by omega))))
    exact run_ret idN _ Try.func15 ⟨_, _, rfl, rfl, rfl⟩ rfl ⟨rfl, trivial⟩ ⟨rfl, trivial⟩ rfl
  · rw [giveM, lastM, if_neg h, if_neg h]
    refine fun_intro 25 Try.func15 rfl rfl rfl (fun ι F S w => ?_)
    (repeat (first | (apply v_move; exact rfl; exact rfl) | (apply v_assign; exact rfl; exact rfl) | refine run_seq ?_ | refine run_region ?_ | refine runL_nil ?_ | refine run_skip ?_ | refine run_block ?_ | (apply run_cond; exact rfl; (focus (intro hb; cases hb; done)); intro hb; clear hb) | (apply v_eqlNil; exact ptA rfl; exact rfl; exact NN.ptr; exact rfl)))
    refine v_loop (fun _ : Unit => ⟨[(0, .ptr 0 0)], twoB 38 n l⟩) (fun _ => True) (fun _ => 0) () idN ⟨rfl, trivial⟩ (by repeat (first | exact trivial | refine ⟨rfl, ?_⟩)) (by repeat (first | exact trivial | refine ⟨rfl, ?_⟩)) rfl trivial fun _ _ ih => ?_
    clear ih
    (repeat (first | (apply v_cSx; exact rfl; exact cbA rfl; (first | exact hl); (repeat (first | exact trivial | refine ⟨rfl, ?_⟩)); exact rfl; exact rfl; exact rfl; exact rfl; exact rfl) | (apply v_move; exact rfl; exact rfl) | (apply v_assign; exact rfl; exact rfl) | refine run_seq ?_ | refine run_region ?_ | refine runL_nil ?_ | refine run_block ?_ | (apply v_fldP; exact flA rfl; exact rfl; exact rfl; exact rfl) | (apply v_loadB; exact tyA rfl; exact rfl; exact rfl; exact rfl; exact rfl; exact rfl; exact rfl) | (apply v_geq; exact rfl; exact rfl; exact rfl) | (apply v_nilCheck; exact rfl; exact NN.ptr; exact rfl)))
    refine run_condY rfl (by simpa using h) ?_
    (repeat (first | (apply v_assign; exact rfl; exact rfl) | refine run_seq ?_ | refine run_region ?_ | refine runL_nil ?_))
    exact run_ret idN _ Try.func15 ⟨_, _, rfl, rfl, rfl⟩ rfl ⟨rfl, trivial⟩ ⟨rfl, trivial⟩ rfl
theorem last_v (n l : Int) : Fun Try.prog 16 [.ptr 0 0] (twoB 38 n l) (.v (.int .i64 n)) (twoB 38 n l) := by
  have hl := load_v 38 n l
  refine fun_intro 9 Try.func16 rfl rfl rfl (fun ι F S w => ?_)
  (repeat (first | (apply v_cSx; exact rfl; exact cbA rfl; (first | exact hl); (repeat (first | exact trivial | refine ⟨rfl, ?_⟩)); exact rfl; exact rfl; exact rfl; exact rfl; exact rfl) | (apply v_move; exact rfl; exact rfl) | (apply v_assign; exact rfl; exact rfl) | refine run_seq ?_ | refine run_region ?_ | refine runL_nil ?_ | refine run_skip ?_ | (apply v_fldP; exact flA rfl; exact rfl; exact rfl; exact rfl) | (apply run_cond; exact rfl; (focus (intro hb; cases hb; done)); intro hb; clear hb) | (apply v_eqlNil; exact ptA rfl; exact rfl; exact NN.ptr; exact rfl) | (apply v_nilCheck; exact rfl; exact NN.ptr; exact rfl)))
  exact run_ret idN _ Try.func16 ⟨_, _, rfl, rfl, rfl⟩ rfl ⟨rfl, trivial⟩ ⟨rfl, trivial⟩ rfl
def isV (n k : Int) : Bool := if 1 ≤ k then decide (k ≤ n) else false
theorem is_v (n l k : Int) : Fun Try.prog 18 [.ptr 0 0, .v (.int .i64 k)] (twoB 38 n l) (.v (.bool (isV n k))) (twoB 38 n l) := by
  have hl := last_v n l
  by_cases h : 1 ≤ k
  · rw [isV, if_pos h]
    refine fun_intro 13 Try.func18 rfl rfl rfl (fun ι F S w => ?_)
    (repeat (first | (apply v_move; exact rfl; exact rfl) | (apply v_assign; exact rfl; exact rfl) | refine run_seq ?_ | refine run_region ?_ | refine runL_nil ?_ | (apply v_geq; exact rfl; exact rfl; exact rfl)))
    refine v_is 7 true rfl (by simpa using h) ?_
    (repeat (first | (apply v_cSx; exact rfl; exact cbA rfl; (first | exact hl); (repeat (first | exact trivial | refine ⟨rfl, ?_⟩)); exact rfl; exact rfl; exact rfl; exact rfl; exact rfl) | (apply v_move; exact rfl; exact rfl) | (apply v_assign; exact rfl; exact rfl) | refine runL_nil ?_ | (apply v_on; exact rfl) | (apply v_pick_t; exact rfl; exact rfl; exact rfl) | (apply v_leq; exact rfl; exact rfl; exact rfl)))
    exact run_ret idN _ Try.func18 ⟨_, _, rfl, rfl, rfl⟩ rfl ⟨rfl, trivial⟩ ⟨rfl, trivial⟩ rfl
  · rw [isV, if_neg h]
    refine fun_intro 13 Try.func18 rfl rfl rfl (fun ι F S w => ?_)
    (repeat (first | (apply v_move; exact rfl; exact rfl) | (apply v_assign; exact rfl; exact rfl) | refine run_seq ?_ | refine run_region ?_ | refine runL_nil ?_ | (apply v_geq; exact rfl; exact rfl; exact rfl)))
    refine v_is 7 false rfl (by simpa using h) ?_
    (repeat (first | (apply v_assign; exact rfl; exact rfl) | refine runL_nil ?_ | (apply v_off; exact rfl; exact rfl) | (apply v_pick_f; exact rfl; exact rfl; exact rfl)))
    exact run_ret idN _ Try.func18 ⟨_, _, rfl, rfl, rfl⟩ rfl ⟨rfl, trivial⟩ ⟨rfl, trivial⟩ rfl
theorem next_n : Fun Try.prog 15 [.v (.pointer none)] [] (.v (.int .i64 0)) [] := by
  refine fun_intro 25 Try.func15 rfl rfl rfl (fun ι F S w => ?_)
  (repeat (first | (apply v_move; exact rfl; exact rfl) | (apply v_assign; exact rfl; exact rfl) | refine run_seq ?_ | refine run_region ?_ | refine runL_nil ?_ | (apply run_cond; exact rfl; rotate_left; (focus (intro hb; cases hb; done)); intro hb; clear hb) | (apply v_nilEql; exact ptA rfl; exact rfl; exact rfl)))
  exact run_ret idN _ Try.func15 ⟨_, _, rfl, rfl, rfl⟩ rfl trivial trivial rfl
theorem last_n : Fun Try.prog 16 [.v (.pointer none)] [] (.v (.int .i64 0)) [] := by
  refine fun_intro 9 Try.func16 rfl rfl rfl (fun ι F S w => ?_)
  (repeat (first | (apply v_move; exact rfl; exact rfl) | (apply v_assign; exact rfl; exact rfl) | refine run_seq ?_ | refine run_region ?_ | refine runL_nil ?_ | (apply run_cond; exact rfl; rotate_left; (focus (intro hb; cases hb; done)); intro hb; clear hb) | (apply v_nilEql; exact ptA rfl; exact rfl; exact rfl)))
  exact run_ret idN _ Try.func16 ⟨_, _, rfl, rfl, rfl⟩ rfl trivial trivial rfl
theorem is_n (k : Int) : Fun Try.prog 18 [.v (.pointer none), .v (.int .i64 k)] [] (.v (.bool false)) [] := by
  by_cases h : 1 ≤ k
  · refine fun_intro 13 Try.func18 rfl rfl rfl (fun ι F S w => ?_)
    (repeat (first | (apply v_move; exact rfl; exact rfl) | (apply v_assign; exact rfl; exact rfl) | refine run_seq ?_ | refine run_region ?_ | refine runL_nil ?_ | (apply v_geq; exact rfl; exact rfl; exact rfl)))
    refine v_is 7 true rfl (by simpa using h) ?_
    (repeat (first | (apply v_cx; exact rfl; exact cbA rfl; (first | exact last_n); exact rfl; exact rfl) | (apply v_move; exact rfl; exact rfl) | (apply v_assign; exact rfl; exact rfl) | refine runL_nil ?_ | (apply v_on; exact rfl) | (apply v_pick_t; exact rfl; exact rfl; exact rfl) | (apply v_leq; exact rfl; exact rfl; exact rfl)))
    exact run_ret idN _ Try.func18 ⟨_, _, rfl, rfl, rfl⟩ (by show AV.v (.bool (decide (k ≤ 0))) = _; rw [decide_eq_false (by omega)]; rfl) trivial trivial rfl
  · refine fun_intro 13 Try.func18 rfl rfl rfl (fun ι F S w => ?_)
    (repeat (first | (apply v_move; exact rfl; exact rfl) | (apply v_assign; exact rfl; exact rfl) | refine run_seq ?_ | refine run_region ?_ | refine runL_nil ?_ | (apply v_geq; exact rfl; exact rfl; exact rfl)))
    refine v_is 7 false rfl (by simpa using h) ?_
    (repeat (first | (apply v_assign; exact rfl; exact rfl) | refine runL_nil ?_ | (apply v_off; exact rfl; exact rfl) | (apply v_pick_f; exact rfl; exact rfl; exact rfl)))
    exact run_ret idN _ Try.func18 ⟨_, _, rfl, rfl, rfl⟩ rfl trivial trivial rfl
theorem refnext_v {n l : Int} (h0 : 0 ≤ n) (h1 : l ≤ 9223372036854775807) : Fun Try.prog 17 [.ptr 0 0] (twoB 30 n l) (.v (.int .i64 (giveM n l))) (twoB 30 (lastM n l) l) := by
  by_cases h : n < l
  · rw [giveM, lastM, if_pos h, if_pos h]
    refine fun_intro 23 Try.func17 rfl rfl rfl (fun ι F S w => ?_)
    (repeat (first | (apply v_assign; exact rfl; exact rfl) | refine run_seq ?_ | refine run_region ?_ | refine runL_nil ?_))
    refine run_draws (by kernel_rfl) (by kernel_rfl) ?_
    (repeat (first | (apply p_move; exact rfl; exact rfl; exact rfl) | (apply p_fldP; exact flA rfl; exact rfl; exact rfl; exact rfl; exact rfl) | (apply p_loadB; exact tyA rfl; exact rfl; exact rfl; exact rfl; exact rfl; exact rfl; exact rfl; exact rfl) | (apply p_geq; exact rfl; exact rfl; exact rfl; exact rfl) | (apply p_nilCheck; exact rfl; exact NNf.ptr; exact rfl; exact rfl)))
    refine planL_nil (by kernel_rfl) ?_
    refine run_condN rfl (by simpa using h) ?_
    (repeat (first | (apply v_move; exact rfl; exact rfl) | (apply v_assign; exact rfl; exact rfl) | refine run_seq ?_ | refine run_region ?_ | refine runL_nil ?_ | refine run_skip ?_ | (apply v_fldP; exact flA rfl; exact rfl; exact rfl; exact rfl) | (apply v_loadB; exact tyA rfl; exact rfl; exact rfl; exact rfl; exact rfl; exact rfl; exact rfl) | (apply v_nilCheck; exact rfl; exact NN.ptr; exact rfl) | (apply v_storeB; exact tyA rfl; exact rfl; exact rfl; exact rfl; exact rfl; exact rfl; exact rfl; exact rfl) | (apply v_add; exact rfl; exact rfl; exact rfl; exact (by omega))))
    exact run_ret idN _ Try.func17 ⟨_, _, rfl, rfl, rfl⟩ rfl ⟨rfl, trivial⟩ ⟨rfl, trivial⟩ rfl
  · rw [giveM, lastM, if_neg h, if_neg h]
    refine fun_intro 23 Try.func17 rfl rfl rfl (fun ι F S w => ?_)
    (repeat (first | (apply v_assign; exact rfl; exact rfl) | refine run_seq ?_ | refine run_region ?_ | refine runL_nil ?_))
    refine run_draws (by kernel_rfl) (by kernel_rfl) ?_
    (repeat (first | (apply p_move; exact rfl; exact rfl; exact rfl) | (apply p_fldP; exact flA rfl; exact rfl; exact rfl; exact rfl; exact rfl) | (apply p_loadB; exact tyA rfl; exact rfl; exact rfl; exact rfl; exact rfl; exact rfl; exact rfl; exact rfl) | (apply p_geq; exact rfl; exact rfl; exact rfl; exact rfl) | (apply p_nilCheck; exact rfl; exact NNf.ptr; exact rfl; exact rfl)))
    refine planL_nil (by kernel_rfl) ?_
    refine run_condY rfl (by simpa using h) ?_
    (repeat (first | (apply v_assign; exact rfl; exact rfl) | refine run_seq ?_ | refine run_region ?_ | refine runL_nil ?_))
    exact run_ret idN _ Try.func17 ⟨_, _, rfl, rfl, rfl⟩ rfl ⟨rfl, trivial⟩ ⟨rfl, trivial⟩ rfl
end Go.Proofs.Ytpmeffdcbjakoaa
