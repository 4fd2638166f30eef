/- ProgTells: a program with too many operations; an own row, lent; rules. -/
import Derived.Test.YtpmeffdcbjakoaaDoorOp11
namespace Go.Proofs.YtpmeffdcbjakoaaDoor
set_option linter.unusedVariables false
set_option linter.unusedSimpArgs false
set_option maxRecDepth 100000
open Go.RowKit

/-- Operations, without word of the tables. -/
def opW : Enc OpD where
  sz := 6
  f := fun x => [.v (.int .i64 x.code), .v (.int .i64 x.a), .v (.int .i64 x.b), .v (.int .i64 x.c), .v (.int .i64 x.d), .v (.string x.s)]
  len := fun _ => rfl
  leaf := fun _ => rfl
theorem LeL.app : ∀ {a a' b b' : List AV}, LeL a a' → LeL b b' → LeL (a ++ b) (a' ++ b')
  | [], [], _, _, _, h => h
  | x :: a, y :: a', _, _, ⟨h1, h2⟩, h => ⟨h1, LeL.app h2 h⟩
  | [], _ :: _, _, _, h, _ => h.elim
  | _ :: _, [], _, _, h, _ => h.elim
theorem opW_all : ∀ xs : List OpD, LeL (opE.all xs) (opW.all xs)
  | [] => trivial
  | x :: xs => LeL.app (a := opE.f x) (a' := opW.f x) ⟨codeS_le _, Le.refl, Le.refl, Le.refl, Le.refl, Le.refl, trivial⟩ (opW_all xs)
theorem opW_le (xs : List OpD) : Le (.sem (listS opE xs)) (.sem (listS opW xs)) := fun ι S w u h => by
  simp only [AVR] at h ⊢
  obtain ⟨A, c, h1, h2, h3⟩ := h
  refine ⟨A, c, h1, h2, ?_⟩
  rcases h3 with h3 | ⟨b, off, h4, h5, us, h6, h7⟩
  · left
    have l1 := opE.all_len xs
    rw [h3] at l1
    have l2 := opW.all_len xs
    exact List.eq_nil_of_length_eq_zero (l2.trans (show xs.length * opW.sz = 0 from l1.symm))
  · exact .inr ⟨b, off, h4, h5, us, (opW_all xs).R h6, h7⟩
theorem countG_f {α : Type} {E : Enc α} {main : List α} {calls : List (List OpD)} (hc : main.length + sumL calls ≤ 9223372036854775807) (hl : calls.length ≤ 9223372036854775807) : Fun Tryd.prog 10 [.agg [.sem (listS E main), .sem (listS callE calls)]] [] (.v (.int .i64 (main.length + sumL calls : Nat))) [] := by
  refine fun_intro 22 Tryd.func10 rfl rfl rfl (fun ι F S w => ?_)
  (repeat (first | (apply v_move; exact rfl; exact rfl) | (apply v_assign; exact rfl; exact rfl) | refine run_seq ?_ | refine run_region ?_ | refine runL_nil ?_ | refine run_block ?_ | (apply v_fldP; exact flA rfl; exact rfl; exact rfl; exact rfl) | (apply v_loadB; exact tyA rfl; exact rfl; exact rfl; exact rfl; exact rfl; exact rfl; exact rfl) | (apply v_lenL; exact slA rfl; exact rfl; exact rfl) | (apply v_boxD; exact rfl; exact rfl; exact rfl; exact rfl; exact rfl; exact rfl; exact rfl)))
  refine v_loop (fun q : Nat × Int => ⟨[(1, .ptr 1 0), (10, .sem (listS callE calls)), (11, .v (.int .i64 calls.length)), (12, .v (.int .i64 q.1)), (3, .v (.int .i64 q.2))], [(1, .box 25 [.sem (listS E main), .sem (listS callE calls)])]⟩) (fun q => q.1 ≤ calls.length ∧ q.2 = (main.length + sumL (calls.take q.1) : Nat)) (fun q => calls.length - q.1) (0, (main.length : Int)) idN trivial (by repeat (first | exact trivial | refine ⟨rfl, ?_⟩)) (by repeat (first | exact trivial | refine ⟨rfl, ?_⟩)) rfl ⟨by simp, by simp [sumL]⟩ fun ⟨i, s⟩ ⟨hi, hs⟩ ih => ?_
  dsimp only at hi hs ⊢
  (repeat (first | refine run_seq ?_ | refine run_region ?_ | refine runL_nil ?_ | (apply v_lss; exact rfl; exact rfl; exact rfl)))
  refine run_cond rfl (fun hb => ?_) (fun hb => ?_)
  · have hlt : i < calls.length := by simpa using hb
    obtain ⟨l, hx⟩ : ∃ l, calls[i]? = some l := ⟨_, List.getElem?_eq_getElem hlt⟩
    have hx2 : calls[((i : Int)).toNat]? = some l := by rw [show ((i : Int)).toNat = i by omega]; exact hx
    have hs2 := sumL_succ hx
    have hle := sumL_le calls (i + 1)
    (repeat (first | (apply v_idxL; exact slA rfl; exact tyA rfl; exact rfl; exact rfl; exact rfl; exact rfl; exact (by omega); (first | exact hx2); exact rfl) | (apply v_move; exact rfl; exact rfl) | (apply v_assign; exact rfl; exact rfl) | refine run_seq ?_ | refine run_region ?_ | refine runL_nil ?_ | refine run_skip ?_ | refine run_block ?_ | refine run_inBlock ?_ | (apply v_loadA; exact tyA rfl; exact rfl; exact rfl; exact rfl; exact rfl; exact rfl; exact rfl) | (apply v_lenL; exact slA rfl; exact rfl; exact rfl) | (apply v_add; exact rfl; exact rfl; exact rfl; exact (by omega))))
    exact v_again ih (i + 1, s + l.length) idN trivial (by repeat (first | exact trivial | refine ⟨rfl, ?_⟩)) (by repeat (first | exact trivial | refine ⟨rfl, ?_⟩)) rfl ⟨by simp only; omega, by simp only; omega⟩ (by simp only; omega)
  · have hge : i = calls.length := by have : ¬ i < calls.length := (by simpa using hb); omega
    subst hge
    rw [List.take_length] at hs
    rw [← hs]
    clear ih
    (repeat (first | (apply v_move; exact rfl; exact rfl) | (apply v_assign; exact rfl; exact rfl) | refine run_seq ?_ | refine run_region ?_ | refine runL_nil ?_ | (apply run_exit; exact rfl)))
    exact run_ret idN _ Tryd.func10 ⟨_, _, rfl, rfl, rfl⟩ rfl trivial trivial rfl
theorem checkBig_f {α : Type} {E : Enc α} {main : List α} {calls : List (List OpD)} (hc : main.length + sumL calls ≤ 9223372036854775807) (hl : calls.length ≤ 9223372036854775807) (hb : 4096 < main.length) : Fun Tryd.prog 7 [.agg [.sem (listS E main), .sem (listS callE calls)]] [] (.tup [.v (.int .i64 0), .v (.int .i64 0), .v (.int .i64 9)]) [] := by
  by_cases h1 : 64 < calls.length
  · refine fun_intro 40 Tryd.func7 rfl rfl rfl (fun ι F S w => ?_)
    (repeat (first | (apply v_move; exact rfl; exact rfl) | (apply v_assign; exact rfl; exact rfl) | refine run_seq ?_ | refine run_region ?_ | refine runL_nil ?_ | (apply v_fldP; exact flA rfl; exact rfl; exact rfl; exact rfl) | (apply v_loadB; exact tyA rfl; exact rfl; exact rfl; exact rfl; exact rfl; exact rfl; exact rfl) | (apply v_gtr; exact rfl; exact rfl; exact rfl) | (apply v_lenL; exact slA rfl; exact rfl; exact rfl) | (apply v_boxD; exact rfl; exact rfl; exact rfl; exact rfl; exact rfl; exact rfl; exact rfl)))
    refine v_is 13 true rfl (by simp; omega) ?_
    (repeat (first | (apply v_assign; exact rfl; exact rfl) | refine run_seq ?_ | refine run_region ?_ | refine runL_nil ?_ | (apply v_off; exact rfl; exact rfl) | (apply v_pick_t; exact rfl; exact rfl; exact rfl) | (apply run_cond; exact rfl; rotate_left; (focus (intro hb; cases hb; done)); intro hb; clear hb)))
    exact run_ret idN _ Tryd.func7 ⟨_, _, rfl, rfl, _, _, rfl, rfl, _, _, rfl, rfl, rfl⟩ rfl trivial trivial rfl
  · have hcf := countG_f (E := E) hc hl
    refine fun_intro 40 Tryd.func7 rfl rfl rfl (fun ι F S w => ?_)
    (repeat (first | (apply v_move; exact rfl; exact rfl) | (apply v_assign; exact rfl; exact rfl) | refine run_seq ?_ | refine run_region ?_ | refine runL_nil ?_ | (apply v_fldP; exact flA rfl; exact rfl; exact rfl; exact rfl) | (apply v_loadB; exact tyA rfl; exact rfl; exact rfl; exact rfl; exact rfl; exact rfl; exact rfl) | (apply v_gtr; exact rfl; exact rfl; exact rfl) | (apply v_lenL; exact slA rfl; exact rfl; exact rfl) | (apply v_boxD; exact rfl; exact rfl; exact rfl; exact rfl; exact rfl; exact rfl; exact rfl)))
    refine v_is 13 false rfl (by simp; omega) ?_
    (repeat (first | (apply v_cx; exact rfl; exact cbA rfl; (first | exact hcf); exact rfl; exact rfl) | refine runL_nil ?_ | (apply v_loadB; exact tyA rfl; exact rfl; exact rfl; exact rfl; exact rfl; exact rfl; exact rfl) | (apply v_on; exact rfl) | (apply v_pick_f; exact rfl; exact rfl; exact rfl) | (apply v_gtr; exact rfl; exact rfl; exact rfl)))
    refine run_condY rfl (by simp; omega) ?_
    (repeat (first | (apply v_assign; exact rfl; exact rfl) | refine run_seq ?_ | refine run_region ?_ | refine runL_nil ?_))
    exact run_ret idN _ Tryd.func7 ⟨_, _, rfl, rfl, _, _, rfl, rfl, _, _, rfl, rfl, rfl⟩ rfl trivial trivial rfl
/-- A contract on a list that is public serves an own row. -/
theorem lend1 {α : Type} {P : Program} {f : FuncId} {e1 : TypeId} {E1 : Enc α} {xs : List α} {bs : List AV} {u : Value} (hh : Fun P f (.sem (listS E1 xs) :: bs) [] (.v u) []) : Fun P f (.res 0 :: bs) [(0, .obj (ownS e1 E1 xs))] (.v u) [(0, .obj (ownS e1 E1 xs))] := fun ι F S w vals hs hv => by
  have l0 : look [(0, RK.obj (ownS e1 E1 xs))] 0 = some (.obj (ownS e1 E1 xs)) := rfl
  have ho0 := hs.ob 0 _ l0
  let S2 : Bl := fun k => S k ∨ F 0 k
  have hF : Fut S w S2 w := ⟨fun _ h => .inl h, fun _ _ _ => rfl⟩
  simp only [AVRs, AVR] at hv
  obtain ⟨p, vs, rfl, ⟨rfl, _⟩, hvs⟩ := hv
  have hbnd : ∀ k, S2 k → k < w.heap.size := fun k hk => by
    rcases hk with hk | hk
    · exact hs.bnd k hk
    · exact hs.lt l0 rfl hk
  have c0 : (listS E1 xs).R w S2 (ι 0) := ownS_list ho0 (fun k hk => .inl hk) (fun k hk => .inr hk)
  refine (hh ι F S2 w (_ :: vs) ⟨fun _ _ _ h => (by cases h), fun _ _ h => (by cases h), fun _ _ _ _ h => (by cases h), fun _ _ h => (by cases h), hbnd⟩ ⟨_, vs, rfl, by simpa [AVR] using c0, hvs.fut hF fun _ _ => rfl⟩).mono fun e w' hh2 => ?_
  obtain ⟨ι', F', S', u', rfl, h1, h2, h3, h4, h5, h6, h7⟩ := hh2
  have hb : Below w.heap.size w w' := ⟨h5.os, h5.tape, h5.output, h5.size, fun k hk => h5.block k hk (fun ⟨_, _, h, _⟩ => by cases h)⟩
  have hF' : Fut S w S w' := ⟨fun _ h => h, fun k _ hk => hb.block k hk⟩
  simp only [AVR] at h2
  subst h2
  refine ⟨ι, F, S, u', rfl, hs.step hF' (fun g x hg hx k hk => hb.block k (hs.lt hg hx hk)) hs.out (fun k hk => Nat.lt_of_lt_of_le (hs.bnd k hk) hb.size), by simp [AVR], hF', fun _ _ _ _ => rfl, But.of_below hb, fun k hk => .inl hk, fun g x hg hx k hk => .inr ⟨g, x, hg, hx, hk⟩⟩
end Go.Proofs.YtpmeffdcbjakoaaDoor
