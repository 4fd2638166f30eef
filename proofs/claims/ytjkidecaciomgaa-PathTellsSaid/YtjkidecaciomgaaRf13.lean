/- The reference 14: Make. -/
import Derived.Test.YtjkidecaciomgaaRf12
import Derived.Test.YtjkidecaciomgaaBP
namespace Go.Proofs.Ytjkidecaciomgaa
set_option linter.unusedVariables false
set_option linter.unusedSimpArgs false
set_option maxRecDepth 100000
open Go.RowKit

/-- What the loop of the reference's Make has. -/
inductive MkI (l : List Nd) (target related : Int) (comp : Bool) (up : List Int) : Nat → Int → List St → Prop
  | first : MkI l target related comp up 0 target []
  | next {i n m : Nat} {t f c : Int} {out : List St} : up[i]? = some f → up.drop (i + 1) = wayN (evP l target comp) n c → itF (evP l target comp) n c = 0 → itF (evP l target comp) m c = 0 → out.length = i + 1 → out ++ pathGo l target related comp m t f c = pathM l target related comp → MkI l target related comp up (i + 1) t out
theorem make14 {l : List Nd} (h : WF l) (target related : Int) (comp : Bool) : Fun Try.prog 129 [.sem (listS nodeE l), .v (.int .i64 target), .v (.int .i64 related), .v (.bool comp)] [] (.sem (listS stE (pathM l target related comp))) [] := by
  refine Fun.freeze (e := 94) ?_
  have hlen := h.len
  have hul := upM_len h target comp
  have hup := up14 h target comp
  have hth : ∀ c ∈ upM l target comp, ∃ y, nodeAt l c = some y := fun c hc => by
    unfold upM at hc
    cases hx : nodeAt l target with
    | none => rw [if_pos hx] at hc; cases hc
    | some y => rw [if_neg (by rw [hx]; simp)] at hc; exact way_there h target comp 129 target (.inr ⟨y, hx⟩) c hc
  have hu0 : upM l target comp = [] → pathM l target related comp = [] := fun e => by
    cases hx : nodeAt l target with
    | none => rw [pathM, if_pos hx]
    | some y =>
      rw [upM, if_neg (by rw [hx]; simp), wayN_succ _ _ (by have := nodeAt_some hx; omega)] at e
      cases e
  have hu1 : ∀ c, (upM l target comp)[0]? = some c → c = target ∧ (upM l target comp).drop 1 = wayN (evP l target comp) 128 (evP l target comp target) ∧ (∃ y, nodeAt l target = some y) := fun c e => by
    cases hx : nodeAt l target with
    | none => rw [upM, if_pos hx] at e; cases e
    | some y =>
      have e2 : upM l target comp = target :: wayN (evP l target comp) 128 (evP l target comp target) := by
        rw [upM, if_neg (by rw [hx]; simp), wayN_succ _ _ (by have := nodeAt_some hx; omega)]
      rw [e2] at e ⊢
      cases e
      exact ⟨rfl, rfl, y, rfl⟩
  have hz : ∀ y, nodeAt l target = some y → itF (evP l target comp) 129 (evP l target comp target) = 0 ∧ itF (evP l target comp) 128 (evP l target comp target) = 0 := fun y hy => ⟨ev_129 h target comp (ev_there h target comp target), ev_129 h target comp (.inr ⟨y, hy⟩)⟩
  generalize upM l target comp = up at *
  refine fun_intro 89 Try.func129 rfl rfl rfl (fun ι F S w => ?_)
  (repeat (first | (apply v_move; exact rfl; exact rfl) | (apply v_assign; exact rfl; exact rfl) | refine run_seq ?_ | refine run_region ?_ | refine runL_nil ?_))
  refine runL_own 9 9 94 stE rfl rfl rfl rfl ?_
  (repeat (first | (apply v_cx; exact rfl; exact cbA rfl; (first | exact hup); exact rfl; exact rfl) | (apply v_move; exact rfl; exact rfl) | (apply v_assign; exact rfl; exact rfl) | refine run_seq ?_ | refine run_region ?_ | refine runL_nil ?_ | refine run_block ?_))
  refine v_loop (fun q : Nat × Int × List St => ⟨[(0, .sem (listS nodeE l)), (1, .v (.int .i64 target)), (2, .v (.int .i64 related)), (9, .res 9), (10, .sem (listS intE up)), (11, .v (.int .i64 q.2.1)), (12, .v (.int .i64 q.1))], [(9, .obj (ownS 94 stE q.2.2))]⟩) (fun q => q.1 ≤ up.length ∧ MkI l target related comp up q.1 q.2.1 q.2.2) (fun q => up.length - q.1) (0, target, []) idN trivial (by repeat (first | exact trivial | refine ⟨rfl, ?_⟩)) (by repeat (first | exact trivial | refine ⟨rfl, ?_⟩)) rfl ⟨by simp, .first⟩ fun ⟨i, t, out⟩ ⟨hi, hI⟩ ih => ?_
  dsimp only at hi hI ⊢
  (repeat (first | (apply v_move; exact rfl; exact rfl) | refine run_seq ?_ | refine run_region ?_ | refine runL_nil ?_ | (apply v_lss; exact rfl; exact rfl; exact rfl) | (apply v_lenL; exact slA rfl; exact rfl; exact rfl)))
  refine run_cond rfl (fun hb => ?_) (fun hb => ?_)
  · have hlt : i < up.length := by simpa using hb
    have hxu : up[((i : Int)).toNat]? = some up[i] := by simp [hlt]
    have hc := hth _ (List.getElem_mem hlt)
    have hxi : up[i]? = some up[i] := List.getElem?_eq_getElem hlt
    generalize up[i] = c at *
    obtain ⟨y, hy⟩ := hc
    have ha := aim10 h related c
    have hcl := closed14 h hy
    generalize hA : aimM l related c = x at *
    generalize hC : isClosed l c = c1 at *
    cases hI with
    | first =>
      obtain ⟨rfl, hdr, _⟩ := hu1 c hxi
      obtain ⟨hz1, hz2⟩ := hz y hy
      have ho : pathM l c related comp = if x = c ∧ related ≠ c then [] else stM l c c x false :: pathGo l c related comp 129 c c (evP l c comp c) := by rw [pathM, if_neg (by rw [hy]; simp), hA]
      (repeat (first | (apply v_idxL; exact slA rfl; exact tyA rfl; exact rfl; exact rfl; exact rfl; exact rfl; exact (by omega); (first | exact hxu); exact rfl) | (apply v_cx; exact rfl; exact cbA rfl; (first | exact ha | exact hcl); exact rfl; exact rfl) | (apply v_move; exact rfl; exact rfl) | (apply v_assign; exact rfl; exact rfl) | refine run_seq ?_ | refine run_region ?_ | refine runL_nil ?_ | refine run_skip ?_ | refine run_block ?_ | (apply v_fldP; exact flA rfl; exact rfl; exact rfl; exact rfl) | (apply v_loadB; exact tyA rfl; exact rfl; exact rfl; exact rfl; exact rfl; exact rfl; exact rfl) | (apply v_loadA; exact tyA rfl; exact rfl; exact rfl; exact rfl; exact rfl; exact rfl; exact rfl) | (apply run_cond; exact rfl; rotate_left; (focus (intro hb; cases hb; done)); intro hb; clear hb) | (apply v_eql; exact rfl; exact rfl; exact rfl) | (apply v_allocD; exact tyA rfl; exact rfl; exact rfl; exact rfl; exact rfl) | (apply v_storeW; exact tyA rfl; exact rfl; exact rfl; exact rfl; exact rfl; exact rfl; exact rfl; exact rfl) | (apply v_b; exact plA rfl; exact tyA rfl; exact rfl; exact rfl; exact rfl)))
      by_cases hB : x = c ∧ related ≠ c
      · rw [if_pos hB] at ho
        refine v_is 45 true rfl (by simpa using hB.1) ?_
        (repeat (first | (apply v_move; exact rfl; exact rfl) | refine runL_nil ?_ | (apply v_on; exact rfl) | (apply v_pick_t; exact rfl; exact rfl; exact rfl) | (apply v_neq; exact rfl; exact rfl; exact rfl)))
        refine run_condY rfl (by simpa using hB.2) ?_
        (repeat (first | (apply v_move; exact rfl; exact rfl) | (apply v_assign; exact rfl; exact rfl) | refine run_seq ?_ | refine run_region ?_ | refine runL_nil ?_))
        exact run_ret (mp [(0, 9)]) _ Try.func129 ⟨_, _, rfl, rfl, rfl⟩ rfl trivial ⟨by rw [ho]; rfl, trivial⟩ rfl
      · rw [if_neg hB] at ho
        have hnew : MkI l c related comp up 1 c [⟨c, c, x, c1, false⟩] := .next (i := 0) hxi hdr hz2 hz1 rfl (by rw [ho, stM, hC]; rfl)
        by_cases h1 : x = c
        · have h2 : related = c := Classical.byContradiction fun e => hB ⟨h1, e⟩
          refine v_is 45 true rfl (by simpa using h1) ?_
          (repeat (first | (apply v_move; exact rfl; exact rfl) | refine runL_nil ?_ | (apply v_on; exact rfl) | (apply v_pick_t; exact rfl; exact rfl; exact rfl) | (apply v_neq; exact rfl; exact rfl; exact rfl)))
          refine run_condN rfl (by simpa using h2) ?_
          (repeat (first | (apply v_move; exact rfl; exact rfl) | refine run_region ?_ | refine runL_nil ?_ | refine run_skip ?_ | (apply v_fldP; exact flA rfl; exact rfl; exact rfl; exact rfl) | (apply v_loadB; exact tyA rfl; exact rfl; exact rfl; exact rfl; exact rfl; exact rfl; exact rfl) | (apply v_storeB; exact tyA rfl; exact rfl; exact rfl; exact rfl; exact rfl; exact rfl; exact rfl; exact rfl)))
          refine v_l stE [⟨c, c, x, c1, false⟩] (slA rfl) (tyA rfl) rfl rfl rfl rfl rfl rfl rfl rfl rfl rfl ?_
          refine v_appendD (slA rfl) (tyA rfl) rfl rfl rfl rfl rfl rfl rfl (by simp) rfl rfl rfl rfl ?_
          (repeat (first | (apply v_move; exact rfl; exact rfl) | (apply v_assign; exact rfl; exact rfl) | refine run_region ?_ | refine runL_nil ?_ | refine run_inBlock ?_ | (apply v_add; exact rfl; exact rfl; exact rfl; exact (by omega))))
          exact v_again ih (1, c, [⟨c, c, x, c1, false⟩]) (mp [(9, 87)]) trivial (by repeat (first | exact trivial | refine ⟨rfl, ?_⟩)) (by repeat (first | exact trivial | refine ⟨rfl, ?_⟩)) rfl ⟨by omega, hnew⟩ (by simp only; omega)
        · refine v_is 45 false rfl (by simpa using h1) ?_
          (repeat (first | (apply v_move; exact rfl; exact rfl) | refine run_region ?_ | refine runL_nil ?_ | refine run_skip ?_ | (apply v_fldP; exact flA rfl; exact rfl; exact rfl; exact rfl) | (apply v_loadB; exact tyA rfl; exact rfl; exact rfl; exact rfl; exact rfl; exact rfl; exact rfl) | (apply v_off; exact rfl; exact rfl) | (apply v_pick_f; exact rfl; exact rfl; exact rfl) | (apply run_cond; exact rfl; (focus (intro hb; cases hb; done)); intro hb; clear hb) | (apply v_storeB; exact tyA rfl; exact rfl; exact rfl; exact rfl; exact rfl; exact rfl; exact rfl; exact rfl)))
          refine v_l stE [⟨c, c, x, c1, false⟩] (slA rfl) (tyA rfl) rfl rfl rfl rfl rfl rfl rfl rfl rfl rfl ?_
          refine v_appendD (slA rfl) (tyA rfl) rfl rfl rfl rfl rfl rfl rfl (by simp) rfl rfl rfl rfl ?_
          (repeat (first | (apply v_move; exact rfl; exact rfl) | (apply v_assign; exact rfl; exact rfl) | refine run_region ?_ | refine runL_nil ?_ | refine run_inBlock ?_ | (apply v_add; exact rfl; exact rfl; exact rfl; exact (by omega))))
          exact v_again ih (1, c, [⟨c, c, x, c1, false⟩]) (mp [(9, 87)]) trivial (by repeat (first | exact trivial | refine ⟨rfl, ?_⟩)) (by repeat (first | exact trivial | refine ⟨rfl, ?_⟩)) rfl ⟨by omega, hnew⟩ (by simp only; omega)
    | @next i n m _ f c' _ hf hdr hn hm hol htot =>
      have hsplit : up.drop (i + 1) = c :: up.drop (i + 2) := by
        rw [List.drop_eq_getElem_cons hlt]
        rw [List.getElem?_eq_getElem hlt] at hxi
        rw [Option.some.inj hxi]
      rw [hsplit] at hdr
      have hc0 : c ≠ 0 := by have := nodeAt_some hy; omega
      have hc'0 : c' ≠ 0 := fun e => by rw [e, wayN_zero] at hdr; cases hdr
      cases n with
      | zero => exact absurd hn hc'0
      | succ n =>
        cases m with
        | zero => exact absurd hm hc'0
        | succ m =>
          rw [wayN_succ _ _ hc'0] at hdr
          obtain ⟨e1, hdr⟩ := List.cons.inj hdr
          subst e1
          have hn' : itF (evP l target comp) n (evP l target comp c) = 0 := hn
          have hm' : itF (evP l target comp) m (evP l target comp c) = 0 := hm
          have hfx : up[(((i + 1 : Nat) : Int) - 1).toNat]? = some f := by rw [show (((i + 1 : Nat) : Int) - 1).toNat = i by omega]; exact hf
          have hof := of9 h f
          have hrc := root5 h c
          obtain ⟨r, hr, _⟩ := root_some h hy
          have hcr := closed14 h hr
          have hrt := root5 h t
          have hh := holds8 h (rootM l t) c
          have hpg : pathGo l target related comp (m + 1) t f c = if rootM l t ∈ ch l upX c then ⟨c, 0, x, c1, decide (ofM l f ≠ 0) && isClosed l (rootM l c)⟩ :: pathGo l target related comp m t c (evP l target comp c) else if c = x then [] else ⟨c, c, x, c1, decide (ofM l f ≠ 0) && isClosed l (rootM l c)⟩ :: pathGo l target related comp m c c (evP l target comp c) := by
            have e : pathGo l target related comp (m + 1) t f c = if c = 0 then [] else if rootM l t ∈ ch l upX c then stM l c 0 (aimM l related c) (decide (ofM l f ≠ 0)) :: pathGo l target related comp m t c (evP l target comp c) else if c = aimM l related c then [] else stM l c c (aimM l related c) (decide (ofM l f ≠ 0)) :: pathGo l target related comp m c c (evP l target comp c) := rfl
            rw [e, if_neg hc0, stM, stM, hA, hC]
          rw [hpg] at htot
          clear hpg
          have hnewA : ∀ t2 o2 m2, out ++ [o2] ++ pathGo l target related comp m2 t2 c (evP l target comp c) = pathM l target related comp → itF (evP l target comp) m2 (evP l target comp c) = 0 → MkI l target related comp up (i + 1 + 1) t2 (out ++ [o2]) := fun t2 o2 m2 e e2 => .next (i := i + 1) hxi hdr hn' e2 (by simp; omega) e
          have hoc : ∀ o, decide (o ≠ (0 : Int)) = !(o == 0) := fun o => by by_cases e : o = 0 <;> simp [e]
          rw [hoc] at htot
          generalize hO : ofM l f = o at *
          generalize hK : isClosed l (rootM l c) = c2 at *
          generalize rootM l c = rc at *
          apply via3 (p := ∀ b, b = (!(o == 0) && c2) → RunL _ _ _ ⟨[(0, .sem (listS nodeE l)), (1, .v (.int .i64 target)), (2, .v (.int .i64 related)), (9, .res 9), (10, .sem (listS intE up)), (11, .v (.int .i64 t)), (12, .v (.int .i64 ((i + 1 : Nat) : Int))), (13, .v (.int .i64 c)), (14, .ptr 14 0), (69, .sem (listS nodeE l)), (70, .sem (listS nodeE l)), (71, .v (.int .i64 t))], [(9, .obj (ownS 94 stE out)), (14, .box 94 (stL ⟨c, 0, x, c1, b⟩))]⟩ _)
          rotate_left
          · intro key
            by_cases h0 : o = 0
            · (repeat (first | (apply v_idxL; exact slA rfl; exact tyA rfl; exact rfl; exact rfl; exact rfl; exact rfl; exact (by omega); (first | exact hxu | exact hfx); exact rfl) | (apply v_cx; exact rfl; exact cbA rfl; (first | exact ha | exact hcl | exact hof | exact hrc | exact hcr); exact rfl; exact rfl) | (apply v_move; exact rfl; exact rfl) | (apply v_assign; exact rfl; exact rfl) | refine run_seq ?_ | refine run_region ?_ | refine runL_nil ?_ | refine run_skip ?_ | refine run_block ?_ | (apply v_loadA; exact tyA rfl; exact rfl; exact rfl; exact rfl; exact rfl; exact rfl; exact rfl) | (apply run_cond; exact rfl; (focus (intro hb; cases hb; done)); intro hb; clear hb) | (apply v_eql; exact rfl; exact rfl; exact rfl) | (apply v_neq; exact rfl; exact rfl; exact rfl) | (apply v_allocD; exact tyA rfl; exact rfl; exact rfl; exact rfl; exact rfl) | (apply v_storeW; exact tyA rfl; exact rfl; exact rfl; exact rfl; exact rfl; exact rfl; exact rfl; exact rfl) | (apply v_b; exact plA rfl; exact tyA rfl; exact rfl; exact rfl; exact rfl) | (apply v_sub; exact rfl; exact rfl; exact rfl; exact (by omega))))
              refine v_is 61 false rfl (by simpa using h0) ?_
              (repeat (first | (apply v_move; exact rfl; exact rfl) | refine run_seq ?_ | refine run_region ?_ | refine runL_nil ?_ | (apply v_fldP; exact flA rfl; exact rfl; exact rfl; exact rfl) | (apply v_off; exact rfl; exact rfl) | (apply v_pick_f; exact rfl; exact rfl; exact rfl) | (apply v_storeB; exact tyA rfl; exact rfl; exact rfl; exact rfl; exact rfl; exact rfl; exact rfl; exact rfl)))
              refine runL_weak idN (σ2 := ⟨[(0, .sem (listS nodeE l)), (1, .v (.int .i64 target)), (2, .v (.int .i64 related)), (9, .res 9), (10, .sem (listS intE up)), (11, .v (.int .i64 t)), (12, .v (.int .i64 ((i + 1 : Nat) : Int))), (13, .v (.int .i64 c)), (14, .ptr 14 0), (69, .sem (listS nodeE l)), (70, .sem (listS nodeE l)), (71, .v (.int .i64 t))], [(9, .obj (ownS 94 stE out)), (14, .box 94 (stL ⟨c, 0, x, c1, false⟩))]⟩) ?_ ?_ ?_ ?_ (key.out false (by simp [h0])) <;> first | exact trivial | exact ⟨rfl, rfl, rfl, rfl, rfl, rfl, rfl, rfl, rfl, rfl, rfl, rfl, trivial⟩ | exact ⟨rfl, rfl, trivial⟩ | rfl
            · (repeat (first | (apply v_idxL; exact slA rfl; exact tyA rfl; exact rfl; exact rfl; exact rfl; exact rfl; exact (by omega); (first | exact hxu | exact hfx); exact rfl) | (apply v_cx; exact rfl; exact cbA rfl; (first | exact ha | exact hcl | exact hof | exact hrc | exact hcr); exact rfl; exact rfl) | (apply v_move; exact rfl; exact rfl) | (apply v_assign; exact rfl; exact rfl) | refine run_seq ?_ | refine run_region ?_ | refine runL_nil ?_ | refine run_skip ?_ | refine run_block ?_ | (apply v_loadA; exact tyA rfl; exact rfl; exact rfl; exact rfl; exact rfl; exact rfl; exact rfl) | (apply run_cond; exact rfl; (focus (intro hb; cases hb; done)); intro hb; clear hb) | (apply v_eql; exact rfl; exact rfl; exact rfl) | (apply v_neq; exact rfl; exact rfl; exact rfl) | (apply v_allocD; exact tyA rfl; exact rfl; exact rfl; exact rfl; exact rfl) | (apply v_storeW; exact tyA rfl; exact rfl; exact rfl; exact rfl; exact rfl; exact rfl; exact rfl; exact rfl) | (apply v_b; exact plA rfl; exact tyA rfl; exact rfl; exact rfl; exact rfl) | (apply v_sub; exact rfl; exact rfl; exact rfl; exact (by omega))))
              refine v_is 61 true rfl (by simpa using h0) ?_
              (repeat (first | (apply v_cx; exact rfl; exact cbA rfl; (first | exact hrc | exact hcr); exact rfl; exact rfl) | (apply v_move; exact rfl; exact rfl) | refine run_seq ?_ | refine run_region ?_ | refine runL_nil ?_ | (apply v_fldP; exact flA rfl; exact rfl; exact rfl; exact rfl) | (apply v_on; exact rfl) | (apply v_pick_t; exact rfl; exact rfl; exact rfl) | (apply v_storeB; exact tyA rfl; exact rfl; exact rfl; exact rfl; exact rfl; exact rfl; exact rfl; exact rfl)))
              refine runL_weak idN (σ2 := ⟨[(0, .sem (listS nodeE l)), (1, .v (.int .i64 target)), (2, .v (.int .i64 related)), (9, .res 9), (10, .sem (listS intE up)), (11, .v (.int .i64 t)), (12, .v (.int .i64 ((i + 1 : Nat) : Int))), (13, .v (.int .i64 c)), (14, .ptr 14 0), (69, .sem (listS nodeE l)), (70, .sem (listS nodeE l)), (71, .v (.int .i64 t))], [(9, .obj (ownS 94 stE out)), (14, .box 94 (stL ⟨c, 0, x, c1, c2⟩))]⟩) ?_ ?_ ?_ ?_ (key.out c2 (by simp [h0])) <;> first | exact trivial | exact ⟨rfl, rfl, rfl, rfl, rfl, rfl, rfl, rfl, rfl, rfl, rfl, rfl, trivial⟩ | exact ⟨rfl, rfl, trivial⟩ | rfl
          · intro b hb
            rw [← hb] at htot
            clear hb
            by_cases hin : rootM l t ∈ ch l upX c
            · rw [if_pos hin] at htot
              rw [decide_eq_true hin] at hh
              (repeat (first | (apply v_cx; exact rfl; exact cbA rfl; (first | exact hrt | exact hh); exact rfl; exact rfl) | (apply v_move; exact rfl; exact rfl) | refine run_region ?_ | refine runL_nil ?_ | refine run_skip ?_ | (apply v_loadB; exact tyA rfl; exact rfl; exact rfl; exact rfl; exact rfl; exact rfl; exact rfl) | (apply run_cond; exact rfl; (focus (intro hb; cases hb; done)); intro hb; clear hb) | (apply v_not; exact rfl; exact rfl)))
              refine v_l stE [⟨c, 0, x, c1, b⟩] (slA rfl) (tyA rfl) rfl rfl rfl rfl rfl rfl rfl rfl rfl rfl ?_
              refine v_appendD (slA rfl) (tyA rfl) rfl rfl rfl rfl rfl rfl rfl (by simp only [List.length_singleton]; omega) rfl rfl rfl rfl ?_
              (repeat (first | (apply v_move; exact rfl; exact rfl) | (apply v_assign; exact rfl; exact rfl) | refine run_region ?_ | refine runL_nil ?_ | refine run_inBlock ?_ | (apply v_add; exact rfl; exact rfl; exact rfl; exact (by omega))))
              exact v_again ih (i + 1 + 1, t, out ++ [⟨c, 0, x, c1, b⟩]) (mp [(9, 87)]) trivial (by repeat (first | exact trivial | refine ⟨rfl, ?_⟩)) (by repeat (first | exact trivial | refine ⟨rfl, ?_⟩)) rfl ⟨by simp only; omega, hnewA _ _ m (by rw [← htot, List.append_assoc]; rfl) hm'⟩ (by simp only; omega)
            · rw [if_neg hin] at htot
              rw [decide_eq_false hin] at hh
              by_cases hat : c = x
              · rw [if_pos hat, List.append_nil] at htot
                (repeat (first | (apply v_cx; exact rfl; exact cbA rfl; (first | exact hrt | exact hh); exact rfl; exact rfl) | (apply v_move; exact rfl; exact rfl) | refine run_seq ?_ | refine run_region ?_ | refine runL_nil ?_ | (apply v_fldP; exact flA rfl; exact rfl; exact rfl; exact rfl) | (apply v_loadB; exact tyA rfl; exact rfl; exact rfl; exact rfl; exact rfl; exact rfl; exact rfl) | (apply run_cond; exact rfl; rotate_left; (focus (intro hb; cases hb; done)); intro hb; clear hb) | (apply v_not; exact rfl; exact rfl) | (apply v_eql; exact rfl; exact rfl; exact rfl)))
                refine run_condY rfl (by simpa using hat) ?_
                (repeat (first | (apply v_move; exact rfl; exact rfl) | (apply v_assign; exact rfl; exact rfl) | refine run_seq ?_ | refine run_region ?_ | refine runL_nil ?_))
                exact run_ret (mp [(0, 9)]) _ Try.func129 ⟨_, _, rfl, rfl, rfl⟩ rfl trivial ⟨by rw [← htot]; rfl, trivial⟩ rfl
              · rw [if_neg hat] at htot
                (repeat (first | (apply v_cx; exact rfl; exact cbA rfl; (first | exact hrt | exact hh); exact rfl; exact rfl) | (apply v_move; exact rfl; exact rfl) | refine run_seq ?_ | refine run_region ?_ | refine runL_nil ?_ | (apply v_fldP; exact flA rfl; exact rfl; exact rfl; exact rfl) | (apply v_loadB; exact tyA rfl; exact rfl; exact rfl; exact rfl; exact rfl; exact rfl; exact rfl) | (apply run_cond; exact rfl; rotate_left; (focus (intro hb; cases hb; done)); intro hb; clear hb) | (apply v_not; exact rfl; exact rfl) | (apply v_eql; exact rfl; exact rfl; exact rfl)))
                refine run_condN rfl (by simpa using hat) ?_
                (repeat (first | (apply v_move; exact rfl; exact rfl) | (apply v_assign; exact rfl; exact rfl) | refine run_seq ?_ | refine run_region ?_ | refine runL_nil ?_ | refine run_skip ?_ | (apply v_fldP; exact flA rfl; exact rfl; exact rfl; exact rfl) | (apply v_loadB; exact tyA rfl; exact rfl; exact rfl; exact rfl; exact rfl; exact rfl; exact rfl) | (apply v_storeB; exact tyA rfl; exact rfl; exact rfl; exact rfl; exact rfl; exact rfl; exact rfl; exact rfl)))
                refine v_l stE [⟨c, c, x, c1, b⟩] (slA rfl) (tyA rfl) rfl rfl rfl rfl rfl rfl rfl rfl rfl rfl ?_
                refine v_appendD (slA rfl) (tyA rfl) rfl rfl rfl rfl rfl rfl rfl (by simp only [List.length_singleton]; omega) rfl rfl rfl rfl ?_
                (repeat (first | (apply v_move; exact rfl; exact rfl) | (apply v_assign; exact rfl; exact rfl) | refine run_region ?_ | refine runL_nil ?_ | refine run_inBlock ?_ | (apply v_add; exact rfl; exact rfl; exact rfl; exact (by omega))))
                exact v_again ih (i + 1 + 1, c, out ++ [⟨c, c, x, c1, b⟩]) (mp [(9, 87)]) trivial (by repeat (first | exact trivial | refine ⟨rfl, ?_⟩)) (by repeat (first | exact trivial | refine ⟨rfl, ?_⟩)) rfl ⟨by simp only; omega, hnewA _ _ m (by rw [← htot, List.append_assoc]; rfl) hm'⟩ (by simp only; omega)
  · have hge : i = up.length := by have : ¬ i < up.length := (by simpa using hb); omega
    have hout : out = pathM l target related comp := by
      cases hI with
      | first => exact (hu0 (List.eq_nil_of_length_eq_zero hge.symm)).symm
      | @next i n m _ f c' _ hf hdr hn hm hol htot =>
        rw [hge, List.drop_length] at hdr
        have h0 : c' = 0 := by
          cases n with
          | zero => exact hn
          | succ n => exact Classical.byContradiction fun e => by rw [wayN_succ _ _ e] at hdr; cases hdr
        rw [h0, pathGo_end, List.append_nil] at htot
        exact htot
    (repeat (first | (apply v_move; exact rfl; exact rfl) | (apply v_assign; exact rfl; exact rfl) | refine run_seq ?_ | refine run_region ?_ | refine runL_nil ?_ | (apply run_exit; exact rfl)))
    exact run_ret (mp [(0, 9)]) _ Try.func129 ⟨_, _, rfl, rfl, rfl⟩ rfl trivial ⟨by rw [hout]; rfl, trivial⟩ rfl
end Go.Proofs.Ytjkidecaciomgaa
