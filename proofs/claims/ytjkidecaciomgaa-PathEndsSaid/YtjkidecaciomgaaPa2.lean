/- path.Make. -/
import Derived.Test.YtjkidecaciomgaaSh2
import Derived.Test.YtjkidecaciomgaaPa1
namespace Go.Proofs.Ytjkidecaciomgaa
set_option linter.unusedVariables false
set_option linter.unusedSimpArgs false
set_option maxRecDepth 100000
open Go.RowKit

theorem ev_zero (l : List Nd) (first : Int) (comp : Bool) : evP l first comp 0 = 0 := by rw [evP, nodeAt_zero]
theorem ev_there {l : List Nd} (h : WF l) (first : Int) (comp : Bool) (id : Int) : evP l first comp id = 0 ∨ ∃ y, nodeAt l (evP l first comp id) = some y := by
  cases hx : nodeAt l id with
  | none => exact .inl (by rw [evP, hx])
  | some n =>
    by_cases h0 : ofM l id = 0
    · rcases ev_up h first comp hx h0 with e | e
      · rw [e]
        by_cases hp : upX n = 0
        · exact .inl hp
        · right
          cases hy : nodeAt l (upX n) with
          | some y => exact ⟨y, rfl⟩
          | none =>
            exfalso
            unfold upX at hy hp
            split at hy
            · rename_i hz
              rw [if_pos hz] at hp
              rcases h.host hx with e2 | e2
              · exact hp e2
              · obtain ⟨y, hy2, _⟩ := e2.2
                rw [hy2] at hy; cases hy
            · rename_i hz
              rcases h.par hx with e2 | ⟨y, hy2, _⟩
              · exact hz e2
              · rw [hy2] at hy; cases hy
      · exact .inl e
    · right
      obtain ⟨n', p, _, _, _, _, hm, _⟩ := of_ok h h0
      have e : evP l first comp id = ofM l id := by rw [evP, hx]; simp [h0]
      rw [e]
      exact (up_there h (par_up h hm)).2
theorem way_there {l : List Nd} (h : WF l) (first : Int) (comp : Bool) : ∀ (n : Nat) (a : Int), (a = 0 ∨ ∃ y, nodeAt l a = some y) → ∀ b ∈ wayN (evP l first comp) n a, ∃ y, nodeAt l b = some y
  | 0, a, ha, b, hb => by cases hb
  | n + 1, a, ha, b, hb => by
    have e : wayN (evP l first comp) (n + 1) a = if a = 0 then [] else a :: wayN (evP l first comp) n (evP l first comp a) := rfl
    rw [e] at hb
    by_cases h0 : a = 0
    · rw [if_pos h0] at hb; cases hb
    · rw [if_neg h0] at hb
      rcases List.mem_cons.1 hb with rfl | hb
      · exact ha.resolve_left h0
      · exact way_there h first comp n _ (ev_there h first comp a) b hb
theorem way_short {f : Int → Int} : ∀ (n : Nat) (a : Int), f 0 = 0 → (wayN f n a).length < n → itF f n a = 0
  | 0, a, hf, h => by omega
  | n + 1, a, hf, h => by
    have e : wayN f (n + 1) a = if a = 0 then [] else a :: wayN f n (f a) := rfl
    rw [e] at h
    have e2 : itF f (n + 1) a = itF f n (f a) := rfl
    by_cases h0 : a = 0
    · rw [e2, h0, hf]
      clear e h e2 h0
      induction n with
      | zero => rfl
      | succ n ih => show itF f n (f 0) = 0; rw [hf]; exact ih
    · rw [if_neg h0, List.length_cons] at h
      rw [e2]
      exact way_short n (f a) hf (by omega)
/-- The nodes on an event's way. -/
def wayM (l : List Nd) (first : Int) (comp : Bool) (id : Int) : List Int := wayN (evP l first comp) 129 id
theorem wayM_len {l : List Nd} (h : WF l) (first : Int) (comp : Bool) {id : Int} (hid : id = 0 ∨ ∃ y, nodeAt l id = some y) (n : Nat) : (wayN (evP l first comp) n id).length ≤ l.length := by
  refine nodup_len _ _ (way_nodup (ev_zero l first comp) n id (ev_ends h first comp id)) fun c hc => ?_
  obtain ⟨y, hy⟩ := way_there h first comp n id hid c hc
  have := nodeAt_some hy
  omega
theorem ev_129 {l : List Nd} (h : WF l) (first : Int) (comp : Bool) {id : Int} (hid : id = 0 ∨ ∃ y, nodeAt l id = some y) : itF (evP l first comp) 129 id = 0 := by
  refine way_short 129 id (ev_zero l first comp) ?_
  have := wayM_len h first comp hid 129
  have := h.len
  omega
def pathGo (l : List Nd) (target related : Int) (comp : Bool) : Nat → Int → Int → Int → List St
  | 0, _, _, _ => []
  | n + 1, t, from', at' => if at' = 0 then [] else if rootM l t ∈ ch l upX at' then stM l at' 0 (aimM l related at') (decide (ofM l from' ≠ 0)) :: pathGo l target related comp n t at' (evP l target comp at') else if at' = aimM l related at' then [] else stM l at' at' (aimM l related at') (decide (ofM l from' ≠ 0)) :: pathGo l target related comp n at' at' (evP l target comp at')
def pathM (l : List Nd) (target related : Int) (comp : Bool) : List St :=
  if nodeAt l target = none then [] else if aimM l related target = target ∧ related ≠ target then [] else stM l target target (aimM l related target) false :: pathGo l target related comp 129 target target (evP l target comp target)
/-- Hidden from arithmetic. -/
structure Bx' (p : Prop) : Prop where
  out : p
theorem via3 {p G : Prop} (h : p) (k : Bx' p → G) : G := k ⟨h⟩
theorem pathGo_len (l : List Nd) (target related : Int) (comp : Bool) : ∀ (n : Nat) (t f a : Int), (pathGo l target related comp n t f a).length ≤ n
  | 0, _, _, _ => Nat.le_refl _
  | n + 1, t, f, a => by
    have h1 := pathGo_len l target related comp n
    unfold pathGo
    split
    · simp
    · split
      · simp only [List.length_cons]; have := h1 t a (evP l target comp a); omega
      · split
        · simp
        · simp only [List.length_cons]; have := h1 a a (evP l target comp a); omega
theorem pathGo_end (l : List Nd) (target related : Int) (comp : Bool) (n : Nat) (t f : Int) : pathGo l target related comp n t f 0 = [] := by
  cases n with
  | zero => rfl
  | succ n => unfold pathGo; rw [if_pos rfl]
theorem path_f {l : List Nd} (h : WF l) (target related : Int) (comp : Bool) : Fun Try.prog 128 [forA l, .v (.int .i64 target), .v (.int .i64 related), .v (.bool comp)] [] (.res 0) [(0, .obj (ownS 94 stE (pathM l target related comp)))] := by
  cases hx : nodeAt l target with
  | none =>
    rw [show pathM l target related comp = [] by rw [pathM, if_pos hx]]
    refine fun_intro 92 Try.func128 rfl rfl rfl (fun ι F S w => ?_)
    (repeat (first | (apply v_cx; exact rfl; exact cbA rfl; (first | exact node_n h hx); exact rfl; exact rfl) | (apply v_move; exact rfl; exact rfl) | (apply v_assign; exact rfl; exact rfl) | refine run_seq ?_ | refine run_region ?_ | refine runL_nil ?_ | (apply v_extract; exact rfl; exact rfl; exact rfl) | (apply v_loadB; exact tyA rfl; exact rfl; exact rfl; exact rfl; exact rfl; exact rfl; exact rfl) | (apply run_cond; exact rfl; rotate_left; (focus (intro hb; cases hb; done)); intro hb; clear hb) | (apply v_not; exact rfl; exact rfl) | (apply v_allocD; exact tyA rfl; exact rfl; exact rfl; exact rfl; exact rfl) | (apply v_boxD; exact rfl; exact rfl; exact rfl; exact rfl; exact rfl; exact rfl; exact rfl) | (apply v_storeW; exact tyA rfl; exact rfl; exact rfl; exact rfl; exact rfl; exact rfl; exact rfl; exact rfl)))
    refine run_own 8 8 94 stE rfl rfl rfl rfl ?_
    exact run_ret (mp [(0, 8)]) _ Try.func128 ⟨_, _, rfl, rfl, rfl⟩ rfl trivial ⟨rfl, trivial⟩ rfl
  | some n =>
    have ho : pathM l target related comp = if aimM l related target = target ∧ related ≠ target then [] else stM l target target (aimM l related target) false :: pathGo l target related comp 129 target target (evP l target comp target) := by rw [pathM, if_neg (by rw [hx]; simp)]
    have ha := aim_f h related target
    generalize hA : aimM l related target = x at *
    generalize pathM l target related comp = out at *
    by_cases hB : x = target ∧ related ≠ target
    · rw [if_pos hB] at ho
      subst ho
      refine fun_intro 92 Try.func128 rfl rfl rfl (fun ι F S w => ?_)
      (repeat (first | (apply v_cx; exact rfl; exact cbA rfl; (first | exact node_s h hx | exact ha); exact rfl; exact rfl) | (apply v_move; exact rfl; exact rfl) | (apply v_assign; exact rfl; exact rfl) | refine run_seq ?_ | refine run_region ?_ | refine runL_nil ?_ | refine run_skip ?_ | (apply v_extract; exact rfl; exact rfl; exact rfl) | (apply v_loadB; exact tyA rfl; exact rfl; exact rfl; exact rfl; exact rfl; exact rfl; exact rfl) | (apply run_cond; exact rfl; (focus (intro hb; cases hb; done)); intro hb; clear hb) | (apply v_not; exact rfl; exact rfl) | (apply v_eql; exact rfl; exact rfl; exact rfl) | (apply v_allocD; exact tyA rfl; exact rfl; exact rfl; exact rfl; exact rfl) | (apply v_boxD; exact rfl; exact rfl; exact rfl; exact rfl; exact rfl; exact rfl; exact rfl) | (apply v_storeW; exact tyA rfl; exact rfl; exact rfl; exact rfl; exact rfl; exact rfl; exact rfl; exact rfl)))
      refine v_is 33 true rfl (by simpa using hB.1) ?_
      (repeat (first | (apply v_move; exact rfl; exact rfl) | refine runL_nil ?_ | (apply v_on; exact rfl) | (apply v_pick_t; exact rfl; exact rfl; exact rfl) | (apply v_neq; exact rfl; exact rfl; exact rfl)))
      refine run_condY rfl (by simpa using hB.2) ?_
      (repeat (first | (apply v_assign; exact rfl; exact rfl) | refine run_seq ?_ | refine run_region ?_ | refine runL_nil ?_))
      refine run_own 8 8 94 stE rfl rfl rfl rfl ?_
      exact run_ret (mp [(0, 8)]) _ Try.func128 ⟨_, _, rfl, rfl, rfl⟩ rfl trivial ⟨rfl, trivial⟩ rfl
    · rw [if_neg hB] at ho
      refine fun_intro 92 Try.func128 rfl rfl rfl (fun ι F S w => ?_)
      apply via3
      rotate_left
      · intro key
        by_cases h1 : x = target
        · have h2 : related = target := Classical.byContradiction fun e => hB ⟨h1, e⟩
          (repeat (first | (apply v_cx; exact rfl; exact cbA rfl; (first | exact node_s h hx | exact ha); exact rfl; exact rfl) | (apply v_move; exact rfl; exact rfl) | (apply v_assign; exact rfl; exact rfl) | refine run_seq ?_ | refine run_region ?_ | refine runL_nil ?_ | refine run_skip ?_ | (apply v_extract; exact rfl; exact rfl; exact rfl) | (apply v_loadB; exact tyA rfl; exact rfl; exact rfl; exact rfl; exact rfl; exact rfl; exact rfl) | (apply run_cond; exact rfl; (focus (intro hb; cases hb; done)); intro hb; clear hb) | (apply v_not; exact rfl; exact rfl) | (apply v_eql; exact rfl; exact rfl; exact rfl) | (apply v_allocD; exact tyA rfl; exact rfl; exact rfl; exact rfl; exact rfl) | (apply v_boxD; exact rfl; exact rfl; exact rfl; exact rfl; exact rfl; exact rfl; exact rfl) | (apply v_storeW; exact tyA rfl; exact rfl; exact rfl; exact rfl; exact rfl; exact rfl; exact rfl; exact rfl)))
          refine v_is 33 true rfl (by simpa using h1) ?_
          (repeat (first | (apply v_move; exact rfl; exact rfl) | refine runL_nil ?_ | (apply v_on; exact rfl) | (apply v_pick_t; exact rfl; exact rfl; exact rfl) | (apply v_neq; exact rfl; exact rfl; exact rfl)))
          refine run_condN rfl (by simpa using h2) ?_
          (repeat (first | (apply v_move; exact rfl; exact rfl) | (apply v_assign; exact rfl; exact rfl) | refine run_seq ?_ | refine run_region ?_ | refine runL_nil ?_ | refine run_skip ?_ | (apply v_allocD; exact tyA rfl; exact rfl; exact rfl; exact rfl; exact rfl) | (apply v_f; exact rfl; exact rfl)))
          refine runL_weak idN (σ2 := ⟨[(1, .v (.int .i64 target)), (2, .v (.int .i64 related)), (3, .v (.bool comp)), (4, .ptr 4 0), (12, .ptr 12 0), (13, .fn 168 [.ptr 12 0, .ptr 4 0]), (39, .fn 168 [.ptr 12 0, .ptr 4 0]), (40, .v (.int .i64 target)), (41, .v (.int .i64 target)), (42, .v (.int .i64 x))], [(4, .box 25 [forA l]), (12, .box 68 [.v (.slice none 0 0)])]⟩) ?_ ?_ ?_ ?_ key.out <;> first | exact trivial | exact ⟨rfl, rfl, rfl, rfl, rfl, rfl, rfl, rfl, rfl, rfl, trivial⟩ | exact ⟨rfl, rfl, trivial⟩ | rfl
        · (repeat (first | (apply v_cx; exact rfl; exact cbA rfl; (first | exact node_s h hx | exact ha); exact rfl; exact rfl) | (apply v_move; exact rfl; exact rfl) | (apply v_assign; exact rfl; exact rfl) | refine run_seq ?_ | refine run_region ?_ | refine runL_nil ?_ | refine run_skip ?_ | (apply v_extract; exact rfl; exact rfl; exact rfl) | (apply v_loadB; exact tyA rfl; exact rfl; exact rfl; exact rfl; exact rfl; exact rfl; exact rfl) | (apply run_cond; exact rfl; (focus (intro hb; cases hb; done)); intro hb; clear hb) | (apply v_not; exact rfl; exact rfl) | (apply v_eql; exact rfl; exact rfl; exact rfl) | (apply v_allocD; exact tyA rfl; exact rfl; exact rfl; exact rfl; exact rfl) | (apply v_boxD; exact rfl; exact rfl; exact rfl; exact rfl; exact rfl; exact rfl; exact rfl) | (apply v_storeW; exact tyA rfl; exact rfl; exact rfl; exact rfl; exact rfl; exact rfl; exact rfl; exact rfl)))
          refine v_is 33 false rfl (by simpa using h1) ?_
          (repeat (first | (apply v_move; exact rfl; exact rfl) | (apply v_assign; exact rfl; exact rfl) | refine run_seq ?_ | refine run_region ?_ | refine runL_nil ?_ | refine run_skip ?_ | (apply v_off; exact rfl; exact rfl) | (apply v_pick_f; exact rfl; exact rfl; exact rfl) | (apply run_cond; exact rfl; (focus (intro hb; cases hb; done)); intro hb; clear hb) | (apply v_allocD; exact tyA rfl; exact rfl; exact rfl; exact rfl; exact rfl) | (apply v_f; exact rfl; exact rfl)))
          refine runL_weak idN (σ2 := ⟨[(1, .v (.int .i64 target)), (2, .v (.int .i64 related)), (3, .v (.bool comp)), (4, .ptr 4 0), (12, .ptr 12 0), (13, .fn 168 [.ptr 12 0, .ptr 4 0]), (39, .fn 168 [.ptr 12 0, .ptr 4 0]), (40, .v (.int .i64 target)), (41, .v (.int .i64 target)), (42, .v (.int .i64 x))], [(4, .box 25 [forA l]), (12, .box 68 [.v (.slice none 0 0)])]⟩) ?_ ?_ ?_ ?_ key.out <;> first | exact trivial | exact ⟨rfl, rfl, rfl, rfl, rfl, rfl, rfl, rfl, rfl, rfl, trivial⟩ | exact ⟨rfl, rfl, trivial⟩ | rfl
      · clear ha
        have hev := fun a => evp_f h a target comp
        have he0 := ev_129 h target comp (ev_there h target comp target)
        refine runL_ownB 12 0 50 94 stE rfl rfl rfl rfl rfl rfl rfl ?_
        refine v_cC (l := [.v (.int .i64 target), .v (.int .i64 target), .v (.int .i64 x), .v (.bool false)]) (cap := [.ptr 0 0, .ptr 1 0]) (mp [(0, 12), (1, 4), (3, 50), (4, 100)]) (add_f h target target x false [] (by simp)) rfl rfl (cbA rfl) ⟨rfl, rfl, rfl, trivial⟩ (by kernel_rfl) (by kernel_rfl) (by kernel_rfl) (by kernel_rfl) (by kernel_rfl) (by kernel_rfl) (by kernel_rfl) (by kernel_rfl) rfl ?_
        (repeat (first | (apply v_cx; exact rfl; exact cbA rfl; (first | exact hev target); exact rfl; exact rfl) | (apply v_move; exact rfl; exact rfl) | (apply v_assign; exact rfl; exact rfl) | refine run_seq ?_ | refine run_region ?_ | refine runL_nil ?_ | refine run_block ?_ | (apply v_loadB; exact tyA rfl; exact rfl; exact rfl; exact rfl; exact rfl; exact rfl; exact rfl)))
        refine v_loop (fun q : Nat × Int × Int × Int × List St => ⟨[(1, .v (.int .i64 target)), (2, .v (.int .i64 related)), (3, .v (.bool comp)), (4, .ptr 4 0), (12, .ptr 12 0), (13, .fn 168 [.ptr 12 0, .ptr 4 0]), (14, .v (.int .i64 q.2.1)), (15, .v (.int .i64 q.2.2.1)), (16, .v (.int .i64 q.2.2.2.1))], [(4, .box 25 [forA l]), (12, .box 68 [.res 50]), (50, .obj (ownS 94 stE q.2.2.2.2))]⟩) (fun q => q.2.2.2.2.length + q.1 ≤ 130 ∧ itF (evP l target comp) q.1 q.2.2.2.1 = 0 ∧ out = q.2.2.2.2 ++ pathGo l target related comp q.1 q.2.1 q.2.2.1 q.2.2.2.1) (fun q => q.1) (129, target, target, evP l target comp target, [stM l target target x false]) (mp [(50, 100)]) trivial (by repeat (first | exact trivial | refine ⟨rfl, ?_⟩)) (by repeat (first | exact trivial | refine ⟨rfl, ?_⟩)) rfl ⟨by simp, he0, ho⟩ fun ⟨n, t, from', at', acc⟩ ⟨hq1, hq2, hq3⟩ ih => ?_
        dsimp only at hq1 hq2 hq3 ⊢
        have hst : pathGo l target related comp n t from' at' = match n with
          | 0 => []
          | n + 1 => if at' = 0 then [] else if rootM l t ∈ ch l upX at' then stM l at' 0 (aimM l related at') (decide (ofM l from' ≠ 0)) :: pathGo l target related comp n t at' (evP l target comp at') else if at' = aimM l related at' then [] else stM l at' at' (aimM l related at') (decide (ofM l from' ≠ 0)) :: pathGo l target related comp n at' at' (evP l target comp at') := by cases n <;> rfl
        (repeat (first | (apply v_move; exact rfl; exact rfl) | refine run_seq ?_ | refine run_region ?_ | refine runL_nil ?_ | (apply v_neq; exact rfl; exact rfl; exact rfl)))
        refine run_cond rfl (fun hb => ?_) (fun hb => ?_)
        · have hne : at' ≠ 0 := by simpa using hb
          cases n with
          | zero => exact absurd hq2 hne
          | succ n =>
            dsimp only at hst
            rw [if_neg hne] at hst
            have h2 : itF (evP l target comp) n (evP l target comp at') = 0 := hq2
            have hof := of_f h from'
            have ha := aim_f h related at'
            have hr := root_f h t
            have hh := holds_f h (rootM l t) at'
            have he := hev at'
            rw [hst] at hq3
            clear hst
            have hadd := fun tg sl => add_f h at' tg (aimM l related at') sl acc (by omega)
            generalize evP l target comp at' = nx at *
            generalize aimM l related at' = x2 at *
            have hsl : ∀ b, b = decide (ofM l from' ≠ 0) → b = !(ofM l from' == 0) := fun b hb => by rw [hb]; by_cases e : ofM l from' = 0 <;> simp [e]
            rw [show decide (ofM l from' ≠ 0) = !(ofM l from' == 0) from hsl _ rfl] at hq3
            clear hsl
            generalize ofM l from' = o at *
            by_cases hin : rootM l t ∈ ch l upX at'
            · rw [if_pos hin] at hq3
              rw [decide_eq_true hin] at hh
              (repeat (first | (apply v_cx; exact rfl; exact cbA rfl; (first | exact hof | exact ha); exact rfl; exact rfl) | (apply v_move; exact rfl; exact rfl) | (apply v_assign; exact rfl; exact rfl) | refine run_seq ?_ | refine run_region ?_ | refine runL_nil ?_ | refine run_skip ?_ | refine run_block ?_ | (apply v_loadB; exact tyA rfl; exact rfl; exact rfl; exact rfl; exact rfl; exact rfl; exact rfl) | (apply v_neq; exact rfl; exact rfl; exact rfl)))
              refine run_draws (by kernel_rfl) (by kernel_rfl) ?_
              (repeat (first | (apply p_cx; exact rfl; exact cbA rfl; (first | exact hr | exact hh); exact rfl; exact rfl; exact rfl) | (apply p_move; exact rfl; exact rfl; exact rfl) | (apply p_assign; exact rfl; exact rfl; exact rfl) | (apply p_loadB; exact tyA rfl; exact rfl; exact rfl; exact rfl; exact rfl; exact rfl; exact rfl; exact rfl)))
              refine planL_nil (by kernel_rfl) ?_
              (repeat (first | (apply v_move; exact rfl; exact rfl) | refine run_region ?_ | (apply run_cond; exact rfl; rotate_left; (focus (intro hb; cases hb; done)); intro hb; clear hb)))
              refine v_cC (l := [.v (.int .i64 at'), .v (.int .i64 0), .v (.int .i64 x2), .v (.bool (!(o == 0)))]) (cap := [.ptr 0 0, .ptr 1 0]) (mp [(0, 12), (1, 4), (3, 50), (4, 100)]) (hadd 0 _) rfl rfl (cbA rfl) ⟨rfl, rfl, rfl, trivial⟩ (by kernel_rfl) (by kernel_rfl) (by kernel_rfl) (by kernel_rfl) (by kernel_rfl) (by kernel_rfl) (by kernel_rfl) (by kernel_rfl) rfl ?_
              (repeat (first | (apply v_cx; exact rfl; exact cbA rfl; (first | exact he); exact rfl; exact rfl) | (apply v_move; exact rfl; exact rfl) | (apply v_assign; exact rfl; exact rfl) | refine run_region ?_ | refine runL_nil ?_ | refine run_inBlock ?_ | (apply v_loadB; exact tyA rfl; exact rfl; exact rfl; exact rfl; exact rfl; exact rfl; exact rfl)))
              exact v_again ih (n, t, at', nx, acc ++ [_]) (mp [(50, 100)]) trivial (by repeat (first | exact trivial | refine ⟨rfl, ?_⟩)) (by repeat (first | exact trivial | refine ⟨rfl, ?_⟩)) rfl ⟨by simp; omega, h2, by rw [hq3, List.append_assoc]; rfl⟩ (by simp)
            · rw [if_neg hin] at hq3
              rw [decide_eq_false hin] at hh
              by_cases hat : at' = x2
              · rw [if_pos hat, List.append_nil] at hq3
                subst hq3
                (repeat (first | (apply v_cx; exact rfl; exact cbA rfl; (first | exact hof | exact ha); exact rfl; exact rfl) | (apply v_move; exact rfl; exact rfl) | (apply v_assign; exact rfl; exact rfl) | refine run_seq ?_ | refine run_region ?_ | refine runL_nil ?_ | refine run_skip ?_ | refine run_block ?_ | (apply v_loadB; exact tyA rfl; exact rfl; exact rfl; exact rfl; exact rfl; exact rfl; exact rfl) | (apply v_neq; exact rfl; exact rfl; exact rfl)))
                refine run_draws (by kernel_rfl) (by kernel_rfl) ?_
                (repeat (first | (apply p_cx; exact rfl; exact cbA rfl; (first | exact hr | exact hh); exact rfl; exact rfl; exact rfl) | (apply p_move; exact rfl; exact rfl; exact rfl) | (apply p_assign; exact rfl; exact rfl; exact rfl) | (apply p_loadB; exact tyA rfl; exact rfl; exact rfl; exact rfl; exact rfl; exact rfl; exact rfl; exact rfl)))
                refine planL_nil (by kernel_rfl) ?_
                (repeat (first | (apply v_move; exact rfl; exact rfl) | (apply v_assign; exact rfl; exact rfl) | refine run_seq ?_ | refine run_region ?_ | refine runL_nil ?_ | (apply run_cond; exact rfl; (focus (intro hb; cases hb; done)); intro hb; clear hb) | (apply v_eql; exact rfl; exact rfl; exact rfl)))
                refine run_condY rfl (by simpa using hat) ?_
                (repeat (first | (apply v_assign; exact rfl; exact rfl) | refine run_seq ?_ | refine run_region ?_ | refine runL_nil ?_ | (apply v_loadB; exact tyA rfl; exact rfl; exact rfl; exact rfl; exact rfl; exact rfl; exact rfl)))
                exact run_ret (mp [(0, 50)]) _ Try.func128 ⟨_, _, rfl, rfl, rfl⟩ rfl trivial ⟨rfl, trivial⟩ rfl
              · rw [if_neg hat] at hq3
                (repeat (first | (apply v_cx; exact rfl; exact cbA rfl; (first | exact hof | exact ha); exact rfl; exact rfl) | (apply v_move; exact rfl; exact rfl) | (apply v_assign; exact rfl; exact rfl) | refine run_seq ?_ | refine run_region ?_ | refine runL_nil ?_ | refine run_skip ?_ | refine run_block ?_ | (apply v_loadB; exact tyA rfl; exact rfl; exact rfl; exact rfl; exact rfl; exact rfl; exact rfl) | (apply v_neq; exact rfl; exact rfl; exact rfl)))
                refine run_draws (by kernel_rfl) (by kernel_rfl) ?_
                (repeat (first | (apply p_cx; exact rfl; exact cbA rfl; (first | exact hr | exact hh); exact rfl; exact rfl; exact rfl) | (apply p_move; exact rfl; exact rfl; exact rfl) | (apply p_assign; exact rfl; exact rfl; exact rfl) | (apply p_loadB; exact tyA rfl; exact rfl; exact rfl; exact rfl; exact rfl; exact rfl; exact rfl; exact rfl)))
                refine planL_nil (by kernel_rfl) ?_
                (repeat (first | (apply v_move; exact rfl; exact rfl) | (apply v_assign; exact rfl; exact rfl) | refine run_seq ?_ | refine run_region ?_ | refine runL_nil ?_ | (apply run_cond; exact rfl; (focus (intro hb; cases hb; done)); intro hb; clear hb) | (apply v_eql; exact rfl; exact rfl; exact rfl)))
                refine run_condN rfl (by simpa using hat) ?_
                (repeat (first | (apply v_move; exact rfl; exact rfl) | (apply v_assign; exact rfl; exact rfl) | refine run_seq ?_ | refine run_region ?_ | refine runL_nil ?_))
                refine v_cC (l := [.v (.int .i64 at'), .v (.int .i64 at'), .v (.int .i64 x2), .v (.bool (!(o == 0)))]) (cap := [.ptr 0 0, .ptr 1 0]) (mp [(0, 12), (1, 4), (3, 50), (4, 100)]) (hadd at' _) rfl rfl (cbA rfl) ⟨rfl, rfl, rfl, trivial⟩ (by kernel_rfl) (by kernel_rfl) (by kernel_rfl) (by kernel_rfl) (by kernel_rfl) (by kernel_rfl) (by kernel_rfl) (by kernel_rfl) rfl ?_
                (repeat (first | (apply v_cx; exact rfl; exact cbA rfl; (first | exact he); exact rfl; exact rfl) | (apply v_move; exact rfl; exact rfl) | (apply v_assign; exact rfl; exact rfl) | refine run_region ?_ | refine runL_nil ?_ | refine run_inBlock ?_ | (apply v_loadB; exact tyA rfl; exact rfl; exact rfl; exact rfl; exact rfl; exact rfl; exact rfl)))
                exact v_again ih (n, at', at', nx, acc ++ [_]) (mp [(50, 100)]) trivial (by repeat (first | exact trivial | refine ⟨rfl, ?_⟩)) (by repeat (first | exact trivial | refine ⟨rfl, ?_⟩)) rfl ⟨by simp; omega, h2, by rw [hq3, List.append_assoc]; rfl⟩ (by simp)
        · have h0 : at' = 0 := by simpa using hb
          have he : pathGo l target related comp n t from' at' = [] := by rw [h0]; exact pathGo_end l target related comp n t from'
          rw [he, List.append_nil] at hq3
          subst hq3
          (repeat (first | (apply v_assign; exact rfl; exact rfl) | refine run_seq ?_ | refine run_region ?_ | refine runL_nil ?_ | (apply run_exit; exact rfl) | (apply v_loadB; exact tyA rfl; exact rfl; exact rfl; exact rfl; exact rfl; exact rfl; exact rfl)))
          exact run_ret (mp [(0, 50)]) _ Try.func128 ⟨_, _, rfl, rfl, rfl⟩ rfl trivial ⟨rfl, trivial⟩ rfl
theorem path_p {l : List Nd} (h : WF l) (target related : Int) (comp : Bool) : Fun Try.prog 128 [forA l, .v (.int .i64 target), .v (.int .i64 related), .v (.bool comp)] [] (.sem (listS stE (pathM l target related comp))) [] := (path_f h target related comp).freeze
theorem pathM_len (l : List Nd) (target related : Int) (comp : Bool) : (pathM l target related comp).length ≤ 130 := by
  have := pathGo_len l target related comp 129 target target (evP l target comp target)
  unfold pathM
  split
  · simp
  · split
    · simp
    · simp only [List.length_cons]; omega
end Go.Proofs.Ytjkidecaciomgaa
