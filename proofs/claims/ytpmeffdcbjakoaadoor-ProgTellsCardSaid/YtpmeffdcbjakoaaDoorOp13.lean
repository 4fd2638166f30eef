/- Law 20: ProgTells. -/
import Derived.Test.YtpmeffdcbjakoaaDoorOp12
namespace Go.Proofs.YtpmeffdcbjakoaaDoor
set_option linter.unusedVariables false
set_option linter.unusedSimpArgs false
set_option maxRecDepth 100000
open Go.RowKit

abbrev FormO (ps : List (SlV × List OpD)) : Prop := ∀ p ∈ ps, (p.1 = ⟨none, 0, 0⟩ ∧ p.2 = []) ∨ ∃ b cap, p.1 = ⟨some ⟨b, 0, none⟩, p.2.length, cap⟩
theorem form_at {ps qs : List (SlV × List OpD)} {i j : Nat} {s : SlV} (h1 : qs.map (·.1) = ps.map (·.1)) (h2 : FormO qs) (hu : (ps.map (·.1))[i]? = some s) (hj : j < s.n) : ∃ b cap l, s = ⟨some ⟨b, 0, none⟩, List.length l, cap⟩ ∧ qs[i]? = some (⟨some ⟨b, 0, none⟩, l.length, cap⟩, l) ∧ j < l.length := by
  rw [← h1, List.getElem?_map] at hu
  cases hq : qs[i]? with
  | none => rw [hq] at hu; cases hu
  | some q =>
    rw [hq] at hu
    obtain ⟨q1, q2⟩ := q
    obtain rfl : q1 = s := by simpa using hu
    rcases h2 _ (List.mem_of_getElem? hq) with ⟨h3, h4⟩ | ⟨b, cap, h3⟩
    · dsimp only at h3
      rw [h3] at hj
      exact absurd hj (Nat.not_lt_zero _)
    · dsimp only at h3
      subst h3
      exact ⟨b, cap, q2, rfl, rfl, hj⟩
theorem form_set {ps qs : List (SlV × List OpD)} {i b cap : Nat} {l l' : List OpD} (h1 : qs.map (·.1) = ps.map (·.1)) (hq : qs[i]? = some (⟨some ⟨b, 0, none⟩, l.length, cap⟩, l)) (hl : l'.length = l.length) : (qs.set i (⟨some ⟨b, 0, none⟩, l.length, cap⟩, l')).map (·.1) = ps.map (·.1) ∧ (FormO qs → FormO (qs.set i (⟨some ⟨b, 0, none⟩, l.length, cap⟩, l'))) := by
  constructor
  · rw [List.map_set, ← h1]
    apply List.ext_getElem?
    intro k
    rw [List.getElem?_set]
    by_cases e : i = k
    · subst e
      rw [if_pos rfl, List.getElem?_map, hq]
      have := (List.getElem?_eq_some_iff.1 hq).1
      rw [List.length_map, if_pos this]
      rfl
    · rw [if_neg e]
  · intro h p hp
    rcases List.mem_or_eq_of_mem_set hp with hp | hp
    · exact h p hp
    · rw [hp]
      exact .inr ⟨b, cap, by rw [hl]⟩
theorem form_len {ps : List (SlV × List OpD)} {calls : List (List OpD)} {i : Nat} {s : SlV} (hps : ps.map (·.2) = calls) (h2 : FormO ps) (hu : (ps.map (·.1))[i]? = some s) (hcl : ∀ l ∈ calls, l.length ≤ 1000000) : s.n ≤ 1000000 := by
  rw [List.getElem?_map] at hu
  cases hq : ps[i]? with
  | none => rw [hq] at hu; cases hu
  | some q =>
    rw [hq] at hu
    obtain ⟨q1, q2⟩ := q
    obtain rfl : q1 = s := by simpa using hu
    have hm : q2 ∈ calls := by rw [← hps]; exact List.mem_map.2 ⟨_, List.mem_of_getElem? hq, rfl⟩
    rcases h2 _ (List.mem_of_getElem? hq) with ⟨h3, h4⟩ | ⟨b, cap, h3⟩
    · dsimp only at h3
      rw [h3]
      exact Nat.zero_le _
    · dsimp only at h3
      rw [h3]
      exact hcl _ hm
set_option maxHeartbeats 8000000 in
theorem progTells_f {main : List OpD} {calls : List (List OpD)} (cb extra : Int) (hc0 : calls.length ≤ 100 → countM main calls ≤ 9223372036854775807) (hl : calls.length ≤ 9223372036854775807) (hm : OpsOk main) (hcs : ∀ l ∈ calls, OpsOk l) : Fun Tryd.prog 4 [progA main calls, .v (.int .i64 cb), .v (.int .i64 extra)] [] (.v (.bool true)) [] := by
  by_cases h1 : calls.length > 100
  · refine fun_intro 192 Tryd.func4 rfl rfl rfl (fun ι F S w => ?_)
    (repeat (first | (apply v_cx; exact rfl; exact cbA rfl; (first | exact awake20); exact rfl; exact rfl) | (apply v_move; exact rfl; exact rfl) | (apply v_assign; exact rfl; exact rfl) | refine run_seq ?_ | refine run_region ?_ | refine runL_nil ?_ | refine run_skip ?_ | (apply v_fldP; exact flA rfl; exact rfl; exact rfl; exact rfl) | (apply v_loadB; exact tyA rfl; exact rfl; exact rfl; exact rfl; exact rfl; exact rfl; exact rfl) | (apply run_cond; exact rfl; (focus (intro hb; cases hb; done)); intro hb; clear hb) | (apply v_not; exact rfl; exact rfl) | (apply v_gtr; exact rfl; exact rfl; exact rfl) | (apply v_lenL; exact slA rfl; exact rfl; exact rfl) | (apply v_boxD; exact rfl; exact rfl; exact rfl; exact rfl; exact rfl; exact rfl; exact rfl)))
    refine v_is 31 true rfl (by simp; omega) ?_
    (repeat (first | (apply v_assign; exact rfl; exact rfl) | refine run_seq ?_ | refine run_region ?_ | refine runL_nil ?_ | (apply v_off; exact rfl; exact rfl) | (apply v_pick_t; exact rfl; exact rfl; exact rfl) | (apply run_cond; exact rfl; rotate_left; (focus (intro hb; cases hb; done)); intro hb; clear hb)))
    exact run_ret idN _ Tryd.func4 ⟨_, _, rfl, rfl, rfl⟩ rfl trivial trivial rfl
  · have hcf := count20_f (hc0 (by omega)) hl
    by_cases h2 : countM main calls > 5000
    · refine fun_intro 192 Tryd.func4 rfl rfl rfl (fun ι F S w => ?_)
      (repeat (first | (apply v_cx; exact rfl; exact cbA rfl; (first | exact awake20); exact rfl; exact rfl) | (apply v_move; exact rfl; exact rfl) | (apply v_assign; exact rfl; exact rfl) | refine run_seq ?_ | refine run_region ?_ | refine runL_nil ?_ | refine run_skip ?_ | (apply v_fldP; exact flA rfl; exact rfl; exact rfl; exact rfl) | (apply v_loadB; exact tyA rfl; exact rfl; exact rfl; exact rfl; exact rfl; exact rfl; exact rfl) | (apply run_cond; exact rfl; (focus (intro hb; cases hb; done)); intro hb; clear hb) | (apply v_not; exact rfl; exact rfl) | (apply v_gtr; exact rfl; exact rfl; exact rfl) | (apply v_lenL; exact slA rfl; exact rfl; exact rfl) | (apply v_boxD; exact rfl; exact rfl; exact rfl; exact rfl; exact rfl; exact rfl; exact rfl)))
      refine v_is 31 false rfl (by simp; omega) ?_
      (repeat (first | (apply v_cx; exact rfl; exact cbA rfl; (first | exact hcf); exact rfl; exact rfl) | refine runL_nil ?_ | (apply v_loadB; exact tyA rfl; exact rfl; exact rfl; exact rfl; exact rfl; exact rfl; exact rfl) | (apply v_on; exact rfl) | (apply v_pick_f; exact rfl; exact rfl; exact rfl) | (apply v_gtr; exact rfl; exact rfl; exact rfl)))
      refine run_condY rfl (by simp; omega) ?_
      (repeat (first | (apply v_assign; exact rfl; exact rfl) | refine run_seq ?_ | refine run_region ?_ | refine runL_nil ?_))
      exact run_ret idN _ Tryd.func4 ⟨_, _, rfl, rfl, rfl⟩ rfl trivial trivial rfl
    · have hk := check_f hc0 hl hm hcs
      have hk2 := check20_f hc0 hl hm hcs
      have hcn := count_f (hc0 (by omega)) hl
      have hml : main.length ≤ countM main calls := by rw [countM]; omega
      have hsl : sumL calls ≤ countM main calls := by rw [countM]; omega
      have hcl : ∀ l ∈ calls, l.length ≤ 1000000 := fun l hl => by
        obtain ⟨i, hi⟩ := List.getElem?_of_mem hl
        have := len_le hi main
        omega
      have hcopy := copy_f (main := main) (calls := calls) (by omega) (by omega) hcl
      have hsame := lend2 (e1 := 33) (T := 22) (e := 33) (E1 := opE) (E := opE) (xs := main) (ls := calls) (bs := [progA main calls]) rfl rfl (same20_f (main := main) (calls := calls) hl hm.1 fun l hl => (hcs l hl).1)
      generalize checkM main calls = R at *
      by_cases he : extra = 7
      · by_cases hc : 1 ≤ cb ∧ cb ≤ calls.length
        · obtain ⟨hc1, hc2⟩ := hc
          obtain ⟨l0, hcx⟩ : ∃ l0, calls[(cb - 1).toNat]? = some l0 := ⟨_, List.getElem?_eq_getElem (by omega)⟩
          have hl0 := len_le hcx main
          have hcall := call_in (main := main) hc1 hc2 hcx hl (by omega)
          have hs19 := lend1 (e1 := 33) (bs := [.sem (listS opE l0)]) (same19_f (a := l0) (by omega))
          refine fun_intro 192 Tryd.func4 rfl rfl rfl (fun ι F S w => ?_)
          (repeat (first | (apply v_cx; exact rfl; exact cbA rfl; (first | exact awake20); exact rfl; exact rfl) | (apply v_move; exact rfl; exact rfl) | (apply v_assign; exact rfl; exact rfl) | refine run_seq ?_ | refine run_region ?_ | refine runL_nil ?_ | refine run_skip ?_ | (apply v_fldP; exact flA rfl; exact rfl; exact rfl; exact rfl) | (apply v_loadB; exact tyA rfl; exact rfl; exact rfl; exact rfl; exact rfl; exact rfl; exact rfl) | (apply run_cond; exact rfl; (focus (intro hb; cases hb; done)); intro hb; clear hb) | (apply v_not; exact rfl; exact rfl) | (apply v_gtr; exact rfl; exact rfl; exact rfl) | (apply v_lenL; exact slA rfl; exact rfl; exact rfl) | (apply v_boxD; exact rfl; exact rfl; exact rfl; exact rfl; exact rfl; exact rfl; exact rfl)))
          refine v_is 31 false rfl (by simp; omega) ?_
          (repeat (first | (apply v_cx; exact rfl; exact cbA rfl; (first | exact hcf); exact rfl; exact rfl) | refine runL_nil ?_ | (apply v_loadB; exact tyA rfl; exact rfl; exact rfl; exact rfl; exact rfl; exact rfl; exact rfl) | (apply v_on; exact rfl) | (apply v_pick_f; exact rfl; exact rfl; exact rfl) | (apply v_gtr; exact rfl; exact rfl; exact rfl)))
          refine run_condN rfl (by simp; omega) ?_
          (repeat (first | (apply v_move; exact rfl; exact rfl) | refine run_seq ?_ | refine run_region ?_ | refine runL_nil ?_ | refine run_skip ?_ | (apply v_eql; exact rfl; exact rfl; exact rfl)))
          refine run_condY rfl (by simpa using he) ?_
          (repeat (first | refine run_seq ?_ | refine run_region ?_ | refine runL_nil ?_ | (apply v_loadB; exact tyA rfl; exact rfl; exact rfl; exact rfl; exact rfl; exact rfl; exact rfl) | (apply v_allocD; exact tyA rfl; exact rfl; exact rfl; exact rfl; exact rfl) | (apply v_storeW; exact tyA rfl; exact rfl; exact rfl; exact rfl; exact rfl; exact rfl; exact rfl; exact rfl)))
          refine v_litO opW [] [] [] (slA rfl) (tyA rfl) rfl rfl trivial rfl rfl rfl rfl rfl rfl rfl rfl rfl rfl rfl rfl ?_
          (repeat (first | (apply v_fldP; exact flA rfl; exact rfl; exact rfl; exact rfl) | (apply v_loadB; exact tyA rfl; exact rfl; exact rfl; exact rfl; exact rfl; exact rfl; exact rfl)))
          refine runL_le 41 (x := .sem (listS opE main)) rfl (opW_le main) ?_
          refine v_appendD (slA rfl) (tyA rfl) rfl rfl rfl rfl rfl rfl rfl (by simp; omega) rfl rfl rfl rfl ?_
          (repeat (first | refine run_seq ?_ | refine runL_nil ?_ | refine run_block ?_ | (apply v_fldP; exact flA rfl; exact rfl; exact rfl; exact rfl) | (apply v_storeB; exact tyA rfl; exact rfl; exact rfl; exact rfl; exact rfl; exact rfl; exact rfl; exact rfl)))
          refine v_loop (fun xs : List OpD => ⟨[(1, .v (.int .i64 cb)), (3, .ptr 3 0), (7, .ptr 7 0)], [(3, .box 25 [.sem (listS opE main), .sem (listS callE calls)]), (7, .box 25 [.res 42, .sem (listS callE calls)]), (42, .obj (ownS 33 opW xs))]⟩) (fun xs => xs.length ≤ 1000000) (fun xs => 4097 - xs.length) main idN trivial (by repeat (first | exact trivial | refine ⟨rfl, ?_⟩)) ⟨rfl, rfl, rfl, trivial⟩ rfl (by omega) fun xs hxs ih => ?_
          (repeat (first | refine run_seq ?_ | refine run_region ?_ | refine runL_nil ?_ | (apply v_fldP; exact flA rfl; exact rfl; exact rfl; exact rfl) | (apply v_loadB; exact tyA rfl; exact rfl; exact rfl; exact rfl; exact rfl; exact rfl; exact rfl) | (apply v_lss; exact rfl; exact rfl; exact rfl) | (apply v_lenO; exact slA rfl; exact rfl; exact rfl; exact rfl)))
          refine run_cond rfl (fun hb => ?_) (fun hb => ?_)
          · have hlt : xs.length < 4097 := by have : (xs.length : Int) < 4097 := (by simpa using hb); omega
            (repeat (first | refine run_region ?_ | refine run_skip ?_ | refine run_block ?_ | (apply v_fldP; exact flA rfl; exact rfl; exact rfl; exact rfl) | (apply v_loadB; exact tyA rfl; exact rfl; exact rfl; exact rfl; exact rfl; exact rfl; exact rfl) | (apply v_b; exact plA rfl; exact tyA rfl; exact rfl; exact rfl; exact rfl)))
            refine v_l opW [⟨17, 1, 0, 0, 0, ⟨#[]⟩⟩] (slA rfl) (tyA rfl) rfl rfl rfl rfl rfl rfl rfl rfl rfl rfl ?_
            refine v_appendD (slA rfl) (tyA rfl) rfl rfl rfl rfl rfl rfl rfl (by simp; omega) rfl rfl rfl rfl ?_
            (repeat (first | refine runL_nil ?_ | refine run_inBlock ?_ | (apply v_fldP; exact flA rfl; exact rfl; exact rfl; exact rfl) | (apply v_storeB; exact tyA rfl; exact rfl; exact rfl; exact rfl; exact rfl; exact rfl; exact rfl; exact rfl)))
            exact v_again ih (xs ++ [⟨17, 1, 0, 0, 0, ⟨#[]⟩⟩]) (mp [(42, 52)]) trivial (by repeat (first | exact trivial | refine ⟨rfl, ?_⟩)) ⟨rfl, rfl, rfl, trivial⟩ rfl (by simp; omega) (by simp; omega)
          clear ih
          have hge : 4096 < xs.length := by have : (4097 : Int) ≤ (xs.length : Int) := (by simpa using hb); omega
          refine run_freezeIn 7 42 rfl rfl rfl ?_
          have hbig := checkBig_f (E := opW) (main := xs) (calls := calls) (by omega) hl hge
          (repeat (first | (apply v_cx; exact rfl; exact cbA rfl; (first | exact hbig); exact rfl; exact rfl) | (apply v_move; exact rfl; exact rfl) | (apply v_assign; exact rfl; exact rfl) | refine run_seq ?_ | refine run_region ?_ | refine runL_nil ?_ | refine run_skip ?_ | (apply run_exit; exact rfl) | (apply v_extract; exact rfl; exact rfl; exact rfl) | (apply v_loadB; exact tyA rfl; exact rfl; exact rfl; exact rfl; exact rfl; exact rfl; exact rfl) | (apply run_cond; exact rfl; (focus (intro hb; cases hb; done)); intro hb; clear hb) | (apply v_neq; exact rfl; exact rfl; exact rfl)))
          (repeat (first | (apply v_cx; exact rfl; exact cbA rfl; (first | exact hk | exact hk2); exact rfl; exact rfl) | (apply v_move; exact rfl; exact rfl) | (apply v_assign; exact rfl; exact rfl) | refine run_seq ?_ | refine run_region ?_ | refine runL_nil ?_ | (apply v_extract; exact rfl; exact rfl; exact rfl) | (apply v_loadB; exact tyA rfl; exact rfl; exact rfl; exact rfl; exact rfl; exact rfl; exact rfl)))
          refine v_cR (mp [(0, 100)]) hcall rfl (cbA rfl) trivial (by kernel_rfl) (by kernel_rfl) (by kernel_rfl) (by kernel_rfl) (by kernel_rfl) (by kernel_rfl) (by kernel_rfl) (by kernel_rfl) rfl ?_
          (repeat (first | (apply v_move; exact rfl; exact rfl) | (apply v_assign; exact rfl; exact rfl) | refine run_seq ?_ | refine runL_nil ?_ | (apply v_extract; exact rfl; exact rfl; exact rfl)))
          refine run_draws (by kernel_rfl) (by kernel_rfl) ?_
          (repeat (first | (apply p_move; exact rfl; exact rfl; exact rfl) | (apply p_neq; exact rfl; exact rfl; exact rfl; exact rfl)))
          refine p_is 83 false rfl (by simp) ?_
          (repeat (first | (apply p_move; exact rfl; exact rfl; exact rfl) | (apply p_pick_f; exact rfl; exact rfl; exact rfl; exact rfl) | (apply p_neq; exact rfl; exact rfl; exact rfl; exact rfl)))
          refine p_is 88 false rfl (by simp) ?_
          (repeat (first | (apply p_move; exact rfl; exact rfl; exact rfl) | (apply p_pick_f; exact rfl; exact rfl; exact rfl; exact rfl) | (apply p_neq; exact rfl; exact rfl; exact rfl; exact rfl)))
          refine p_is 93 false rfl (by simp) ?_
          (repeat (first | (apply p_cx; exact rfl; exact cbA rfl; (first | exact hcn | exact hcf); exact rfl; exact rfl; exact rfl) | (apply p_move; exact rfl; exact rfl; exact rfl) | (apply p_loadB; exact tyA rfl; exact rfl; exact rfl; exact rfl; exact rfl; exact rfl; exact rfl; exact rfl) | (apply p_pick_f; exact rfl; exact rfl; exact rfl; exact rfl) | (apply p_neq; exact rfl; exact rfl; exact rfl; exact rfl)))
          refine p_is 100 false rfl (by simp) ?_
          (repeat (first | (apply p_move; exact rfl; exact rfl; exact rfl) | (apply p_geq; exact rfl; exact rfl; exact rfl; exact rfl)))
          refine p_is 104 true rfl (by simpa using hc1) ?_
          (repeat (first | (apply p_move; exact rfl; exact rfl; exact rfl) | (apply p_fldP; exact flA rfl; exact rfl; exact rfl; exact rfl; exact rfl) | (apply p_loadB; exact tyA rfl; exact rfl; exact rfl; exact rfl; exact rfl; exact rfl; exact rfl; exact rfl) | (apply p_pick_t; exact rfl; exact rfl; exact rfl; exact rfl) | (apply p_pick_f; exact rfl; exact rfl; exact rfl; exact rfl) | (apply p_leq; exact rfl; exact rfl; exact rfl; exact rfl) | (apply p_lenL; exact slA rfl; exact rfl; exact rfl; exact rfl) | (apply p_neqB; exact boA rfl; exact rfl; exact rfl; exact rfl; exact rfl)))
          refine planL_nil (by kernel_rfl) ?_
          refine run_condN rfl (by simp; omega) ?_
          (repeat (first | (apply v_idxL; exact slA rfl; exact tyA rfl; exact rfl; exact rfl; exact rfl; exact rfl; exact (by omega); (first | exact hcx); exact rfl) | (apply v_move; exact rfl; exact rfl) | refine run_seq ?_ | refine run_region ?_ | refine run_skip ?_ | (apply v_fldP; exact flA rfl; exact rfl; exact rfl; exact rfl) | (apply v_loadB; exact tyA rfl; exact rfl; exact rfl; exact rfl; exact rfl; exact rfl; exact rfl) | (apply v_loadA; exact tyA rfl; exact rfl; exact rfl; exact rfl; exact rfl; exact rfl; exact rfl) | (apply v_on; exact rfl) | (apply v_sub; exact rfl; exact rfl; exact rfl; exact (by omega))))
          refine v_cR (mp [(0, 100)]) hs19 rfl (cbA rfl) ⟨rfl, trivial⟩ (by kernel_rfl) (by kernel_rfl) (by kernel_rfl) (by kernel_rfl) (by kernel_rfl) (by kernel_rfl) (by kernel_rfl) (by kernel_rfl) rfl ?_
          (repeat (first | (apply v_move; exact rfl; exact rfl) | refine run_seq ?_ | refine run_region ?_ | refine runL_nil ?_ | refine run_skip ?_ | (apply v_loadB; exact tyA rfl; exact rfl; exact rfl; exact rfl; exact rfl; exact rfl; exact rfl) | (apply v_on; exact rfl) | (apply v_off; exact rfl; exact rfl) | (apply v_pick_t; exact rfl; exact rfl; exact rfl) | (apply v_pick_f; exact rfl; exact rfl; exact rfl) | (apply run_cond; exact rfl; (focus (intro hb; cases hb; done)); intro hb; clear hb) | (apply v_not; exact rfl; exact rfl)))
          refine v_cR (mp [(0, 200), (1, 201)]) hcopy rfl (cbA rfl) trivial (by kernel_rfl) (by kernel_rfl) (by kernel_rfl) (by kernel_rfl) (by kernel_rfl) (by kernel_rfl) (by kernel_rfl) (by kernel_rfl) rfl ?_
          (repeat (first | refine run_seq ?_ | refine run_region ?_ | refine runL_nil ?_ | (apply v_loadB; exact tyA rfl; exact rfl; exact rfl; exact rfl; exact rfl; exact rfl; exact rfl) | (apply v_allocD; exact tyA rfl; exact rfl; exact rfl; exact rfl; exact rfl) | (apply v_storeW; exact tyA rfl; exact rfl; exact rfl; exact rfl; exact rfl; exact rfl; exact rfl; exact rfl)))
          refine v_cR (mp [(0, 200), (1, 201)]) hsame rfl (cbA rfl) ⟨rfl, rfl, trivial⟩ (by kernel_rfl) (by kernel_rfl) (by kernel_rfl) (by kernel_rfl) (by kernel_rfl) (by kernel_rfl) (by kernel_rfl) (by kernel_rfl) rfl ?_
          (repeat (first | refine run_seq ?_ | refine run_region ?_ | refine runL_nil ?_ | refine run_skip ?_ | (apply v_loadB; exact tyA rfl; exact rfl; exact rfl; exact rfl; exact rfl; exact rfl; exact rfl) | (apply run_cond; exact rfl; (focus (intro hb; cases hb; done)); intro hb; clear hb) | (apply v_not; exact rfl; exact rfl)))
          refine v_cR (mp [(0, 300), (1, 301)]) hcopy rfl (cbA rfl) trivial (by kernel_rfl) (by kernel_rfl) (by kernel_rfl) (by kernel_rfl) (by kernel_rfl) (by kernel_rfl) (by kernel_rfl) (by kernel_rfl) rfl ?_
          (repeat (first | (apply v_assign; exact rfl; exact rfl) | refine run_seq ?_ | refine run_region ?_ | refine runL_nil ?_ | refine run_block ?_ | (apply v_allocD; exact tyA rfl; exact rfl; exact rfl; exact rfl; exact rfl) | (apply v_storeW; exact tyA rfl; exact rfl; exact rfl; exact rfl; exact rfl; exact rfl; exact rfl; exact rfl)))
          refine v_loop (fun q : Nat × List OpD => ⟨[(3, .ptr 3 0), (17, .res 100), (19, .ptr 19 0), (20, .ptr 20 0), (21, .v (.int .i64 q.1))], [(3, .box 25 [.sem (listS opE main), .sem (listS callE calls)]), (19, .box 25 [.res 200, .res 201]), (20, .box 25 [.res 300, .res 301]), (200, .obj (ownS 33 opE q.2)), (201, .obj (nestP 22 33 opE calls [])), (300, .obj (ownS 33 opE main)), (301, .obj (nestP 22 33 opE calls [])), (100, .obj (ownS 33 opE l0))]⟩) (fun q => q.1 ≤ main.length ∧ q.2.length = main.length) (fun q => main.length - q.1) (0, main) idN trivial (by repeat (first | exact trivial | refine ⟨rfl, ?_⟩)) ⟨rfl, rfl, rfl, rfl, rfl, rfl, rfl, rfl, trivial⟩ rfl ⟨by simp, rfl⟩ fun ⟨i, xs⟩ ⟨hi, hx⟩ ih => ?_
          dsimp only at hi hx ⊢
          (repeat (first | (apply v_move; exact rfl; exact rfl) | refine run_seq ?_ | refine run_region ?_ | refine runL_nil ?_ | (apply v_fldP; exact flA rfl; exact rfl; exact rfl; exact rfl) | (apply v_loadB; exact tyA rfl; exact rfl; exact rfl; exact rfl; exact rfl; exact rfl; exact rfl) | (apply v_lss; exact rfl; exact rfl; exact rfl) | (apply v_lenO; exact slA rfl; exact rfl; exact rfl; exact rfl)))
          refine run_cond rfl (fun hb => ?_) (fun hb => ?_)
          · have hlt : i < xs.length := by simpa using hb
            have hx2 : xs[((i : Int)).toNat]? = some xs[i] := by simp [hlt]
            generalize xs[i] = z at *
            (repeat (first | (apply v_idxO; exact slA rfl; exact tyA rfl; exact rfl; exact rfl; exact rfl; exact rfl; exact (by omega); exact (by omega); exact rfl) | (apply v_move; exact rfl; exact rfl) | refine run_seq ?_ | refine run_region ?_ | refine run_skip ?_ | refine run_block ?_ | (apply v_fldP; exact flA rfl; exact rfl; exact rfl; exact rfl) | (apply v_loadB; exact tyA rfl; exact rfl; exact rfl; exact rfl; exact rfl; exact rfl; exact rfl)))
            refine v_storeO (xs := xs) (j := ((i : Int)).toNat) (f := 1) { z with a := 77 } (tyA rfl) rfl rfl rfl rfl hx2 rfl rfl (by decide) rfl rfl ?_
            (repeat (first | (apply v_move; exact rfl; exact rfl) | (apply v_assign; exact rfl; exact rfl) | refine run_region ?_ | refine runL_nil ?_ | refine run_inBlock ?_ | (apply v_add; exact rfl; exact rfl; exact rfl; exact (by omega))))
            exact v_again ih (i + 1, xs.set ((i : Int)).toNat { z with a := 77 }) idN trivial (by repeat (first | exact trivial | refine ⟨rfl, ?_⟩)) ⟨rfl, rfl, rfl, rfl, rfl, rfl, rfl, rfl, trivial⟩ rfl ⟨by simp only; omega, by simp only [List.length_set]; exact hx⟩ (by simp only; omega)
          · clear ih
            (repeat (first | (apply v_assign; exact rfl; exact rfl) | refine run_seq ?_ | refine run_region ?_ | refine runL_nil ?_ | refine run_block ?_ | (apply run_exit; exact rfl)))
            refine run_openN 201 401 rfl rfl rfl rfl rfl fun ps hps => ?_
            refine run_form 401 rfl fun hform => ?_
            have hpl : ps.length = calls.length := by rw [← hps, List.length_map]
            skip
            refine v_loop (fun q : Nat × List (SlV × List OpD) => ⟨[(3, .ptr 3 0), (17, .res 100), (19, .ptr 19 0), (20, .ptr 20 0), (22, .v (.int .i64 q.1))], [(3, .box 25 [.sem (listS opE main), .sem (listS callE calls)]), (19, .box 25 [.res 200, .res 201]), (20, .box 25 [.res 300, .res 301]), (200, .obj (ownS 33 opE xs)), (201, .obj (ownS 22 valE (ps.map (·.1)))), (401, .obj (manyR 33 opE q.2)), (300, .obj (ownS 33 opE main)), (301, .obj (nestP 22 33 opE calls [])), (100, .obj (ownS 33 opE l0))]⟩) (fun q => q.1 ≤ ps.length ∧ q.2.map (·.1) = ps.map (·.1) ∧ FormO q.2) (fun q => ps.length - q.1) (0, ps) idN trivial (by repeat (first | exact trivial | refine ⟨rfl, ?_⟩)) ⟨rfl, rfl, rfl, rfl, rfl, rfl, rfl, rfl, rfl, trivial⟩ rfl ⟨by simp, rfl, hform⟩ fun ⟨i2, qs⟩ ⟨hi2, hq1, hq2⟩ ih => ?_
            dsimp only at hi2 hq1 hq2 ⊢
            (repeat (first | (apply v_move; exact rfl; exact rfl) | refine run_seq ?_ | refine run_region ?_ | refine runL_nil ?_ | (apply v_fldP; exact flA rfl; exact rfl; exact rfl; exact rfl) | (apply v_loadB; exact tyA rfl; exact rfl; exact rfl; exact rfl; exact rfl; exact rfl; exact rfl) | (apply v_lss; exact rfl; exact rfl; exact rfl) | (apply v_lenO; exact slA rfl; exact rfl; exact rfl; exact rfl)))
            refine run_cond rfl (fun hb2 => ?_) (fun hb2 => ?_)
            · have hlt : i2 < (ps.map (·.1)).length := by simpa using hb2
              have hu2 : (ps.map (·.1))[i2]? = some (ps.map (·.1))[i2] := List.getElem?_eq_getElem hlt
              have hu3 : (ps.map (·.1))[((i2 : Int)).toNat]? = some (ps.map (·.1))[i2] := by rw [show ((i2 : Int)).toNat = i2 by omega]; exact hu2
              have hps2 : (ps.map (·.1)).length = ps.length := List.length_map ..
              have hsn := form_len hps hform hu2 hcl
              generalize (ps.map (·.1))[i2] = s at *
              (repeat (first | (apply v_assign; exact rfl; exact rfl) | refine run_seq ?_ | refine run_region ?_ | refine runL_nil ?_ | refine run_skip ?_ | refine run_block ?_))
              refine v_loop (fun q : Nat × List (SlV × List OpD) => ⟨[(3, .ptr 3 0), (17, .res 100), (19, .ptr 19 0), (20, .ptr 20 0), (22, .v (.int .i64 i2)), (23, .v (.int .i64 q.1))], [(3, .box 25 [.sem (listS opE main), .sem (listS callE calls)]), (19, .box 25 [.res 200, .res 201]), (20, .box 25 [.res 300, .res 301]), (200, .obj (ownS 33 opE xs)), (201, .obj (ownS 22 valE (ps.map (·.1)))), (401, .obj (manyR 33 opE q.2)), (300, .obj (ownS 33 opE main)), (301, .obj (nestP 22 33 opE calls [])), (100, .obj (ownS 33 opE l0))]⟩) (fun q => q.1 ≤ s.n ∧ q.2.map (·.1) = ps.map (·.1) ∧ FormO q.2) (fun q => s.n - q.1) (0, qs) idN trivial (by repeat (first | exact trivial | refine ⟨rfl, ?_⟩)) ⟨rfl, rfl, rfl, rfl, rfl, rfl, rfl, rfl, rfl, trivial⟩ rfl ⟨by simp, hq1, hq2⟩ fun ⟨j, qs⟩ ⟨hj, hq1, hq2⟩ ih2 => ?_
              dsimp only at hj hq1 hq2 ⊢
              (repeat (first | (apply v_idxO; exact slA rfl; exact tyA rfl; exact rfl; exact rfl; exact rfl; exact rfl; exact (by omega); exact (by omega); exact rfl) | (apply v_move; exact rfl; exact rfl) | refine run_seq ?_ | refine run_region ?_ | (apply v_fldP; exact flA rfl; exact rfl; exact rfl; exact rfl) | (apply v_loadB; exact tyA rfl; exact rfl; exact rfl; exact rfl; exact rfl; exact rfl; exact rfl)))
              refine v_loadO (f := 0) (j := ((i2 : Int)).toNat) (tyA rfl) rfl rfl rfl (by simp [valE]) hu3 (by decide) rfl rfl ?_
              refine v_lenV (slA rfl) rfl rfl ?_
              (repeat (first | refine runL_nil ?_ | (apply v_lss; exact rfl; exact rfl; exact rfl)))
              refine run_cond rfl (fun hb3 => ?_) (fun hb3 => ?_)
              · have hjn : j < s.n := by simpa using hb3
                obtain ⟨b, cap, l, hs1, hs2, hs3⟩ := form_at hq1 hq2 hu2 hjn
                subst hs1
                have hjl : l[((j : Int)).toNat]? = some l[j] := by simp [show j < l.length from hjn]
                generalize l[j] = z at *
                (repeat (first | (apply v_idxO; exact slA rfl; exact tyA rfl; exact rfl; exact rfl; exact rfl; exact rfl; exact (by omega); exact (by omega); exact rfl) | (apply v_move; exact rfl; exact rfl) | refine run_seq ?_ | refine run_region ?_ | refine run_skip ?_ | refine run_block ?_ | (apply v_fldP; exact flA rfl; exact rfl; exact rfl; exact rfl) | (apply v_loadB; exact tyA rfl; exact rfl; exact rfl; exact rfl; exact rfl; exact rfl; exact rfl)))
                refine v_loadO (f := 0) (j := ((i2 : Int)).toNat) (tyA rfl) rfl rfl rfl (by simp [valE]) hu3 (by decide) rfl rfl ?_
                (repeat (first | (apply v_move; exact rfl; exact rfl)))
                refine v_idxV (slA rfl) (tyA rfl) rfl rfl (by omega) (by omega) rfl ?_
                refine v_fldV (flA rfl) rfl rfl rfl ?_
                refine v_storeM (h := 401) (e := 33) (E := opE) i2 ((j : Int)).toNat 1 { z with a := 77 } (tyA rfl) rfl rfl rfl hs2 rfl hjl rfl rfl (by decide) rfl rfl ?_
                (repeat (first | (apply v_move; exact rfl; exact rfl) | (apply v_assign; exact rfl; exact rfl) | refine run_region ?_ | refine runL_nil ?_ | refine run_inBlock ?_ | (apply v_add; exact rfl; exact rfl; exact rfl; exact (by omega))))
                exact v_again ih2 (j + 1, qs.set i2 (⟨some ⟨b, 0, none⟩, l.length, cap⟩, l.set ((j : Int)).toNat { z with a := 77 })) idN trivial (by repeat (first | exact trivial | refine ⟨rfl, ?_⟩)) ⟨rfl, rfl, rfl, rfl, rfl, rfl, rfl, rfl, rfl, trivial⟩ rfl ⟨by simp only; omega, (form_set hq1 hs2 (by simp)).1, (form_set hq1 hs2 (by simp)).2 hq2⟩ (by simp only; omega)
              · clear ih2
                (repeat (first | (apply v_move; exact rfl; exact rfl) | (apply v_assign; exact rfl; exact rfl) | refine run_region ?_ | refine runL_nil ?_ | refine run_inBlock ?_ | (apply run_exit; exact rfl) | (apply v_add; exact rfl; exact rfl; exact rfl; exact (by omega))))
                exact v_again ih (i2 + 1, qs) idN trivial (by repeat (first | exact trivial | refine ⟨rfl, ?_⟩)) ⟨rfl, rfl, rfl, rfl, rfl, rfl, rfl, rfl, rfl, trivial⟩ rfl ⟨by simp only; omega, hq1, hq2⟩ (by simp only; omega)
            · clear ih
              (repeat (first | (apply v_assign; exact rfl; exact rfl) | refine run_seq ?_ | refine run_region ?_ | refine runL_nil ?_ | refine run_block ?_ | (apply run_exit; exact rfl)))
              refine v_loop (fun q : Nat × List OpD => ⟨[(3, .ptr 3 0), (17, .res 100), (20, .ptr 20 0), (24, .v (.int .i64 q.1))], [(3, .box 25 [.sem (listS opE main), .sem (listS callE calls)]), (20, .box 25 [.res 300, .res 301]), (300, .obj (ownS 33 opE main)), (301, .obj (nestP 22 33 opE calls [])), (100, .obj (ownS 33 opE q.2))]⟩) (fun q => q.1 ≤ l0.length ∧ q.2.length = l0.length) (fun q => l0.length - q.1) (0, l0) idN trivial (by repeat (first | exact trivial | refine ⟨rfl, ?_⟩)) ⟨rfl, rfl, rfl, rfl, rfl, trivial⟩ rfl ⟨by simp, rfl⟩ fun ⟨i3, xs3⟩ ⟨hi3, hx3⟩ ih => ?_
              dsimp only at hi3 hx3 ⊢
              (repeat (first | (apply v_move; exact rfl; exact rfl) | refine run_seq ?_ | refine run_region ?_ | refine runL_nil ?_ | (apply v_lss; exact rfl; exact rfl; exact rfl) | (apply v_lenO; exact slA rfl; exact rfl; exact rfl; exact rfl)))
              refine run_cond rfl (fun hb => ?_) (fun hb => ?_)
              · have hlt : i3 < xs3.length := by simpa using hb
                have hx2 : xs3[((i3 : Int)).toNat]? = some xs3[i3] := by simp [hlt]
                generalize xs3[i3] = z at *
                (repeat (first | (apply v_idxO; exact slA rfl; exact tyA rfl; exact rfl; exact rfl; exact rfl; exact rfl; exact (by omega); exact (by omega); exact rfl) | (apply v_move; exact rfl; exact rfl) | refine run_seq ?_ | refine run_region ?_ | refine run_skip ?_ | refine run_block ?_ | (apply v_fldP; exact flA rfl; exact rfl; exact rfl; exact rfl)))
                refine v_storeO (xs := xs3) (j := ((i3 : Int)).toNat) (f := 1) { z with a := 77 } (tyA rfl) rfl rfl rfl rfl hx2 rfl rfl (by decide) rfl rfl ?_
                (repeat (first | (apply v_move; exact rfl; exact rfl) | (apply v_assign; exact rfl; exact rfl) | refine run_region ?_ | refine runL_nil ?_ | refine run_inBlock ?_ | (apply v_add; exact rfl; exact rfl; exact rfl; exact (by omega))))
                exact v_again ih (i3 + 1, xs3.set ((i3 : Int)).toNat { z with a := 77 }) idN trivial (by repeat (first | exact trivial | refine ⟨rfl, ?_⟩)) ⟨rfl, rfl, rfl, rfl, rfl, trivial⟩ rfl ⟨by simp only; omega, by simp only [List.length_set]; exact hx3⟩ (by simp only; omega)
              · clear ih
                (repeat (first | refine run_seq ?_ | refine run_region ?_ | (apply run_exit; exact rfl) | (apply v_loadB; exact tyA rfl; exact rfl; exact rfl; exact rfl; exact rfl; exact rfl; exact rfl)))
                refine v_cR (mp [(0, 300), (1, 301)]) hsame rfl (cbA rfl) ⟨rfl, rfl, trivial⟩ (by kernel_rfl) (by kernel_rfl) (by kernel_rfl) (by kernel_rfl) (by kernel_rfl) (by kernel_rfl) (by kernel_rfl) (by kernel_rfl) rfl ?_
                (repeat (first | (apply v_assign; exact rfl; exact rfl) | refine runL_nil ?_))
                exact run_ret idN _ Tryd.func4 ⟨_, _, rfl, rfl, rfl⟩ rfl trivial trivial rfl
        · have hcall := call_out (main := main) hc hl
          by_cases hc1 : 1 ≤ cb
          · refine fun_intro 192 Tryd.func4 rfl rfl rfl (fun ι F S w => ?_)
            (repeat (first | (apply v_cx; exact rfl; exact cbA rfl; (first | exact awake20); exact rfl; exact rfl) | (apply v_move; exact rfl; exact rfl) | (apply v_assign; exact rfl; exact rfl) | refine run_seq ?_ | refine run_region ?_ | refine runL_nil ?_ | refine run_skip ?_ | (apply v_fldP; exact flA rfl; exact rfl; exact rfl; exact rfl) | (apply v_loadB; exact tyA rfl; exact rfl; exact rfl; exact rfl; exact rfl; exact rfl; exact rfl) | (apply run_cond; exact rfl; (focus (intro hb; cases hb; done)); intro hb; clear hb) | (apply v_not; exact rfl; exact rfl) | (apply v_gtr; exact rfl; exact rfl; exact rfl) | (apply v_lenL; exact slA rfl; exact rfl; exact rfl) | (apply v_boxD; exact rfl; exact rfl; exact rfl; exact rfl; exact rfl; exact rfl; exact rfl)))
            refine v_is 31 false rfl (by simp; omega) ?_
            (repeat (first | (apply v_cx; exact rfl; exact cbA rfl; (first | exact hcf); exact rfl; exact rfl) | refine runL_nil ?_ | (apply v_loadB; exact tyA rfl; exact rfl; exact rfl; exact rfl; exact rfl; exact rfl; exact rfl) | (apply v_on; exact rfl) | (apply v_pick_f; exact rfl; exact rfl; exact rfl) | (apply v_gtr; exact rfl; exact rfl; exact rfl)))
            refine run_condN rfl (by simp; omega) ?_
            (repeat (first | (apply v_move; exact rfl; exact rfl) | refine run_seq ?_ | refine run_region ?_ | refine runL_nil ?_ | refine run_skip ?_ | (apply v_eql; exact rfl; exact rfl; exact rfl)))
            refine run_condY rfl (by simpa using he) ?_
            (repeat (first | refine run_seq ?_ | refine run_region ?_ | refine runL_nil ?_ | (apply v_loadB; exact tyA rfl; exact rfl; exact rfl; exact rfl; exact rfl; exact rfl; exact rfl) | (apply v_allocD; exact tyA rfl; exact rfl; exact rfl; exact rfl; exact rfl) | (apply v_storeW; exact tyA rfl; exact rfl; exact rfl; exact rfl; exact rfl; exact rfl; exact rfl; exact rfl)))
            refine v_litO opW [] [] [] (slA rfl) (tyA rfl) rfl rfl trivial rfl rfl rfl rfl rfl rfl rfl rfl rfl rfl rfl rfl ?_
            (repeat (first | (apply v_fldP; exact flA rfl; exact rfl; exact rfl; exact rfl) | (apply v_loadB; exact tyA rfl; exact rfl; exact rfl; exact rfl; exact rfl; exact rfl; exact rfl)))
            refine runL_le 41 (x := .sem (listS opE main)) rfl (opW_le main) ?_
            refine v_appendD (slA rfl) (tyA rfl) rfl rfl rfl rfl rfl rfl rfl (by simp; omega) rfl rfl rfl rfl ?_
            (repeat (first | refine run_seq ?_ | refine runL_nil ?_ | refine run_block ?_ | (apply v_fldP; exact flA rfl; exact rfl; exact rfl; exact rfl) | (apply v_storeB; exact tyA rfl; exact rfl; exact rfl; exact rfl; exact rfl; exact rfl; exact rfl; exact rfl)))
            refine v_loop (fun xs : List OpD => ⟨[(1, .v (.int .i64 cb)), (3, .ptr 3 0), (7, .ptr 7 0)], [(3, .box 25 [.sem (listS opE main), .sem (listS callE calls)]), (7, .box 25 [.res 42, .sem (listS callE calls)]), (42, .obj (ownS 33 opW xs))]⟩) (fun xs => xs.length ≤ 1000000) (fun xs => 4097 - xs.length) main idN trivial (by repeat (first | exact trivial | refine ⟨rfl, ?_⟩)) ⟨rfl, rfl, rfl, trivial⟩ rfl (by omega) fun xs hxs ih => ?_
            (repeat (first | refine run_seq ?_ | refine run_region ?_ | refine runL_nil ?_ | (apply v_fldP; exact flA rfl; exact rfl; exact rfl; exact rfl) | (apply v_loadB; exact tyA rfl; exact rfl; exact rfl; exact rfl; exact rfl; exact rfl; exact rfl) | (apply v_lss; exact rfl; exact rfl; exact rfl) | (apply v_lenO; exact slA rfl; exact rfl; exact rfl; exact rfl)))
            refine run_cond rfl (fun hb => ?_) (fun hb => ?_)
            · have hlt : xs.length < 4097 := by have : (xs.length : Int) < 4097 := (by simpa using hb); omega
              (repeat (first | refine run_region ?_ | refine run_skip ?_ | refine run_block ?_ | (apply v_fldP; exact flA rfl; exact rfl; exact rfl; exact rfl) | (apply v_loadB; exact tyA rfl; exact rfl; exact rfl; exact rfl; exact rfl; exact rfl; exact rfl) | (apply v_b; exact plA rfl; exact tyA rfl; exact rfl; exact rfl; exact rfl)))
              refine v_l opW [⟨17, 1, 0, 0, 0, ⟨#[]⟩⟩] (slA rfl) (tyA rfl) rfl rfl rfl rfl rfl rfl rfl rfl rfl rfl ?_
              refine v_appendD (slA rfl) (tyA rfl) rfl rfl rfl rfl rfl rfl rfl (by simp; omega) rfl rfl rfl rfl ?_
              (repeat (first | refine runL_nil ?_ | refine run_inBlock ?_ | (apply v_fldP; exact flA rfl; exact rfl; exact rfl; exact rfl) | (apply v_storeB; exact tyA rfl; exact rfl; exact rfl; exact rfl; exact rfl; exact rfl; exact rfl; exact rfl)))
              exact v_again ih (xs ++ [⟨17, 1, 0, 0, 0, ⟨#[]⟩⟩]) (mp [(42, 52)]) trivial (by repeat (first | exact trivial | refine ⟨rfl, ?_⟩)) ⟨rfl, rfl, rfl, trivial⟩ rfl (by simp; omega) (by simp; omega)
            clear ih
            have hge : 4096 < xs.length := by have : (4097 : Int) ≤ (xs.length : Int) := (by simpa using hb); omega
            refine run_freezeIn 7 42 rfl rfl rfl ?_
            have hbig := checkBig_f (E := opW) (main := xs) (calls := calls) (by omega) hl hge
            (repeat (first | (apply v_cx; exact rfl; exact cbA rfl; (first | exact hbig); exact rfl; exact rfl) | (apply v_move; exact rfl; exact rfl) | (apply v_assign; exact rfl; exact rfl) | refine run_seq ?_ | refine run_region ?_ | refine runL_nil ?_ | refine run_skip ?_ | (apply run_exit; exact rfl) | (apply v_extract; exact rfl; exact rfl; exact rfl) | (apply v_loadB; exact tyA rfl; exact rfl; exact rfl; exact rfl; exact rfl; exact rfl; exact rfl) | (apply run_cond; exact rfl; (focus (intro hb; cases hb; done)); intro hb; clear hb) | (apply v_neq; exact rfl; exact rfl; exact rfl)))
            (repeat (first | (apply v_cx; exact rfl; exact cbA rfl; (first | exact hk | exact hk2); exact rfl; exact rfl) | (apply v_move; exact rfl; exact rfl) | (apply v_assign; exact rfl; exact rfl) | refine run_seq ?_ | refine run_region ?_ | refine runL_nil ?_ | (apply v_extract; exact rfl; exact rfl; exact rfl) | (apply v_loadB; exact tyA rfl; exact rfl; exact rfl; exact rfl; exact rfl; exact rfl; exact rfl)))
            (repeat (first | (apply v_cx; exact rfl; exact cbA rfl; (first | exact hcall); exact rfl; exact rfl) | (apply v_move; exact rfl; exact rfl) | (apply v_assign; exact rfl; exact rfl) | refine run_seq ?_ | refine runL_nil ?_ | (apply v_extract; exact rfl; exact rfl; exact rfl)))
            refine run_draws (by kernel_rfl) (by kernel_rfl) ?_
            (repeat (first | (apply p_move; exact rfl; exact rfl; exact rfl) | (apply p_neq; exact rfl; exact rfl; exact rfl; exact rfl)))
            refine p_is 83 false rfl (by simp) ?_
            (repeat (first | (apply p_move; exact rfl; exact rfl; exact rfl) | (apply p_pick_f; exact rfl; exact rfl; exact rfl; exact rfl) | (apply p_neq; exact rfl; exact rfl; exact rfl; exact rfl)))
            refine p_is 88 false rfl (by simp) ?_
            (repeat (first | (apply p_move; exact rfl; exact rfl; exact rfl) | (apply p_pick_f; exact rfl; exact rfl; exact rfl; exact rfl) | (apply p_neq; exact rfl; exact rfl; exact rfl; exact rfl)))
            refine p_is 93 false rfl (by simp) ?_
            (repeat (first | (apply p_cx; exact rfl; exact cbA rfl; (first | exact hcn | exact hcf); exact rfl; exact rfl; exact rfl) | (apply p_move; exact rfl; exact rfl; exact rfl) | (apply p_loadB; exact tyA rfl; exact rfl; exact rfl; exact rfl; exact rfl; exact rfl; exact rfl; exact rfl) | (apply p_pick_f; exact rfl; exact rfl; exact rfl; exact rfl) | (apply p_neq; exact rfl; exact rfl; exact rfl; exact rfl)))
            refine p_is 100 false rfl (by simp) ?_
            (repeat (first | (apply p_move; exact rfl; exact rfl; exact rfl) | (apply p_geq; exact rfl; exact rfl; exact rfl; exact rfl)))
            refine p_is 104 true rfl (by simpa using hc1) ?_
            (repeat (first | (apply p_move; exact rfl; exact rfl; exact rfl) | (apply p_fldP; exact flA rfl; exact rfl; exact rfl; exact rfl; exact rfl) | (apply p_loadB; exact tyA rfl; exact rfl; exact rfl; exact rfl; exact rfl; exact rfl; exact rfl; exact rfl) | (apply p_pick_t; exact rfl; exact rfl; exact rfl; exact rfl) | (apply p_pick_f; exact rfl; exact rfl; exact rfl; exact rfl) | (apply p_leq; exact rfl; exact rfl; exact rfl; exact rfl) | (apply p_lenL; exact slA rfl; exact rfl; exact rfl; exact rfl) | (apply p_neqB; exact boA rfl; exact rfl; exact rfl; exact rfl; exact rfl)))
            refine planL_nil (by kernel_rfl) ?_
            refine run_condN rfl (by simp; omega) ?_
            (repeat (first | (apply v_move; exact rfl; exact rfl) | refine run_seq ?_ | refine run_region ?_ | refine runL_nil ?_ | refine run_skip ?_ | (apply v_loadB; exact tyA rfl; exact rfl; exact rfl; exact rfl; exact rfl; exact rfl; exact rfl) | (apply v_on; exact rfl) | (apply v_off; exact rfl; exact rfl) | (apply v_pick_t; exact rfl; exact rfl; exact rfl) | (apply v_pick_f; exact rfl; exact rfl; exact rfl) | (apply run_cond; exact rfl; (focus (intro hb; cases hb; done)); intro hb; clear hb) | (apply v_not; exact rfl; exact rfl) | (apply v_neq; exact rfl; exact rfl; exact rfl) | (apply v_lenN; exact slA rfl; exact rfl; exact rfl)))
            refine v_cR (mp [(0, 200), (1, 201)]) hcopy rfl (cbA rfl) trivial (by kernel_rfl) (by kernel_rfl) (by kernel_rfl) (by kernel_rfl) (by kernel_rfl) (by kernel_rfl) (by kernel_rfl) (by kernel_rfl) rfl ?_
            (repeat (first | refine run_seq ?_ | refine run_region ?_ | refine runL_nil ?_ | (apply v_loadB; exact tyA rfl; exact rfl; exact rfl; exact rfl; exact rfl; exact rfl; exact rfl) | (apply v_allocD; exact tyA rfl; exact rfl; exact rfl; exact rfl; exact rfl) | (apply v_storeW; exact tyA rfl; exact rfl; exact rfl; exact rfl; exact rfl; exact rfl; exact rfl; exact rfl)))
            refine v_cR (mp [(0, 200), (1, 201)]) hsame rfl (cbA rfl) ⟨rfl, rfl, trivial⟩ (by kernel_rfl) (by kernel_rfl) (by kernel_rfl) (by kernel_rfl) (by kernel_rfl) (by kernel_rfl) (by kernel_rfl) (by kernel_rfl) rfl ?_
            (repeat (first | refine run_seq ?_ | refine run_region ?_ | refine runL_nil ?_ | refine run_skip ?_ | (apply v_loadB; exact tyA rfl; exact rfl; exact rfl; exact rfl; exact rfl; exact rfl; exact rfl) | (apply run_cond; exact rfl; (focus (intro hb; cases hb; done)); intro hb; clear hb) | (apply v_not; exact rfl; exact rfl)))
            refine v_cR (mp [(0, 300), (1, 301)]) hcopy rfl (cbA rfl) trivial (by kernel_rfl) (by kernel_rfl) (by kernel_rfl) (by kernel_rfl) (by kernel_rfl) (by kernel_rfl) (by kernel_rfl) (by kernel_rfl) rfl ?_
            (repeat (first | (apply v_assign; exact rfl; exact rfl) | refine run_seq ?_ | refine run_region ?_ | refine runL_nil ?_ | refine run_block ?_ | (apply v_allocD; exact tyA rfl; exact rfl; exact rfl; exact rfl; exact rfl) | (apply v_storeW; exact tyA rfl; exact rfl; exact rfl; exact rfl; exact rfl; exact rfl; exact rfl; exact rfl)))
            refine v_loop (fun q : Nat × List OpD => ⟨[(3, .ptr 3 0), (17, .v (.slice none 0 0)), (19, .ptr 19 0), (20, .ptr 20 0), (21, .v (.int .i64 q.1))], [(3, .box 25 [.sem (listS opE main), .sem (listS callE calls)]), (19, .box 25 [.res 200, .res 201]), (20, .box 25 [.res 300, .res 301]), (200, .obj (ownS 33 opE q.2)), (201, .obj (nestP 22 33 opE calls [])), (300, .obj (ownS 33 opE main)), (301, .obj (nestP 22 33 opE calls []))]⟩) (fun q => q.1 ≤ main.length ∧ q.2.length = main.length) (fun q => main.length - q.1) (0, main) idN trivial (by repeat (first | exact trivial | refine ⟨rfl, ?_⟩)) ⟨rfl, rfl, rfl, rfl, rfl, rfl, rfl, trivial⟩ rfl ⟨by simp, rfl⟩ fun ⟨i, xs⟩ ⟨hi, hx⟩ ih => ?_
            dsimp only at hi hx ⊢
            (repeat (first | (apply v_move; exact rfl; exact rfl) | refine run_seq ?_ | refine run_region ?_ | refine runL_nil ?_ | (apply v_fldP; exact flA rfl; exact rfl; exact rfl; exact rfl) | (apply v_loadB; exact tyA rfl; exact rfl; exact rfl; exact rfl; exact rfl; exact rfl; exact rfl) | (apply v_lss; exact rfl; exact rfl; exact rfl) | (apply v_lenO; exact slA rfl; exact rfl; exact rfl; exact rfl)))
            refine run_cond rfl (fun hb => ?_) (fun hb => ?_)
            · have hlt : i < xs.length := by simpa using hb
              have hx2 : xs[((i : Int)).toNat]? = some xs[i] := by simp [hlt]
              generalize xs[i] = z at *
              (repeat (first | (apply v_idxO; exact slA rfl; exact tyA rfl; exact rfl; exact rfl; exact rfl; exact rfl; exact (by omega); exact (by omega); exact rfl) | (apply v_move; exact rfl; exact rfl) | refine run_seq ?_ | refine run_region ?_ | refine run_skip ?_ | refine run_block ?_ | (apply v_fldP; exact flA rfl; exact rfl; exact rfl; exact rfl) | (apply v_loadB; exact tyA rfl; exact rfl; exact rfl; exact rfl; exact rfl; exact rfl; exact rfl)))
              refine v_storeO (xs := xs) (j := ((i : Int)).toNat) (f := 1) { z with a := 77 } (tyA rfl) rfl rfl rfl rfl hx2 rfl rfl (by decide) rfl rfl ?_
              (repeat (first | (apply v_move; exact rfl; exact rfl) | (apply v_assign; exact rfl; exact rfl) | refine run_region ?_ | refine runL_nil ?_ | refine run_inBlock ?_ | (apply v_add; exact rfl; exact rfl; exact rfl; exact (by omega))))
              exact v_again ih (i + 1, xs.set ((i : Int)).toNat { z with a := 77 }) idN trivial (by repeat (first | exact trivial | refine ⟨rfl, ?_⟩)) ⟨rfl, rfl, rfl, rfl, rfl, rfl, rfl, trivial⟩ rfl ⟨by simp only; omega, by simp only [List.length_set]; exact hx⟩ (by simp only; omega)
            · clear ih
              (repeat (first | (apply v_assign; exact rfl; exact rfl) | refine run_seq ?_ | refine run_region ?_ | refine runL_nil ?_ | refine run_block ?_ | (apply run_exit; exact rfl)))
              refine run_openN 201 401 rfl rfl rfl rfl rfl fun ps hps => ?_
              refine run_form 401 rfl fun hform => ?_
              have hpl : ps.length = calls.length := by rw [← hps, List.length_map]
              skip
              refine v_loop (fun q : Nat × List (SlV × List OpD) => ⟨[(3, .ptr 3 0), (17, .v (.slice none 0 0)), (19, .ptr 19 0), (20, .ptr 20 0), (22, .v (.int .i64 q.1))], [(3, .box 25 [.sem (listS opE main), .sem (listS callE calls)]), (19, .box 25 [.res 200, .res 201]), (20, .box 25 [.res 300, .res 301]), (200, .obj (ownS 33 opE xs)), (201, .obj (ownS 22 valE (ps.map (·.1)))), (401, .obj (manyR 33 opE q.2)), (300, .obj (ownS 33 opE main)), (301, .obj (nestP 22 33 opE calls []))]⟩) (fun q => q.1 ≤ ps.length ∧ q.2.map (·.1) = ps.map (·.1) ∧ FormO q.2) (fun q => ps.length - q.1) (0, ps) idN trivial (by repeat (first | exact trivial | refine ⟨rfl, ?_⟩)) ⟨rfl, rfl, rfl, rfl, rfl, rfl, rfl, rfl, trivial⟩ rfl ⟨by simp, rfl, hform⟩ fun ⟨i2, qs⟩ ⟨hi2, hq1, hq2⟩ ih => ?_
              dsimp only at hi2 hq1 hq2 ⊢
              (repeat (first | (apply v_move; exact rfl; exact rfl) | refine run_seq ?_ | refine run_region ?_ | refine runL_nil ?_ | (apply v_fldP; exact flA rfl; exact rfl; exact rfl; exact rfl) | (apply v_loadB; exact tyA rfl; exact rfl; exact rfl; exact rfl; exact rfl; exact rfl; exact rfl) | (apply v_lss; exact rfl; exact rfl; exact rfl) | (apply v_lenO; exact slA rfl; exact rfl; exact rfl; exact rfl)))
              refine run_cond rfl (fun hb2 => ?_) (fun hb2 => ?_)
              · have hlt : i2 < (ps.map (·.1)).length := by simpa using hb2
                have hu2 : (ps.map (·.1))[i2]? = some (ps.map (·.1))[i2] := List.getElem?_eq_getElem hlt
                have hu3 : (ps.map (·.1))[((i2 : Int)).toNat]? = some (ps.map (·.1))[i2] := by rw [show ((i2 : Int)).toNat = i2 by omega]; exact hu2
                have hps2 : (ps.map (·.1)).length = ps.length := List.length_map ..
                have hsn := form_len hps hform hu2 hcl
                generalize (ps.map (·.1))[i2] = s at *
                (repeat (first | (apply v_assign; exact rfl; exact rfl) | refine run_seq ?_ | refine run_region ?_ | refine runL_nil ?_ | refine run_skip ?_ | refine run_block ?_))
                refine v_loop (fun q : Nat × List (SlV × List OpD) => ⟨[(3, .ptr 3 0), (17, .v (.slice none 0 0)), (19, .ptr 19 0), (20, .ptr 20 0), (22, .v (.int .i64 i2)), (23, .v (.int .i64 q.1))], [(3, .box 25 [.sem (listS opE main), .sem (listS callE calls)]), (19, .box 25 [.res 200, .res 201]), (20, .box 25 [.res 300, .res 301]), (200, .obj (ownS 33 opE xs)), (201, .obj (ownS 22 valE (ps.map (·.1)))), (401, .obj (manyR 33 opE q.2)), (300, .obj (ownS 33 opE main)), (301, .obj (nestP 22 33 opE calls []))]⟩) (fun q => q.1 ≤ s.n ∧ q.2.map (·.1) = ps.map (·.1) ∧ FormO q.2) (fun q => s.n - q.1) (0, qs) idN trivial (by repeat (first | exact trivial | refine ⟨rfl, ?_⟩)) ⟨rfl, rfl, rfl, rfl, rfl, rfl, rfl, rfl, trivial⟩ rfl ⟨by simp, hq1, hq2⟩ fun ⟨j, qs⟩ ⟨hj, hq1, hq2⟩ ih2 => ?_
                dsimp only at hj hq1 hq2 ⊢
                (repeat (first | (apply v_idxO; exact slA rfl; exact tyA rfl; exact rfl; exact rfl; exact rfl; exact rfl; exact (by omega); exact (by omega); exact rfl) | (apply v_move; exact rfl; exact rfl) | refine run_seq ?_ | refine run_region ?_ | (apply v_fldP; exact flA rfl; exact rfl; exact rfl; exact rfl) | (apply v_loadB; exact tyA rfl; exact rfl; exact rfl; exact rfl; exact rfl; exact rfl; exact rfl)))
                refine v_loadO (f := 0) (j := ((i2 : Int)).toNat) (tyA rfl) rfl rfl rfl (by simp [valE]) hu3 (by decide) rfl rfl ?_
                refine v_lenV (slA rfl) rfl rfl ?_
                (repeat (first | refine runL_nil ?_ | (apply v_lss; exact rfl; exact rfl; exact rfl)))
                refine run_cond rfl (fun hb3 => ?_) (fun hb3 => ?_)
                · have hjn : j < s.n := by simpa using hb3
                  obtain ⟨b, cap, l, hs1, hs2, hs3⟩ := form_at hq1 hq2 hu2 hjn
                  subst hs1
                  have hjl : l[((j : Int)).toNat]? = some l[j] := by simp [show j < l.length from hjn]
                  generalize l[j] = z at *
                  (repeat (first | (apply v_idxO; exact slA rfl; exact tyA rfl; exact rfl; exact rfl; exact rfl; exact rfl; exact (by omega); exact (by omega); exact rfl) | (apply v_move; exact rfl; exact rfl) | refine run_seq ?_ | refine run_region ?_ | refine run_skip ?_ | refine run_block ?_ | (apply v_fldP; exact flA rfl; exact rfl; exact rfl; exact rfl) | (apply v_loadB; exact tyA rfl; exact rfl; exact rfl; exact rfl; exact rfl; exact rfl; exact rfl)))
                  refine v_loadO (f := 0) (j := ((i2 : Int)).toNat) (tyA rfl) rfl rfl rfl (by simp [valE]) hu3 (by decide) rfl rfl ?_
                  (repeat (first | (apply v_move; exact rfl; exact rfl)))
                  refine v_idxV (slA rfl) (tyA rfl) rfl rfl (by omega) (by omega) rfl ?_
                  refine v_fldV (flA rfl) rfl rfl rfl ?_
                  refine v_storeM (h := 401) (e := 33) (E := opE) i2 ((j : Int)).toNat 1 { z with a := 77 } (tyA rfl) rfl rfl rfl hs2 rfl hjl rfl rfl (by decide) rfl rfl ?_
                  (repeat (first | (apply v_move; exact rfl; exact rfl) | (apply v_assign; exact rfl; exact rfl) | refine run_region ?_ | refine runL_nil ?_ | refine run_inBlock ?_ | (apply v_add; exact rfl; exact rfl; exact rfl; exact (by omega))))
                  exact v_again ih2 (j + 1, qs.set i2 (⟨some ⟨b, 0, none⟩, l.length, cap⟩, l.set ((j : Int)).toNat { z with a := 77 })) idN trivial (by repeat (first | exact trivial | refine ⟨rfl, ?_⟩)) ⟨rfl, rfl, rfl, rfl, rfl, rfl, rfl, rfl, trivial⟩ rfl ⟨by simp only; omega, (form_set hq1 hs2 (by simp)).1, (form_set hq1 hs2 (by simp)).2 hq2⟩ (by simp only; omega)
                · clear ih2
                  (repeat (first | (apply v_move; exact rfl; exact rfl) | (apply v_assign; exact rfl; exact rfl) | refine run_region ?_ | refine runL_nil ?_ | refine run_inBlock ?_ | (apply run_exit; exact rfl) | (apply v_add; exact rfl; exact rfl; exact rfl; exact (by omega))))
                  exact v_again ih (i2 + 1, qs) idN trivial (by repeat (first | exact trivial | refine ⟨rfl, ?_⟩)) ⟨rfl, rfl, rfl, rfl, rfl, rfl, rfl, rfl, trivial⟩ rfl ⟨by simp only; omega, hq1, hq2⟩ (by simp only; omega)
              · clear ih
                (repeat (first | (apply v_assign; exact rfl; exact rfl) | refine run_seq ?_ | refine run_region ?_ | refine runL_nil ?_ | refine run_block ?_ | (apply run_exit; exact rfl)))
                refine v_loop (fun _ : Unit => ⟨[(3, .ptr 3 0), (17, .v (.slice none 0 0)), (20, .ptr 20 0), (24, .v (.int .i64 0))], [(3, .box 25 [.sem (listS opE main), .sem (listS callE calls)]), (20, .box 25 [.res 300, .res 301]), (300, .obj (ownS 33 opE main)), (301, .obj (nestP 22 33 opE calls []))]⟩) (fun _ => True) (fun _ => 0) () idN trivial (by repeat (first | exact trivial | refine ⟨rfl, ?_⟩)) ⟨rfl, rfl, rfl, rfl, trivial⟩ rfl trivial fun _ _ ih => ?_
                clear ih
                (repeat (first | (apply v_move; exact rfl; exact rfl) | refine run_seq ?_ | refine run_region ?_ | refine runL_nil ?_ | (apply run_exit; exact rfl) | (apply v_loadB; exact tyA rfl; exact rfl; exact rfl; exact rfl; exact rfl; exact rfl; exact rfl) | (apply run_cond; exact rfl; (focus (intro hb; cases hb; done)); intro hb; clear hb) | (apply v_lss; exact rfl; exact rfl; exact rfl) | (apply v_lenN; exact slA rfl; exact rfl; exact rfl)))
                refine v_cR (mp [(0, 300), (1, 301)]) hsame rfl (cbA rfl) ⟨rfl, rfl, trivial⟩ (by kernel_rfl) (by kernel_rfl) (by kernel_rfl) (by kernel_rfl) (by kernel_rfl) (by kernel_rfl) (by kernel_rfl) (by kernel_rfl) rfl ?_
                (repeat (first | (apply v_assign; exact rfl; exact rfl) | refine runL_nil ?_))
                exact run_ret idN _ Tryd.func4 ⟨_, _, rfl, rfl, rfl⟩ rfl trivial trivial rfl
          · refine fun_intro 192 Tryd.func4 rfl rfl rfl (fun ι F S w => ?_)
            (repeat (first | (apply v_cx; exact rfl; exact cbA rfl; (first | exact awake20); exact rfl; exact rfl) | (apply v_move; exact rfl; exact rfl) | (apply v_assign; exact rfl; exact rfl) | refine run_seq ?_ | refine run_region ?_ | refine runL_nil ?_ | refine run_skip ?_ | (apply v_fldP; exact flA rfl; exact rfl; exact rfl; exact rfl) | (apply v_loadB; exact tyA rfl; exact rfl; exact rfl; exact rfl; exact rfl; exact rfl; exact rfl) | (apply run_cond; exact rfl; (focus (intro hb; cases hb; done)); intro hb; clear hb) | (apply v_not; exact rfl; exact rfl) | (apply v_gtr; exact rfl; exact rfl; exact rfl) | (apply v_lenL; exact slA rfl; exact rfl; exact rfl) | (apply v_boxD; exact rfl; exact rfl; exact rfl; exact rfl; exact rfl; exact rfl; exact rfl)))
            refine v_is 31 false rfl (by simp; omega) ?_
            (repeat (first | (apply v_cx; exact rfl; exact cbA rfl; (first | exact hcf); exact rfl; exact rfl) | refine runL_nil ?_ | (apply v_loadB; exact tyA rfl; exact rfl; exact rfl; exact rfl; exact rfl; exact rfl; exact rfl) | (apply v_on; exact rfl) | (apply v_pick_f; exact rfl; exact rfl; exact rfl) | (apply v_gtr; exact rfl; exact rfl; exact rfl)))
            refine run_condN rfl (by simp; omega) ?_
            (repeat (first | (apply v_move; exact rfl; exact rfl) | refine run_seq ?_ | refine run_region ?_ | refine runL_nil ?_ | refine run_skip ?_ | (apply v_eql; exact rfl; exact rfl; exact rfl)))
            refine run_condY rfl (by simpa using he) ?_
            (repeat (first | refine run_seq ?_ | refine run_region ?_ | refine runL_nil ?_ | (apply v_loadB; exact tyA rfl; exact rfl; exact rfl; exact rfl; exact rfl; exact rfl; exact rfl) | (apply v_allocD; exact tyA rfl; exact rfl; exact rfl; exact rfl; exact rfl) | (apply v_storeW; exact tyA rfl; exact rfl; exact rfl; exact rfl; exact rfl; exact rfl; exact rfl; exact rfl)))
            refine v_litO opW [] [] [] (slA rfl) (tyA rfl) rfl rfl trivial rfl rfl rfl rfl rfl rfl rfl rfl rfl rfl rfl rfl ?_
            (repeat (first | (apply v_fldP; exact flA rfl; exact rfl; exact rfl; exact rfl) | (apply v_loadB; exact tyA rfl; exact rfl; exact rfl; exact rfl; exact rfl; exact rfl; exact rfl)))
            refine runL_le 41 (x := .sem (listS opE main)) rfl (opW_le main) ?_
            refine v_appendD (slA rfl) (tyA rfl) rfl rfl rfl rfl rfl rfl rfl (by simp; omega) rfl rfl rfl rfl ?_
            (repeat (first | refine run_seq ?_ | refine runL_nil ?_ | refine run_block ?_ | (apply v_fldP; exact flA rfl; exact rfl; exact rfl; exact rfl) | (apply v_storeB; exact tyA rfl; exact rfl; exact rfl; exact rfl; exact rfl; exact rfl; exact rfl; exact rfl)))
            refine v_loop (fun xs : List OpD => ⟨[(1, .v (.int .i64 cb)), (3, .ptr 3 0), (7, .ptr 7 0)], [(3, .box 25 [.sem (listS opE main), .sem (listS callE calls)]), (7, .box 25 [.res 42, .sem (listS callE calls)]), (42, .obj (ownS 33 opW xs))]⟩) (fun xs => xs.length ≤ 1000000) (fun xs => 4097 - xs.length) main idN trivial (by repeat (first | exact trivial | refine ⟨rfl, ?_⟩)) ⟨rfl, rfl, rfl, trivial⟩ rfl (by omega) fun xs hxs ih => ?_
            (repeat (first | refine run_seq ?_ | refine run_region ?_ | refine runL_nil ?_ | (apply v_fldP; exact flA rfl; exact rfl; exact rfl; exact rfl) | (apply v_loadB; exact tyA rfl; exact rfl; exact rfl; exact rfl; exact rfl; exact rfl; exact rfl) | (apply v_lss; exact rfl; exact rfl; exact rfl) | (apply v_lenO; exact slA rfl; exact rfl; exact rfl; exact rfl)))
            refine run_cond rfl (fun hb => ?_) (fun hb => ?_)
            · have hlt : xs.length < 4097 := by have : (xs.length : Int) < 4097 := (by simpa using hb); omega
              (repeat (first | refine run_region ?_ | refine run_skip ?_ | refine run_block ?_ | (apply v_fldP; exact flA rfl; exact rfl; exact rfl; exact rfl) | (apply v_loadB; exact tyA rfl; exact rfl; exact rfl; exact rfl; exact rfl; exact rfl; exact rfl) | (apply v_b; exact plA rfl; exact tyA rfl; exact rfl; exact rfl; exact rfl)))
              refine v_l opW [⟨17, 1, 0, 0, 0, ⟨#[]⟩⟩] (slA rfl) (tyA rfl) rfl rfl rfl rfl rfl rfl rfl rfl rfl rfl ?_
              refine v_appendD (slA rfl) (tyA rfl) rfl rfl rfl rfl rfl rfl rfl (by simp; omega) rfl rfl rfl rfl ?_
              (repeat (first | refine runL_nil ?_ | refine run_inBlock ?_ | (apply v_fldP; exact flA rfl; exact rfl; exact rfl; exact rfl) | (apply v_storeB; exact tyA rfl; exact rfl; exact rfl; exact rfl; exact rfl; exact rfl; exact rfl; exact rfl)))
              exact v_again ih (xs ++ [⟨17, 1, 0, 0, 0, ⟨#[]⟩⟩]) (mp [(42, 52)]) trivial (by repeat (first | exact trivial | refine ⟨rfl, ?_⟩)) ⟨rfl, rfl, rfl, trivial⟩ rfl (by simp; omega) (by simp; omega)
            clear ih
            have hge : 4096 < xs.length := by have : (4097 : Int) ≤ (xs.length : Int) := (by simpa using hb); omega
            refine run_freezeIn 7 42 rfl rfl rfl ?_
            have hbig := checkBig_f (E := opW) (main := xs) (calls := calls) (by omega) hl hge
            (repeat (first | (apply v_cx; exact rfl; exact cbA rfl; (first | exact hbig); exact rfl; exact rfl) | (apply v_move; exact rfl; exact rfl) | (apply v_assign; exact rfl; exact rfl) | refine run_seq ?_ | refine run_region ?_ | refine runL_nil ?_ | refine run_skip ?_ | (apply run_exit; exact rfl) | (apply v_extract; exact rfl; exact rfl; exact rfl) | (apply v_loadB; exact tyA rfl; exact rfl; exact rfl; exact rfl; exact rfl; exact rfl; exact rfl) | (apply run_cond; exact rfl; (focus (intro hb; cases hb; done)); intro hb; clear hb) | (apply v_neq; exact rfl; exact rfl; exact rfl)))
            (repeat (first | (apply v_cx; exact rfl; exact cbA rfl; (first | exact hk | exact hk2); exact rfl; exact rfl) | (apply v_move; exact rfl; exact rfl) | (apply v_assign; exact rfl; exact rfl) | refine run_seq ?_ | refine run_region ?_ | refine runL_nil ?_ | (apply v_extract; exact rfl; exact rfl; exact rfl) | (apply v_loadB; exact tyA rfl; exact rfl; exact rfl; exact rfl; exact rfl; exact rfl; exact rfl)))
            (repeat (first | (apply v_cx; exact rfl; exact cbA rfl; (first | exact hcall); exact rfl; exact rfl) | (apply v_move; exact rfl; exact rfl) | (apply v_assign; exact rfl; exact rfl) | refine run_seq ?_ | refine runL_nil ?_ | (apply v_extract; exact rfl; exact rfl; exact rfl)))
            refine run_draws (by kernel_rfl) (by kernel_rfl) ?_
            (repeat (first | (apply p_move; exact rfl; exact rfl; exact rfl) | (apply p_neq; exact rfl; exact rfl; exact rfl; exact rfl)))
            refine p_is 83 false rfl (by simp) ?_
            (repeat (first | (apply p_move; exact rfl; exact rfl; exact rfl) | (apply p_pick_f; exact rfl; exact rfl; exact rfl; exact rfl) | (apply p_neq; exact rfl; exact rfl; exact rfl; exact rfl)))
            refine p_is 88 false rfl (by simp) ?_
            (repeat (first | (apply p_move; exact rfl; exact rfl; exact rfl) | (apply p_pick_f; exact rfl; exact rfl; exact rfl; exact rfl) | (apply p_neq; exact rfl; exact rfl; exact rfl; exact rfl)))
            refine p_is 93 false rfl (by simp) ?_
            (repeat (first | (apply p_cx; exact rfl; exact cbA rfl; (first | exact hcn | exact hcf); exact rfl; exact rfl; exact rfl) | (apply p_move; exact rfl; exact rfl; exact rfl) | (apply p_loadB; exact tyA rfl; exact rfl; exact rfl; exact rfl; exact rfl; exact rfl; exact rfl; exact rfl) | (apply p_pick_f; exact rfl; exact rfl; exact rfl; exact rfl) | (apply p_neq; exact rfl; exact rfl; exact rfl; exact rfl)))
            refine p_is 100 false rfl (by simp) ?_
            (repeat (first | (apply p_move; exact rfl; exact rfl; exact rfl) | (apply p_geq; exact rfl; exact rfl; exact rfl; exact rfl)))
            refine p_is 104 false rfl (by simpa using hc1) ?_
            (repeat (first | (apply p_off; exact rfl; exact rfl) | (apply p_pick_f; exact rfl; exact rfl; exact rfl; exact rfl) | (apply p_neqB; exact boA rfl; exact rfl; exact rfl; exact rfl; exact rfl)))
            refine planL_nil (by kernel_rfl) ?_
            refine run_condN rfl (by simp) ?_
            (repeat (first | (apply v_move; exact rfl; exact rfl) | refine run_seq ?_ | refine run_region ?_ | refine runL_nil ?_ | refine run_skip ?_ | (apply v_loadB; exact tyA rfl; exact rfl; exact rfl; exact rfl; exact rfl; exact rfl; exact rfl) | (apply v_on; exact rfl) | (apply v_off; exact rfl; exact rfl) | (apply v_pick_t; exact rfl; exact rfl; exact rfl) | (apply v_pick_f; exact rfl; exact rfl; exact rfl) | (apply run_cond; exact rfl; (focus (intro hb; cases hb; done)); intro hb; clear hb) | (apply v_not; exact rfl; exact rfl) | (apply v_neq; exact rfl; exact rfl; exact rfl) | (apply v_lenN; exact slA rfl; exact rfl; exact rfl)))
            refine v_cR (mp [(0, 200), (1, 201)]) hcopy rfl (cbA rfl) trivial (by kernel_rfl) (by kernel_rfl) (by kernel_rfl) (by kernel_rfl) (by kernel_rfl) (by kernel_rfl) (by kernel_rfl) (by kernel_rfl) rfl ?_
            (repeat (first | refine run_seq ?_ | refine run_region ?_ | refine runL_nil ?_ | (apply v_loadB; exact tyA rfl; exact rfl; exact rfl; exact rfl; exact rfl; exact rfl; exact rfl) | (apply v_allocD; exact tyA rfl; exact rfl; exact rfl; exact rfl; exact rfl) | (apply v_storeW; exact tyA rfl; exact rfl; exact rfl; exact rfl; exact rfl; exact rfl; exact rfl; exact rfl)))
            refine v_cR (mp [(0, 200), (1, 201)]) hsame rfl (cbA rfl) ⟨rfl, rfl, trivial⟩ (by kernel_rfl) (by kernel_rfl) (by kernel_rfl) (by kernel_rfl) (by kernel_rfl) (by kernel_rfl) (by kernel_rfl) (by kernel_rfl) rfl ?_
            (repeat (first | refine run_seq ?_ | refine run_region ?_ | refine runL_nil ?_ | refine run_skip ?_ | (apply v_loadB; exact tyA rfl; exact rfl; exact rfl; exact rfl; exact rfl; exact rfl; exact rfl) | (apply run_cond; exact rfl; (focus (intro hb; cases hb; done)); intro hb; clear hb) | (apply v_not; exact rfl; exact rfl)))
            refine v_cR (mp [(0, 300), (1, 301)]) hcopy rfl (cbA rfl) trivial (by kernel_rfl) (by kernel_rfl) (by kernel_rfl) (by kernel_rfl) (by kernel_rfl) (by kernel_rfl) (by kernel_rfl) (by kernel_rfl) rfl ?_
            (repeat (first | (apply v_assign; exact rfl; exact rfl) | refine run_seq ?_ | refine run_region ?_ | refine runL_nil ?_ | refine run_block ?_ | (apply v_allocD; exact tyA rfl; exact rfl; exact rfl; exact rfl; exact rfl) | (apply v_storeW; exact tyA rfl; exact rfl; exact rfl; exact rfl; exact rfl; exact rfl; exact rfl; exact rfl)))
            refine v_loop (fun q : Nat × List OpD => ⟨[(3, .ptr 3 0), (17, .v (.slice none 0 0)), (19, .ptr 19 0), (20, .ptr 20 0), (21, .v (.int .i64 q.1))], [(3, .box 25 [.sem (listS opE main), .sem (listS callE calls)]), (19, .box 25 [.res 200, .res 201]), (20, .box 25 [.res 300, .res 301]), (200, .obj (ownS 33 opE q.2)), (201, .obj (nestP 22 33 opE calls [])), (300, .obj (ownS 33 opE main)), (301, .obj (nestP 22 33 opE calls []))]⟩) (fun q => q.1 ≤ main.length ∧ q.2.length = main.length) (fun q => main.length - q.1) (0, main) idN trivial (by repeat (first | exact trivial | refine ⟨rfl, ?_⟩)) ⟨rfl, rfl, rfl, rfl, rfl, rfl, rfl, trivial⟩ rfl ⟨by simp, rfl⟩ fun ⟨i, xs⟩ ⟨hi, hx⟩ ih => ?_
            dsimp only at hi hx ⊢
            (repeat (first | (apply v_move; exact rfl; exact rfl) | refine run_seq ?_ | refine run_region ?_ | refine runL_nil ?_ | (apply v_fldP; exact flA rfl; exact rfl; exact rfl; exact rfl) | (apply v_loadB; exact tyA rfl; exact rfl; exact rfl; exact rfl; exact rfl; exact rfl; exact rfl) | (apply v_lss; exact rfl; exact rfl; exact rfl) | (apply v_lenO; exact slA rfl; exact rfl; exact rfl; exact rfl)))
            refine run_cond rfl (fun hb => ?_) (fun hb => ?_)
            · have hlt : i < xs.length := by simpa using hb
              have hx2 : xs[((i : Int)).toNat]? = some xs[i] := by simp [hlt]
              generalize xs[i] = z at *
              (repeat (first | (apply v_idxO; exact slA rfl; exact tyA rfl; exact rfl; exact rfl; exact rfl; exact rfl; exact (by omega); exact (by omega); exact rfl) | (apply v_move; exact rfl; exact rfl) | refine run_seq ?_ | refine run_region ?_ | refine run_skip ?_ | refine run_block ?_ | (apply v_fldP; exact flA rfl; exact rfl; exact rfl; exact rfl) | (apply v_loadB; exact tyA rfl; exact rfl; exact rfl; exact rfl; exact rfl; exact rfl; exact rfl)))
              refine v_storeO (xs := xs) (j := ((i : Int)).toNat) (f := 1) { z with a := 77 } (tyA rfl) rfl rfl rfl rfl hx2 rfl rfl (by decide) rfl rfl ?_
              (repeat (first | (apply v_move; exact rfl; exact rfl) | (apply v_assign; exact rfl; exact rfl) | refine run_region ?_ | refine runL_nil ?_ | refine run_inBlock ?_ | (apply v_add; exact rfl; exact rfl; exact rfl; exact (by omega))))
              exact v_again ih (i + 1, xs.set ((i : Int)).toNat { z with a := 77 }) idN trivial (by repeat (first | exact trivial | refine ⟨rfl, ?_⟩)) ⟨rfl, rfl, rfl, rfl, rfl, rfl, rfl, trivial⟩ rfl ⟨by simp only; omega, by simp only [List.length_set]; exact hx⟩ (by simp only; omega)
            · clear ih
              (repeat (first | (apply v_assign; exact rfl; exact rfl) | refine run_seq ?_ | refine run_region ?_ | refine runL_nil ?_ | refine run_block ?_ | (apply run_exit; exact rfl)))
              refine run_openN 201 401 rfl rfl rfl rfl rfl fun ps hps => ?_
              refine run_form 401 rfl fun hform => ?_
              have hpl : ps.length = calls.length := by rw [← hps, List.length_map]
              skip
              refine v_loop (fun q : Nat × List (SlV × List OpD) => ⟨[(3, .ptr 3 0), (17, .v (.slice none 0 0)), (19, .ptr 19 0), (20, .ptr 20 0), (22, .v (.int .i64 q.1))], [(3, .box 25 [.sem (listS opE main), .sem (listS callE calls)]), (19, .box 25 [.res 200, .res 201]), (20, .box 25 [.res 300, .res 301]), (200, .obj (ownS 33 opE xs)), (201, .obj (ownS 22 valE (ps.map (·.1)))), (401, .obj (manyR 33 opE q.2)), (300, .obj (ownS 33 opE main)), (301, .obj (nestP 22 33 opE calls []))]⟩) (fun q => q.1 ≤ ps.length ∧ q.2.map (·.1) = ps.map (·.1) ∧ FormO q.2) (fun q => ps.length - q.1) (0, ps) idN trivial (by repeat (first | exact trivial | refine ⟨rfl, ?_⟩)) ⟨rfl, rfl, rfl, rfl, rfl, rfl, rfl, rfl, trivial⟩ rfl ⟨by simp, rfl, hform⟩ fun ⟨i2, qs⟩ ⟨hi2, hq1, hq2⟩ ih => ?_
              dsimp only at hi2 hq1 hq2 ⊢
              (repeat (first | (apply v_move; exact rfl; exact rfl) | refine run_seq ?_ | refine run_region ?_ | refine runL_nil ?_ | (apply v_fldP; exact flA rfl; exact rfl; exact rfl; exact rfl) | (apply v_loadB; exact tyA rfl; exact rfl; exact rfl; exact rfl; exact rfl; exact rfl; exact rfl) | (apply v_lss; exact rfl; exact rfl; exact rfl) | (apply v_lenO; exact slA rfl; exact rfl; exact rfl; exact rfl)))
              refine run_cond rfl (fun hb2 => ?_) (fun hb2 => ?_)
              · have hlt : i2 < (ps.map (·.1)).length := by simpa using hb2
                have hu2 : (ps.map (·.1))[i2]? = some (ps.map (·.1))[i2] := List.getElem?_eq_getElem hlt
                have hu3 : (ps.map (·.1))[((i2 : Int)).toNat]? = some (ps.map (·.1))[i2] := by rw [show ((i2 : Int)).toNat = i2 by omega]; exact hu2
                have hps2 : (ps.map (·.1)).length = ps.length := List.length_map ..
                have hsn := form_len hps hform hu2 hcl
                generalize (ps.map (·.1))[i2] = s at *
                (repeat (first | (apply v_assign; exact rfl; exact rfl) | refine run_seq ?_ | refine run_region ?_ | refine runL_nil ?_ | refine run_skip ?_ | refine run_block ?_))
                refine v_loop (fun q : Nat × List (SlV × List OpD) => ⟨[(3, .ptr 3 0), (17, .v (.slice none 0 0)), (19, .ptr 19 0), (20, .ptr 20 0), (22, .v (.int .i64 i2)), (23, .v (.int .i64 q.1))], [(3, .box 25 [.sem (listS opE main), .sem (listS callE calls)]), (19, .box 25 [.res 200, .res 201]), (20, .box 25 [.res 300, .res 301]), (200, .obj (ownS 33 opE xs)), (201, .obj (ownS 22 valE (ps.map (·.1)))), (401, .obj (manyR 33 opE q.2)), (300, .obj (ownS 33 opE main)), (301, .obj (nestP 22 33 opE calls []))]⟩) (fun q => q.1 ≤ s.n ∧ q.2.map (·.1) = ps.map (·.1) ∧ FormO q.2) (fun q => s.n - q.1) (0, qs) idN trivial (by repeat (first | exact trivial | refine ⟨rfl, ?_⟩)) ⟨rfl, rfl, rfl, rfl, rfl, rfl, rfl, rfl, trivial⟩ rfl ⟨by simp, hq1, hq2⟩ fun ⟨j, qs⟩ ⟨hj, hq1, hq2⟩ ih2 => ?_
                dsimp only at hj hq1 hq2 ⊢
                (repeat (first | (apply v_idxO; exact slA rfl; exact tyA rfl; exact rfl; exact rfl; exact rfl; exact rfl; exact (by omega); exact (by omega); exact rfl) | (apply v_move; exact rfl; exact rfl) | refine run_seq ?_ | refine run_region ?_ | (apply v_fldP; exact flA rfl; exact rfl; exact rfl; exact rfl) | (apply v_loadB; exact tyA rfl; exact rfl; exact rfl; exact rfl; exact rfl; exact rfl; exact rfl)))
                refine v_loadO (f := 0) (j := ((i2 : Int)).toNat) (tyA rfl) rfl rfl rfl (by simp [valE]) hu3 (by decide) rfl rfl ?_
                refine v_lenV (slA rfl) rfl rfl ?_
                (repeat (first | refine runL_nil ?_ | (apply v_lss; exact rfl; exact rfl; exact rfl)))
                refine run_cond rfl (fun hb3 => ?_) (fun hb3 => ?_)
                · have hjn : j < s.n := by simpa using hb3
                  obtain ⟨b, cap, l, hs1, hs2, hs3⟩ := form_at hq1 hq2 hu2 hjn
                  subst hs1
                  have hjl : l[((j : Int)).toNat]? = some l[j] := by simp [show j < l.length from hjn]
                  generalize l[j] = z at *
                  (repeat (first | (apply v_idxO; exact slA rfl; exact tyA rfl; exact rfl; exact rfl; exact rfl; exact rfl; exact (by omega); exact (by omega); exact rfl) | (apply v_move; exact rfl; exact rfl) | refine run_seq ?_ | refine run_region ?_ | refine run_skip ?_ | refine run_block ?_ | (apply v_fldP; exact flA rfl; exact rfl; exact rfl; exact rfl) | (apply v_loadB; exact tyA rfl; exact rfl; exact rfl; exact rfl; exact rfl; exact rfl; exact rfl)))
                  refine v_loadO (f := 0) (j := ((i2 : Int)).toNat) (tyA rfl) rfl rfl rfl (by simp [valE]) hu3 (by decide) rfl rfl ?_
                  (repeat (first | (apply v_move; exact rfl; exact rfl)))
                  refine v_idxV (slA rfl) (tyA rfl) rfl rfl (by omega) (by omega) rfl ?_
                  refine v_fldV (flA rfl) rfl rfl rfl ?_
                  refine v_storeM (h := 401) (e := 33) (E := opE) i2 ((j : Int)).toNat 1 { z with a := 77 } (tyA rfl) rfl rfl rfl hs2 rfl hjl rfl rfl (by decide) rfl rfl ?_
                  (repeat (first | (apply v_move; exact rfl; exact rfl) | (apply v_assign; exact rfl; exact rfl) | refine run_region ?_ | refine runL_nil ?_ | refine run_inBlock ?_ | (apply v_add; exact rfl; exact rfl; exact rfl; exact (by omega))))
                  exact v_again ih2 (j + 1, qs.set i2 (⟨some ⟨b, 0, none⟩, l.length, cap⟩, l.set ((j : Int)).toNat { z with a := 77 })) idN trivial (by repeat (first | exact trivial | refine ⟨rfl, ?_⟩)) ⟨rfl, rfl, rfl, rfl, rfl, rfl, rfl, rfl, trivial⟩ rfl ⟨by simp only; omega, (form_set hq1 hs2 (by simp)).1, (form_set hq1 hs2 (by simp)).2 hq2⟩ (by simp only; omega)
                · clear ih2
                  (repeat (first | (apply v_move; exact rfl; exact rfl) | (apply v_assign; exact rfl; exact rfl) | refine run_region ?_ | refine runL_nil ?_ | refine run_inBlock ?_ | (apply run_exit; exact rfl) | (apply v_add; exact rfl; exact rfl; exact rfl; exact (by omega))))
                  exact v_again ih (i2 + 1, qs) idN trivial (by repeat (first | exact trivial | refine ⟨rfl, ?_⟩)) ⟨rfl, rfl, rfl, rfl, rfl, rfl, rfl, rfl, trivial⟩ rfl ⟨by simp only; omega, hq1, hq2⟩ (by simp only; omega)
              · clear ih
                (repeat (first | (apply v_assign; exact rfl; exact rfl) | refine run_seq ?_ | refine run_region ?_ | refine runL_nil ?_ | refine run_block ?_ | (apply run_exit; exact rfl)))
                refine v_loop (fun _ : Unit => ⟨[(3, .ptr 3 0), (17, .v (.slice none 0 0)), (20, .ptr 20 0), (24, .v (.int .i64 0))], [(3, .box 25 [.sem (listS opE main), .sem (listS callE calls)]), (20, .box 25 [.res 300, .res 301]), (300, .obj (ownS 33 opE main)), (301, .obj (nestP 22 33 opE calls []))]⟩) (fun _ => True) (fun _ => 0) () idN trivial (by repeat (first | exact trivial | refine ⟨rfl, ?_⟩)) ⟨rfl, rfl, rfl, rfl, trivial⟩ rfl trivial fun _ _ ih => ?_
                clear ih
                (repeat (first | (apply v_move; exact rfl; exact rfl) | refine run_seq ?_ | refine run_region ?_ | refine runL_nil ?_ | (apply run_exit; exact rfl) | (apply v_loadB; exact tyA rfl; exact rfl; exact rfl; exact rfl; exact rfl; exact rfl; exact rfl) | (apply run_cond; exact rfl; (focus (intro hb; cases hb; done)); intro hb; clear hb) | (apply v_lss; exact rfl; exact rfl; exact rfl) | (apply v_lenN; exact slA rfl; exact rfl; exact rfl)))
                refine v_cR (mp [(0, 300), (1, 301)]) hsame rfl (cbA rfl) ⟨rfl, rfl, trivial⟩ (by kernel_rfl) (by kernel_rfl) (by kernel_rfl) (by kernel_rfl) (by kernel_rfl) (by kernel_rfl) (by kernel_rfl) (by kernel_rfl) rfl ?_
                (repeat (first | (apply v_assign; exact rfl; exact rfl) | refine runL_nil ?_))
                exact run_ret idN _ Tryd.func4 ⟨_, _, rfl, rfl, rfl⟩ rfl trivial trivial rfl
      · by_cases hc : 1 ≤ cb ∧ cb ≤ calls.length
        · obtain ⟨hc1, hc2⟩ := hc
          obtain ⟨l0, hcx⟩ : ∃ l0, calls[(cb - 1).toNat]? = some l0 := ⟨_, List.getElem?_eq_getElem (by omega)⟩
          have hl0 := len_le hcx main
          have hcall := call_in (main := main) hc1 hc2 hcx hl (by omega)
          have hs19 := lend1 (e1 := 33) (bs := [.sem (listS opE l0)]) (same19_f (a := l0) (by omega))
          refine fun_intro 192 Tryd.func4 rfl rfl rfl (fun ι F S w => ?_)
          (repeat (first | (apply v_cx; exact rfl; exact cbA rfl; (first | exact awake20); exact rfl; exact rfl) | (apply v_move; exact rfl; exact rfl) | (apply v_assign; exact rfl; exact rfl) | refine run_seq ?_ | refine run_region ?_ | refine runL_nil ?_ | refine run_skip ?_ | (apply v_fldP; exact flA rfl; exact rfl; exact rfl; exact rfl) | (apply v_loadB; exact tyA rfl; exact rfl; exact rfl; exact rfl; exact rfl; exact rfl; exact rfl) | (apply run_cond; exact rfl; (focus (intro hb; cases hb; done)); intro hb; clear hb) | (apply v_not; exact rfl; exact rfl) | (apply v_gtr; exact rfl; exact rfl; exact rfl) | (apply v_lenL; exact slA rfl; exact rfl; exact rfl) | (apply v_boxD; exact rfl; exact rfl; exact rfl; exact rfl; exact rfl; exact rfl; exact rfl)))
          refine v_is 31 false rfl (by simp; omega) ?_
          (repeat (first | (apply v_cx; exact rfl; exact cbA rfl; (first | exact hcf); exact rfl; exact rfl) | refine runL_nil ?_ | (apply v_loadB; exact tyA rfl; exact rfl; exact rfl; exact rfl; exact rfl; exact rfl; exact rfl) | (apply v_on; exact rfl) | (apply v_pick_f; exact rfl; exact rfl; exact rfl) | (apply v_gtr; exact rfl; exact rfl; exact rfl)))
          refine run_condN rfl (by simp; omega) ?_
          (repeat (first | (apply v_move; exact rfl; exact rfl) | refine run_seq ?_ | refine run_region ?_ | refine runL_nil ?_ | refine run_skip ?_ | (apply v_eql; exact rfl; exact rfl; exact rfl)))
          refine run_condN rfl (by simpa using he) ?_
          (repeat (first | refine run_seq ?_ | refine run_region ?_ | refine run_skip ?_ | (apply v_loadB; exact tyA rfl; exact rfl; exact rfl; exact rfl; exact rfl; exact rfl; exact rfl)))
          (repeat (first | (apply v_cx; exact rfl; exact cbA rfl; (first | exact hk | exact hk2); exact rfl; exact rfl) | (apply v_move; exact rfl; exact rfl) | (apply v_assign; exact rfl; exact rfl) | refine run_seq ?_ | refine run_region ?_ | refine runL_nil ?_ | (apply v_extract; exact rfl; exact rfl; exact rfl) | (apply v_loadB; exact tyA rfl; exact rfl; exact rfl; exact rfl; exact rfl; exact rfl; exact rfl)))
          refine v_cR (mp [(0, 100)]) hcall rfl (cbA rfl) trivial (by kernel_rfl) (by kernel_rfl) (by kernel_rfl) (by kernel_rfl) (by kernel_rfl) (by kernel_rfl) (by kernel_rfl) (by kernel_rfl) rfl ?_
          (repeat (first | (apply v_move; exact rfl; exact rfl) | (apply v_assign; exact rfl; exact rfl) | refine run_seq ?_ | refine runL_nil ?_ | (apply v_extract; exact rfl; exact rfl; exact rfl)))
          refine run_draws (by kernel_rfl) (by kernel_rfl) ?_
          (repeat (first | (apply p_move; exact rfl; exact rfl; exact rfl) | (apply p_neq; exact rfl; exact rfl; exact rfl; exact rfl)))
          refine p_is 83 false rfl (by simp) ?_
          (repeat (first | (apply p_move; exact rfl; exact rfl; exact rfl) | (apply p_pick_f; exact rfl; exact rfl; exact rfl; exact rfl) | (apply p_neq; exact rfl; exact rfl; exact rfl; exact rfl)))
          refine p_is 88 false rfl (by simp) ?_
          (repeat (first | (apply p_move; exact rfl; exact rfl; exact rfl) | (apply p_pick_f; exact rfl; exact rfl; exact rfl; exact rfl) | (apply p_neq; exact rfl; exact rfl; exact rfl; exact rfl)))
          refine p_is 93 false rfl (by simp) ?_
          (repeat (first | (apply p_cx; exact rfl; exact cbA rfl; (first | exact hcn | exact hcf); exact rfl; exact rfl; exact rfl) | (apply p_move; exact rfl; exact rfl; exact rfl) | (apply p_loadB; exact tyA rfl; exact rfl; exact rfl; exact rfl; exact rfl; exact rfl; exact rfl; exact rfl) | (apply p_pick_f; exact rfl; exact rfl; exact rfl; exact rfl) | (apply p_neq; exact rfl; exact rfl; exact rfl; exact rfl)))
          refine p_is 100 false rfl (by simp) ?_
          (repeat (first | (apply p_move; exact rfl; exact rfl; exact rfl) | (apply p_geq; exact rfl; exact rfl; exact rfl; exact rfl)))
          refine p_is 104 true rfl (by simpa using hc1) ?_
          (repeat (first | (apply p_move; exact rfl; exact rfl; exact rfl) | (apply p_fldP; exact flA rfl; exact rfl; exact rfl; exact rfl; exact rfl) | (apply p_loadB; exact tyA rfl; exact rfl; exact rfl; exact rfl; exact rfl; exact rfl; exact rfl; exact rfl) | (apply p_pick_t; exact rfl; exact rfl; exact rfl; exact rfl) | (apply p_pick_f; exact rfl; exact rfl; exact rfl; exact rfl) | (apply p_leq; exact rfl; exact rfl; exact rfl; exact rfl) | (apply p_lenL; exact slA rfl; exact rfl; exact rfl; exact rfl) | (apply p_neqB; exact boA rfl; exact rfl; exact rfl; exact rfl; exact rfl)))
          refine planL_nil (by kernel_rfl) ?_
          refine run_condN rfl (by simp; omega) ?_
          (repeat (first | (apply v_idxL; exact slA rfl; exact tyA rfl; exact rfl; exact rfl; exact rfl; exact rfl; exact (by omega); (first | exact hcx); exact rfl) | (apply v_move; exact rfl; exact rfl) | refine run_seq ?_ | refine run_region ?_ | refine run_skip ?_ | (apply v_fldP; exact flA rfl; exact rfl; exact rfl; exact rfl) | (apply v_loadB; exact tyA rfl; exact rfl; exact rfl; exact rfl; exact rfl; exact rfl; exact rfl) | (apply v_loadA; exact tyA rfl; exact rfl; exact rfl; exact rfl; exact rfl; exact rfl; exact rfl) | (apply v_on; exact rfl) | (apply v_sub; exact rfl; exact rfl; exact rfl; exact (by omega))))
          refine v_cR (mp [(0, 100)]) hs19 rfl (cbA rfl) ⟨rfl, trivial⟩ (by kernel_rfl) (by kernel_rfl) (by kernel_rfl) (by kernel_rfl) (by kernel_rfl) (by kernel_rfl) (by kernel_rfl) (by kernel_rfl) rfl ?_
          (repeat (first | (apply v_move; exact rfl; exact rfl) | refine run_seq ?_ | refine run_region ?_ | refine runL_nil ?_ | refine run_skip ?_ | (apply v_loadB; exact tyA rfl; exact rfl; exact rfl; exact rfl; exact rfl; exact rfl; exact rfl) | (apply v_on; exact rfl) | (apply v_off; exact rfl; exact rfl) | (apply v_pick_t; exact rfl; exact rfl; exact rfl) | (apply v_pick_f; exact rfl; exact rfl; exact rfl) | (apply run_cond; exact rfl; (focus (intro hb; cases hb; done)); intro hb; clear hb) | (apply v_not; exact rfl; exact rfl)))
          refine v_cR (mp [(0, 200), (1, 201)]) hcopy rfl (cbA rfl) trivial (by kernel_rfl) (by kernel_rfl) (by kernel_rfl) (by kernel_rfl) (by kernel_rfl) (by kernel_rfl) (by kernel_rfl) (by kernel_rfl) rfl ?_
          (repeat (first | refine run_seq ?_ | refine run_region ?_ | refine runL_nil ?_ | (apply v_loadB; exact tyA rfl; exact rfl; exact rfl; exact rfl; exact rfl; exact rfl; exact rfl) | (apply v_allocD; exact tyA rfl; exact rfl; exact rfl; exact rfl; exact rfl) | (apply v_storeW; exact tyA rfl; exact rfl; exact rfl; exact rfl; exact rfl; exact rfl; exact rfl; exact rfl)))
          refine v_cR (mp [(0, 200), (1, 201)]) hsame rfl (cbA rfl) ⟨rfl, rfl, trivial⟩ (by kernel_rfl) (by kernel_rfl) (by kernel_rfl) (by kernel_rfl) (by kernel_rfl) (by kernel_rfl) (by kernel_rfl) (by kernel_rfl) rfl ?_
          (repeat (first | refine run_seq ?_ | refine run_region ?_ | refine runL_nil ?_ | refine run_skip ?_ | (apply v_loadB; exact tyA rfl; exact rfl; exact rfl; exact rfl; exact rfl; exact rfl; exact rfl) | (apply run_cond; exact rfl; (focus (intro hb; cases hb; done)); intro hb; clear hb) | (apply v_not; exact rfl; exact rfl)))
          refine v_cR (mp [(0, 300), (1, 301)]) hcopy rfl (cbA rfl) trivial (by kernel_rfl) (by kernel_rfl) (by kernel_rfl) (by kernel_rfl) (by kernel_rfl) (by kernel_rfl) (by kernel_rfl) (by kernel_rfl) rfl ?_
          (repeat (first | (apply v_assign; exact rfl; exact rfl) | refine run_seq ?_ | refine run_region ?_ | refine runL_nil ?_ | refine run_block ?_ | (apply v_allocD; exact tyA rfl; exact rfl; exact rfl; exact rfl; exact rfl) | (apply v_storeW; exact tyA rfl; exact rfl; exact rfl; exact rfl; exact rfl; exact rfl; exact rfl; exact rfl)))
          refine v_loop (fun q : Nat × List OpD => ⟨[(3, .ptr 3 0), (17, .res 100), (19, .ptr 19 0), (20, .ptr 20 0), (21, .v (.int .i64 q.1))], [(3, .box 25 [.sem (listS opE main), .sem (listS callE calls)]), (19, .box 25 [.res 200, .res 201]), (20, .box 25 [.res 300, .res 301]), (200, .obj (ownS 33 opE q.2)), (201, .obj (nestP 22 33 opE calls [])), (300, .obj (ownS 33 opE main)), (301, .obj (nestP 22 33 opE calls [])), (100, .obj (ownS 33 opE l0))]⟩) (fun q => q.1 ≤ main.length ∧ q.2.length = main.length) (fun q => main.length - q.1) (0, main) idN trivial (by repeat (first | exact trivial | refine ⟨rfl, ?_⟩)) ⟨rfl, rfl, rfl, rfl, rfl, rfl, rfl, rfl, trivial⟩ rfl ⟨by simp, rfl⟩ fun ⟨i, xs⟩ ⟨hi, hx⟩ ih => ?_
          dsimp only at hi hx ⊢
          (repeat (first | (apply v_move; exact rfl; exact rfl) | refine run_seq ?_ | refine run_region ?_ | refine runL_nil ?_ | (apply v_fldP; exact flA rfl; exact rfl; exact rfl; exact rfl) | (apply v_loadB; exact tyA rfl; exact rfl; exact rfl; exact rfl; exact rfl; exact rfl; exact rfl) | (apply v_lss; exact rfl; exact rfl; exact rfl) | (apply v_lenO; exact slA rfl; exact rfl; exact rfl; exact rfl)))
          refine run_cond rfl (fun hb => ?_) (fun hb => ?_)
          · have hlt : i < xs.length := by simpa using hb
            have hx2 : xs[((i : Int)).toNat]? = some xs[i] := by simp [hlt]
            generalize xs[i] = z at *
            (repeat (first | (apply v_idxO; exact slA rfl; exact tyA rfl; exact rfl; exact rfl; exact rfl; exact rfl; exact (by omega); exact (by omega); exact rfl) | (apply v_move; exact rfl; exact rfl) | refine run_seq ?_ | refine run_region ?_ | refine run_skip ?_ | refine run_block ?_ | (apply v_fldP; exact flA rfl; exact rfl; exact rfl; exact rfl) | (apply v_loadB; exact tyA rfl; exact rfl; exact rfl; exact rfl; exact rfl; exact rfl; exact rfl)))
            refine v_storeO (xs := xs) (j := ((i : Int)).toNat) (f := 1) { z with a := 77 } (tyA rfl) rfl rfl rfl rfl hx2 rfl rfl (by decide) rfl rfl ?_
            (repeat (first | (apply v_move; exact rfl; exact rfl) | (apply v_assign; exact rfl; exact rfl) | refine run_region ?_ | refine runL_nil ?_ | refine run_inBlock ?_ | (apply v_add; exact rfl; exact rfl; exact rfl; exact (by omega))))
            exact v_again ih (i + 1, xs.set ((i : Int)).toNat { z with a := 77 }) idN trivial (by repeat (first | exact trivial | refine ⟨rfl, ?_⟩)) ⟨rfl, rfl, rfl, rfl, rfl, rfl, rfl, rfl, trivial⟩ rfl ⟨by simp only; omega, by simp only [List.length_set]; exact hx⟩ (by simp only; omega)
          · clear ih
            (repeat (first | (apply v_assign; exact rfl; exact rfl) | refine run_seq ?_ | refine run_region ?_ | refine runL_nil ?_ | refine run_block ?_ | (apply run_exit; exact rfl)))
            refine run_openN 201 401 rfl rfl rfl rfl rfl fun ps hps => ?_
            refine run_form 401 rfl fun hform => ?_
            have hpl : ps.length = calls.length := by rw [← hps, List.length_map]
            skip
            refine v_loop (fun q : Nat × List (SlV × List OpD) => ⟨[(3, .ptr 3 0), (17, .res 100), (19, .ptr 19 0), (20, .ptr 20 0), (22, .v (.int .i64 q.1))], [(3, .box 25 [.sem (listS opE main), .sem (listS callE calls)]), (19, .box 25 [.res 200, .res 201]), (20, .box 25 [.res 300, .res 301]), (200, .obj (ownS 33 opE xs)), (201, .obj (ownS 22 valE (ps.map (·.1)))), (401, .obj (manyR 33 opE q.2)), (300, .obj (ownS 33 opE main)), (301, .obj (nestP 22 33 opE calls [])), (100, .obj (ownS 33 opE l0))]⟩) (fun q => q.1 ≤ ps.length ∧ q.2.map (·.1) = ps.map (·.1) ∧ FormO q.2) (fun q => ps.length - q.1) (0, ps) idN trivial (by repeat (first | exact trivial | refine ⟨rfl, ?_⟩)) ⟨rfl, rfl, rfl, rfl, rfl, rfl, rfl, rfl, rfl, trivial⟩ rfl ⟨by simp, rfl, hform⟩ fun ⟨i2, qs⟩ ⟨hi2, hq1, hq2⟩ ih => ?_
            dsimp only at hi2 hq1 hq2 ⊢
            (repeat (first | (apply v_move; exact rfl; exact rfl) | refine run_seq ?_ | refine run_region ?_ | refine runL_nil ?_ | (apply v_fldP; exact flA rfl; exact rfl; exact rfl; exact rfl) | (apply v_loadB; exact tyA rfl; exact rfl; exact rfl; exact rfl; exact rfl; exact rfl; exact rfl) | (apply v_lss; exact rfl; exact rfl; exact rfl) | (apply v_lenO; exact slA rfl; exact rfl; exact rfl; exact rfl)))
            refine run_cond rfl (fun hb2 => ?_) (fun hb2 => ?_)
            · have hlt : i2 < (ps.map (·.1)).length := by simpa using hb2
              have hu2 : (ps.map (·.1))[i2]? = some (ps.map (·.1))[i2] := List.getElem?_eq_getElem hlt
              have hu3 : (ps.map (·.1))[((i2 : Int)).toNat]? = some (ps.map (·.1))[i2] := by rw [show ((i2 : Int)).toNat = i2 by omega]; exact hu2
              have hps2 : (ps.map (·.1)).length = ps.length := List.length_map ..
              have hsn := form_len hps hform hu2 hcl
              generalize (ps.map (·.1))[i2] = s at *
              (repeat (first | (apply v_assign; exact rfl; exact rfl) | refine run_seq ?_ | refine run_region ?_ | refine runL_nil ?_ | refine run_skip ?_ | refine run_block ?_))
              refine v_loop (fun q : Nat × List (SlV × List OpD) => ⟨[(3, .ptr 3 0), (17, .res 100), (19, .ptr 19 0), (20, .ptr 20 0), (22, .v (.int .i64 i2)), (23, .v (.int .i64 q.1))], [(3, .box 25 [.sem (listS opE main), .sem (listS callE calls)]), (19, .box 25 [.res 200, .res 201]), (20, .box 25 [.res 300, .res 301]), (200, .obj (ownS 33 opE xs)), (201, .obj (ownS 22 valE (ps.map (·.1)))), (401, .obj (manyR 33 opE q.2)), (300, .obj (ownS 33 opE main)), (301, .obj (nestP 22 33 opE calls [])), (100, .obj (ownS 33 opE l0))]⟩) (fun q => q.1 ≤ s.n ∧ q.2.map (·.1) = ps.map (·.1) ∧ FormO q.2) (fun q => s.n - q.1) (0, qs) idN trivial (by repeat (first | exact trivial | refine ⟨rfl, ?_⟩)) ⟨rfl, rfl, rfl, rfl, rfl, rfl, rfl, rfl, rfl, trivial⟩ rfl ⟨by simp, hq1, hq2⟩ fun ⟨j, qs⟩ ⟨hj, hq1, hq2⟩ ih2 => ?_
              dsimp only at hj hq1 hq2 ⊢
              (repeat (first | (apply v_idxO; exact slA rfl; exact tyA rfl; exact rfl; exact rfl; exact rfl; exact rfl; exact (by omega); exact (by omega); exact rfl) | (apply v_move; exact rfl; exact rfl) | refine run_seq ?_ | refine run_region ?_ | (apply v_fldP; exact flA rfl; exact rfl; exact rfl; exact rfl) | (apply v_loadB; exact tyA rfl; exact rfl; exact rfl; exact rfl; exact rfl; exact rfl; exact rfl)))
              refine v_loadO (f := 0) (j := ((i2 : Int)).toNat) (tyA rfl) rfl rfl rfl (by simp [valE]) hu3 (by decide) rfl rfl ?_
              refine v_lenV (slA rfl) rfl rfl ?_
              (repeat (first | refine runL_nil ?_ | (apply v_lss; exact rfl; exact rfl; exact rfl)))
              refine run_cond rfl (fun hb3 => ?_) (fun hb3 => ?_)
              · have hjn : j < s.n := by simpa using hb3
                obtain ⟨b, cap, l, hs1, hs2, hs3⟩ := form_at hq1 hq2 hu2 hjn
                subst hs1
                have hjl : l[((j : Int)).toNat]? = some l[j] := by simp [show j < l.length from hjn]
                generalize l[j] = z at *
                (repeat (first | (apply v_idxO; exact slA rfl; exact tyA rfl; exact rfl; exact rfl; exact rfl; exact rfl; exact (by omega); exact (by omega); exact rfl) | (apply v_move; exact rfl; exact rfl) | refine run_seq ?_ | refine run_region ?_ | refine run_skip ?_ | refine run_block ?_ | (apply v_fldP; exact flA rfl; exact rfl; exact rfl; exact rfl) | (apply v_loadB; exact tyA rfl; exact rfl; exact rfl; exact rfl; exact rfl; exact rfl; exact rfl)))
                refine v_loadO (f := 0) (j := ((i2 : Int)).toNat) (tyA rfl) rfl rfl rfl (by simp [valE]) hu3 (by decide) rfl rfl ?_
                (repeat (first | (apply v_move; exact rfl; exact rfl)))
                refine v_idxV (slA rfl) (tyA rfl) rfl rfl (by omega) (by omega) rfl ?_
                refine v_fldV (flA rfl) rfl rfl rfl ?_
                refine v_storeM (h := 401) (e := 33) (E := opE) i2 ((j : Int)).toNat 1 { z with a := 77 } (tyA rfl) rfl rfl rfl hs2 rfl hjl rfl rfl (by decide) rfl rfl ?_
                (repeat (first | (apply v_move; exact rfl; exact rfl) | (apply v_assign; exact rfl; exact rfl) | refine run_region ?_ | refine runL_nil ?_ | refine run_inBlock ?_ | (apply v_add; exact rfl; exact rfl; exact rfl; exact (by omega))))
                exact v_again ih2 (j + 1, qs.set i2 (⟨some ⟨b, 0, none⟩, l.length, cap⟩, l.set ((j : Int)).toNat { z with a := 77 })) idN trivial (by repeat (first | exact trivial | refine ⟨rfl, ?_⟩)) ⟨rfl, rfl, rfl, rfl, rfl, rfl, rfl, rfl, rfl, trivial⟩ rfl ⟨by simp only; omega, (form_set hq1 hs2 (by simp)).1, (form_set hq1 hs2 (by simp)).2 hq2⟩ (by simp only; omega)
              · clear ih2
                (repeat (first | (apply v_move; exact rfl; exact rfl) | (apply v_assign; exact rfl; exact rfl) | refine run_region ?_ | refine runL_nil ?_ | refine run_inBlock ?_ | (apply run_exit; exact rfl) | (apply v_add; exact rfl; exact rfl; exact rfl; exact (by omega))))
                exact v_again ih (i2 + 1, qs) idN trivial (by repeat (first | exact trivial | refine ⟨rfl, ?_⟩)) ⟨rfl, rfl, rfl, rfl, rfl, rfl, rfl, rfl, rfl, trivial⟩ rfl ⟨by simp only; omega, hq1, hq2⟩ (by simp only; omega)
            · clear ih
              (repeat (first | (apply v_assign; exact rfl; exact rfl) | refine run_seq ?_ | refine run_region ?_ | refine runL_nil ?_ | refine run_block ?_ | (apply run_exit; exact rfl)))
              refine v_loop (fun q : Nat × List OpD => ⟨[(3, .ptr 3 0), (17, .res 100), (20, .ptr 20 0), (24, .v (.int .i64 q.1))], [(3, .box 25 [.sem (listS opE main), .sem (listS callE calls)]), (20, .box 25 [.res 300, .res 301]), (300, .obj (ownS 33 opE main)), (301, .obj (nestP 22 33 opE calls [])), (100, .obj (ownS 33 opE q.2))]⟩) (fun q => q.1 ≤ l0.length ∧ q.2.length = l0.length) (fun q => l0.length - q.1) (0, l0) idN trivial (by repeat (first | exact trivial | refine ⟨rfl, ?_⟩)) ⟨rfl, rfl, rfl, rfl, rfl, trivial⟩ rfl ⟨by simp, rfl⟩ fun ⟨i3, xs3⟩ ⟨hi3, hx3⟩ ih => ?_
              dsimp only at hi3 hx3 ⊢
              (repeat (first | (apply v_move; exact rfl; exact rfl) | refine run_seq ?_ | refine run_region ?_ | refine runL_nil ?_ | (apply v_lss; exact rfl; exact rfl; exact rfl) | (apply v_lenO; exact slA rfl; exact rfl; exact rfl; exact rfl)))
              refine run_cond rfl (fun hb => ?_) (fun hb => ?_)
              · have hlt : i3 < xs3.length := by simpa using hb
                have hx2 : xs3[((i3 : Int)).toNat]? = some xs3[i3] := by simp [hlt]
                generalize xs3[i3] = z at *
                (repeat (first | (apply v_idxO; exact slA rfl; exact tyA rfl; exact rfl; exact rfl; exact rfl; exact rfl; exact (by omega); exact (by omega); exact rfl) | (apply v_move; exact rfl; exact rfl) | refine run_seq ?_ | refine run_region ?_ | refine run_skip ?_ | refine run_block ?_ | (apply v_fldP; exact flA rfl; exact rfl; exact rfl; exact rfl)))
                refine v_storeO (xs := xs3) (j := ((i3 : Int)).toNat) (f := 1) { z with a := 77 } (tyA rfl) rfl rfl rfl rfl hx2 rfl rfl (by decide) rfl rfl ?_
                (repeat (first | (apply v_move; exact rfl; exact rfl) | (apply v_assign; exact rfl; exact rfl) | refine run_region ?_ | refine runL_nil ?_ | refine run_inBlock ?_ | (apply v_add; exact rfl; exact rfl; exact rfl; exact (by omega))))
                exact v_again ih (i3 + 1, xs3.set ((i3 : Int)).toNat { z with a := 77 }) idN trivial (by repeat (first | exact trivial | refine ⟨rfl, ?_⟩)) ⟨rfl, rfl, rfl, rfl, rfl, trivial⟩ rfl ⟨by simp only; omega, by simp only [List.length_set]; exact hx3⟩ (by simp only; omega)
              · clear ih
                (repeat (first | refine run_seq ?_ | refine run_region ?_ | (apply run_exit; exact rfl) | (apply v_loadB; exact tyA rfl; exact rfl; exact rfl; exact rfl; exact rfl; exact rfl; exact rfl)))
                refine v_cR (mp [(0, 300), (1, 301)]) hsame rfl (cbA rfl) ⟨rfl, rfl, trivial⟩ (by kernel_rfl) (by kernel_rfl) (by kernel_rfl) (by kernel_rfl) (by kernel_rfl) (by kernel_rfl) (by kernel_rfl) (by kernel_rfl) rfl ?_
                (repeat (first | (apply v_assign; exact rfl; exact rfl) | refine runL_nil ?_))
                exact run_ret idN _ Tryd.func4 ⟨_, _, rfl, rfl, rfl⟩ rfl trivial trivial rfl
        · have hcall := call_out (main := main) hc hl
          by_cases hc1 : 1 ≤ cb
          · refine fun_intro 192 Tryd.func4 rfl rfl rfl (fun ι F S w => ?_)
            (repeat (first | (apply v_cx; exact rfl; exact cbA rfl; (first | exact awake20); exact rfl; exact rfl) | (apply v_move; exact rfl; exact rfl) | (apply v_assign; exact rfl; exact rfl) | refine run_seq ?_ | refine run_region ?_ | refine runL_nil ?_ | refine run_skip ?_ | (apply v_fldP; exact flA rfl; exact rfl; exact rfl; exact rfl) | (apply v_loadB; exact tyA rfl; exact rfl; exact rfl; exact rfl; exact rfl; exact rfl; exact rfl) | (apply run_cond; exact rfl; (focus (intro hb; cases hb; done)); intro hb; clear hb) | (apply v_not; exact rfl; exact rfl) | (apply v_gtr; exact rfl; exact rfl; exact rfl) | (apply v_lenL; exact slA rfl; exact rfl; exact rfl) | (apply v_boxD; exact rfl; exact rfl; exact rfl; exact rfl; exact rfl; exact rfl; exact rfl)))
            refine v_is 31 false rfl (by simp; omega) ?_
            (repeat (first | (apply v_cx; exact rfl; exact cbA rfl; (first | exact hcf); exact rfl; exact rfl) | refine runL_nil ?_ | (apply v_loadB; exact tyA rfl; exact rfl; exact rfl; exact rfl; exact rfl; exact rfl; exact rfl) | (apply v_on; exact rfl) | (apply v_pick_f; exact rfl; exact rfl; exact rfl) | (apply v_gtr; exact rfl; exact rfl; exact rfl)))
            refine run_condN rfl (by simp; omega) ?_
            (repeat (first | (apply v_move; exact rfl; exact rfl) | refine run_seq ?_ | refine run_region ?_ | refine runL_nil ?_ | refine run_skip ?_ | (apply v_eql; exact rfl; exact rfl; exact rfl)))
            refine run_condN rfl (by simpa using he) ?_
            (repeat (first | refine run_seq ?_ | refine run_region ?_ | refine run_skip ?_ | (apply v_loadB; exact tyA rfl; exact rfl; exact rfl; exact rfl; exact rfl; exact rfl; exact rfl)))
            (repeat (first | (apply v_cx; exact rfl; exact cbA rfl; (first | exact hk | exact hk2); exact rfl; exact rfl) | (apply v_move; exact rfl; exact rfl) | (apply v_assign; exact rfl; exact rfl) | refine run_seq ?_ | refine run_region ?_ | refine runL_nil ?_ | (apply v_extract; exact rfl; exact rfl; exact rfl) | (apply v_loadB; exact tyA rfl; exact rfl; exact rfl; exact rfl; exact rfl; exact rfl; exact rfl)))
            (repeat (first | (apply v_cx; exact rfl; exact cbA rfl; (first | exact hcall); exact rfl; exact rfl) | (apply v_move; exact rfl; exact rfl) | (apply v_assign; exact rfl; exact rfl) | refine run_seq ?_ | refine runL_nil ?_ | (apply v_extract; exact rfl; exact rfl; exact rfl)))
            refine run_draws (by kernel_rfl) (by kernel_rfl) ?_
            (repeat (first | (apply p_move; exact rfl; exact rfl; exact rfl) | (apply p_neq; exact rfl; exact rfl; exact rfl; exact rfl)))
            refine p_is 83 false rfl (by simp) ?_
            (repeat (first | (apply p_move; exact rfl; exact rfl; exact rfl) | (apply p_pick_f; exact rfl; exact rfl; exact rfl; exact rfl) | (apply p_neq; exact rfl; exact rfl; exact rfl; exact rfl)))
            refine p_is 88 false rfl (by simp) ?_
            (repeat (first | (apply p_move; exact rfl; exact rfl; exact rfl) | (apply p_pick_f; exact rfl; exact rfl; exact rfl; exact rfl) | (apply p_neq; exact rfl; exact rfl; exact rfl; exact rfl)))
            refine p_is 93 false rfl (by simp) ?_
            (repeat (first | (apply p_cx; exact rfl; exact cbA rfl; (first | exact hcn | exact hcf); exact rfl; exact rfl; exact rfl) | (apply p_move; exact rfl; exact rfl; exact rfl) | (apply p_loadB; exact tyA rfl; exact rfl; exact rfl; exact rfl; exact rfl; exact rfl; exact rfl; exact rfl) | (apply p_pick_f; exact rfl; exact rfl; exact rfl; exact rfl) | (apply p_neq; exact rfl; exact rfl; exact rfl; exact rfl)))
            refine p_is 100 false rfl (by simp) ?_
            (repeat (first | (apply p_move; exact rfl; exact rfl; exact rfl) | (apply p_geq; exact rfl; exact rfl; exact rfl; exact rfl)))
            refine p_is 104 true rfl (by simpa using hc1) ?_
            (repeat (first | (apply p_move; exact rfl; exact rfl; exact rfl) | (apply p_fldP; exact flA rfl; exact rfl; exact rfl; exact rfl; exact rfl) | (apply p_loadB; exact tyA rfl; exact rfl; exact rfl; exact rfl; exact rfl; exact rfl; exact rfl; exact rfl) | (apply p_pick_t; exact rfl; exact rfl; exact rfl; exact rfl) | (apply p_pick_f; exact rfl; exact rfl; exact rfl; exact rfl) | (apply p_leq; exact rfl; exact rfl; exact rfl; exact rfl) | (apply p_lenL; exact slA rfl; exact rfl; exact rfl; exact rfl) | (apply p_neqB; exact boA rfl; exact rfl; exact rfl; exact rfl; exact rfl)))
            refine planL_nil (by kernel_rfl) ?_
            refine run_condN rfl (by simp; omega) ?_
            (repeat (first | (apply v_move; exact rfl; exact rfl) | refine run_seq ?_ | refine run_region ?_ | refine runL_nil ?_ | refine run_skip ?_ | (apply v_loadB; exact tyA rfl; exact rfl; exact rfl; exact rfl; exact rfl; exact rfl; exact rfl) | (apply v_on; exact rfl) | (apply v_off; exact rfl; exact rfl) | (apply v_pick_t; exact rfl; exact rfl; exact rfl) | (apply v_pick_f; exact rfl; exact rfl; exact rfl) | (apply run_cond; exact rfl; (focus (intro hb; cases hb; done)); intro hb; clear hb) | (apply v_not; exact rfl; exact rfl) | (apply v_neq; exact rfl; exact rfl; exact rfl) | (apply v_lenN; exact slA rfl; exact rfl; exact rfl)))
            refine v_cR (mp [(0, 200), (1, 201)]) hcopy rfl (cbA rfl) trivial (by kernel_rfl) (by kernel_rfl) (by kernel_rfl) (by kernel_rfl) (by kernel_rfl) (by kernel_rfl) (by kernel_rfl) (by kernel_rfl) rfl ?_
            (repeat (first | refine run_seq ?_ | refine run_region ?_ | refine runL_nil ?_ | (apply v_loadB; exact tyA rfl; exact rfl; exact rfl; exact rfl; exact rfl; exact rfl; exact rfl) | (apply v_allocD; exact tyA rfl; exact rfl; exact rfl; exact rfl; exact rfl) | (apply v_storeW; exact tyA rfl; exact rfl; exact rfl; exact rfl; exact rfl; exact rfl; exact rfl; exact rfl)))
            refine v_cR (mp [(0, 200), (1, 201)]) hsame rfl (cbA rfl) ⟨rfl, rfl, trivial⟩ (by kernel_rfl) (by kernel_rfl) (by kernel_rfl) (by kernel_rfl) (by kernel_rfl) (by kernel_rfl) (by kernel_rfl) (by kernel_rfl) rfl ?_
            (repeat (first | refine run_seq ?_ | refine run_region ?_ | refine runL_nil ?_ | refine run_skip ?_ | (apply v_loadB; exact tyA rfl; exact rfl; exact rfl; exact rfl; exact rfl; exact rfl; exact rfl) | (apply run_cond; exact rfl; (focus (intro hb; cases hb; done)); intro hb; clear hb) | (apply v_not; exact rfl; exact rfl)))
            refine v_cR (mp [(0, 300), (1, 301)]) hcopy rfl (cbA rfl) trivial (by kernel_rfl) (by kernel_rfl) (by kernel_rfl) (by kernel_rfl) (by kernel_rfl) (by kernel_rfl) (by kernel_rfl) (by kernel_rfl) rfl ?_
            (repeat (first | (apply v_assign; exact rfl; exact rfl) | refine run_seq ?_ | refine run_region ?_ | refine runL_nil ?_ | refine run_block ?_ | (apply v_allocD; exact tyA rfl; exact rfl; exact rfl; exact rfl; exact rfl) | (apply v_storeW; exact tyA rfl; exact rfl; exact rfl; exact rfl; exact rfl; exact rfl; exact rfl; exact rfl)))
            refine v_loop (fun q : Nat × List OpD => ⟨[(3, .ptr 3 0), (17, .v (.slice none 0 0)), (19, .ptr 19 0), (20, .ptr 20 0), (21, .v (.int .i64 q.1))], [(3, .box 25 [.sem (listS opE main), .sem (listS callE calls)]), (19, .box 25 [.res 200, .res 201]), (20, .box 25 [.res 300, .res 301]), (200, .obj (ownS 33 opE q.2)), (201, .obj (nestP 22 33 opE calls [])), (300, .obj (ownS 33 opE main)), (301, .obj (nestP 22 33 opE calls []))]⟩) (fun q => q.1 ≤ main.length ∧ q.2.length = main.length) (fun q => main.length - q.1) (0, main) idN trivial (by repeat (first | exact trivial | refine ⟨rfl, ?_⟩)) ⟨rfl, rfl, rfl, rfl, rfl, rfl, rfl, trivial⟩ rfl ⟨by simp, rfl⟩ fun ⟨i, xs⟩ ⟨hi, hx⟩ ih => ?_
            dsimp only at hi hx ⊢
            (repeat (first | (apply v_move; exact rfl; exact rfl) | refine run_seq ?_ | refine run_region ?_ | refine runL_nil ?_ | (apply v_fldP; exact flA rfl; exact rfl; exact rfl; exact rfl) | (apply v_loadB; exact tyA rfl; exact rfl; exact rfl; exact rfl; exact rfl; exact rfl; exact rfl) | (apply v_lss; exact rfl; exact rfl; exact rfl) | (apply v_lenO; exact slA rfl; exact rfl; exact rfl; exact rfl)))
            refine run_cond rfl (fun hb => ?_) (fun hb => ?_)
            · have hlt : i < xs.length := by simpa using hb
              have hx2 : xs[((i : Int)).toNat]? = some xs[i] := by simp [hlt]
              generalize xs[i] = z at *
              (repeat (first | (apply v_idxO; exact slA rfl; exact tyA rfl; exact rfl; exact rfl; exact rfl; exact rfl; exact (by omega); exact (by omega); exact rfl) | (apply v_move; exact rfl; exact rfl) | refine run_seq ?_ | refine run_region ?_ | refine run_skip ?_ | refine run_block ?_ | (apply v_fldP; exact flA rfl; exact rfl; exact rfl; exact rfl) | (apply v_loadB; exact tyA rfl; exact rfl; exact rfl; exact rfl; exact rfl; exact rfl; exact rfl)))
              refine v_storeO (xs := xs) (j := ((i : Int)).toNat) (f := 1) { z with a := 77 } (tyA rfl) rfl rfl rfl rfl hx2 rfl rfl (by decide) rfl rfl ?_
              (repeat (first | (apply v_move; exact rfl; exact rfl) | (apply v_assign; exact rfl; exact rfl) | refine run_region ?_ | refine runL_nil ?_ | refine run_inBlock ?_ | (apply v_add; exact rfl; exact rfl; exact rfl; exact (by omega))))
              exact v_again ih (i + 1, xs.set ((i : Int)).toNat { z with a := 77 }) idN trivial (by repeat (first | exact trivial | refine ⟨rfl, ?_⟩)) ⟨rfl, rfl, rfl, rfl, rfl, rfl, rfl, trivial⟩ rfl ⟨by simp only; omega, by simp only [List.length_set]; exact hx⟩ (by simp only; omega)
            · clear ih
              (repeat (first | (apply v_assign; exact rfl; exact rfl) | refine run_seq ?_ | refine run_region ?_ | refine runL_nil ?_ | refine run_block ?_ | (apply run_exit; exact rfl)))
              refine run_openN 201 401 rfl rfl rfl rfl rfl fun ps hps => ?_
              refine run_form 401 rfl fun hform => ?_
              have hpl : ps.length = calls.length := by rw [← hps, List.length_map]
              skip
              refine v_loop (fun q : Nat × List (SlV × List OpD) => ⟨[(3, .ptr 3 0), (17, .v (.slice none 0 0)), (19, .ptr 19 0), (20, .ptr 20 0), (22, .v (.int .i64 q.1))], [(3, .box 25 [.sem (listS opE main), .sem (listS callE calls)]), (19, .box 25 [.res 200, .res 201]), (20, .box 25 [.res 300, .res 301]), (200, .obj (ownS 33 opE xs)), (201, .obj (ownS 22 valE (ps.map (·.1)))), (401, .obj (manyR 33 opE q.2)), (300, .obj (ownS 33 opE main)), (301, .obj (nestP 22 33 opE calls []))]⟩) (fun q => q.1 ≤ ps.length ∧ q.2.map (·.1) = ps.map (·.1) ∧ FormO q.2) (fun q => ps.length - q.1) (0, ps) idN trivial (by repeat (first | exact trivial | refine ⟨rfl, ?_⟩)) ⟨rfl, rfl, rfl, rfl, rfl, rfl, rfl, rfl, trivial⟩ rfl ⟨by simp, rfl, hform⟩ fun ⟨i2, qs⟩ ⟨hi2, hq1, hq2⟩ ih => ?_
              dsimp only at hi2 hq1 hq2 ⊢
              (repeat (first | (apply v_move; exact rfl; exact rfl) | refine run_seq ?_ | refine run_region ?_ | refine runL_nil ?_ | (apply v_fldP; exact flA rfl; exact rfl; exact rfl; exact rfl) | (apply v_loadB; exact tyA rfl; exact rfl; exact rfl; exact rfl; exact rfl; exact rfl; exact rfl) | (apply v_lss; exact rfl; exact rfl; exact rfl) | (apply v_lenO; exact slA rfl; exact rfl; exact rfl; exact rfl)))
              refine run_cond rfl (fun hb2 => ?_) (fun hb2 => ?_)
              · have hlt : i2 < (ps.map (·.1)).length := by simpa using hb2
                have hu2 : (ps.map (·.1))[i2]? = some (ps.map (·.1))[i2] := List.getElem?_eq_getElem hlt
                have hu3 : (ps.map (·.1))[((i2 : Int)).toNat]? = some (ps.map (·.1))[i2] := by rw [show ((i2 : Int)).toNat = i2 by omega]; exact hu2
                have hps2 : (ps.map (·.1)).length = ps.length := List.length_map ..
                have hsn := form_len hps hform hu2 hcl
                generalize (ps.map (·.1))[i2] = s at *
                (repeat (first | (apply v_assign; exact rfl; exact rfl) | refine run_seq ?_ | refine run_region ?_ | refine runL_nil ?_ | refine run_skip ?_ | refine run_block ?_))
                refine v_loop (fun q : Nat × List (SlV × List OpD) => ⟨[(3, .ptr 3 0), (17, .v (.slice none 0 0)), (19, .ptr 19 0), (20, .ptr 20 0), (22, .v (.int .i64 i2)), (23, .v (.int .i64 q.1))], [(3, .box 25 [.sem (listS opE main), .sem (listS callE calls)]), (19, .box 25 [.res 200, .res 201]), (20, .box 25 [.res 300, .res 301]), (200, .obj (ownS 33 opE xs)), (201, .obj (ownS 22 valE (ps.map (·.1)))), (401, .obj (manyR 33 opE q.2)), (300, .obj (ownS 33 opE main)), (301, .obj (nestP 22 33 opE calls []))]⟩) (fun q => q.1 ≤ s.n ∧ q.2.map (·.1) = ps.map (·.1) ∧ FormO q.2) (fun q => s.n - q.1) (0, qs) idN trivial (by repeat (first | exact trivial | refine ⟨rfl, ?_⟩)) ⟨rfl, rfl, rfl, rfl, rfl, rfl, rfl, rfl, trivial⟩ rfl ⟨by simp, hq1, hq2⟩ fun ⟨j, qs⟩ ⟨hj, hq1, hq2⟩ ih2 => ?_
                dsimp only at hj hq1 hq2 ⊢
                (repeat (first | (apply v_idxO; exact slA rfl; exact tyA rfl; exact rfl; exact rfl; exact rfl; exact rfl; exact (by omega); exact (by omega); exact rfl) | (apply v_move; exact rfl; exact rfl) | refine run_seq ?_ | refine run_region ?_ | (apply v_fldP; exact flA rfl; exact rfl; exact rfl; exact rfl) | (apply v_loadB; exact tyA rfl; exact rfl; exact rfl; exact rfl; exact rfl; exact rfl; exact rfl)))
                refine v_loadO (f := 0) (j := ((i2 : Int)).toNat) (tyA rfl) rfl rfl rfl (by simp [valE]) hu3 (by decide) rfl rfl ?_
                refine v_lenV (slA rfl) rfl rfl ?_
                (repeat (first | refine runL_nil ?_ | (apply v_lss; exact rfl; exact rfl; exact rfl)))
                refine run_cond rfl (fun hb3 => ?_) (fun hb3 => ?_)
                · have hjn : j < s.n := by simpa using hb3
                  obtain ⟨b, cap, l, hs1, hs2, hs3⟩ := form_at hq1 hq2 hu2 hjn
                  subst hs1
                  have hjl : l[((j : Int)).toNat]? = some l[j] := by simp [show j < l.length from hjn]
                  generalize l[j] = z at *
                  (repeat (first | (apply v_idxO; exact slA rfl; exact tyA rfl; exact rfl; exact rfl; exact rfl; exact rfl; exact (by omega); exact (by omega); exact rfl) | (apply v_move; exact rfl; exact rfl) | refine run_seq ?_ | refine run_region ?_ | refine run_skip ?_ | refine run_block ?_ | (apply v_fldP; exact flA rfl; exact rfl; exact rfl; exact rfl) | (apply v_loadB; exact tyA rfl; exact rfl; exact rfl; exact rfl; exact rfl; exact rfl; exact rfl)))
                  refine v_loadO (f := 0) (j := ((i2 : Int)).toNat) (tyA rfl) rfl rfl rfl (by simp [valE]) hu3 (by decide) rfl rfl ?_
                  (repeat (first | (apply v_move; exact rfl; exact rfl)))
                  refine v_idxV (slA rfl) (tyA rfl) rfl rfl (by omega) (by omega) rfl ?_
                  refine v_fldV (flA rfl) rfl rfl rfl ?_
                  refine v_storeM (h := 401) (e := 33) (E := opE) i2 ((j : Int)).toNat 1 { z with a := 77 } (tyA rfl) rfl rfl rfl hs2 rfl hjl rfl rfl (by decide) rfl rfl ?_
                  (repeat (first | (apply v_move; exact rfl; exact rfl) | (apply v_assign; exact rfl; exact rfl) | refine run_region ?_ | refine runL_nil ?_ | refine run_inBlock ?_ | (apply v_add; exact rfl; exact rfl; exact rfl; exact (by omega))))
                  exact v_again ih2 (j + 1, qs.set i2 (⟨some ⟨b, 0, none⟩, l.length, cap⟩, l.set ((j : Int)).toNat { z with a := 77 })) idN trivial (by repeat (first | exact trivial | refine ⟨rfl, ?_⟩)) ⟨rfl, rfl, rfl, rfl, rfl, rfl, rfl, rfl, trivial⟩ rfl ⟨by simp only; omega, (form_set hq1 hs2 (by simp)).1, (form_set hq1 hs2 (by simp)).2 hq2⟩ (by simp only; omega)
                · clear ih2
                  (repeat (first | (apply v_move; exact rfl; exact rfl) | (apply v_assign; exact rfl; exact rfl) | refine run_region ?_ | refine runL_nil ?_ | refine run_inBlock ?_ | (apply run_exit; exact rfl) | (apply v_add; exact rfl; exact rfl; exact rfl; exact (by omega))))
                  exact v_again ih (i2 + 1, qs) idN trivial (by repeat (first | exact trivial | refine ⟨rfl, ?_⟩)) ⟨rfl, rfl, rfl, rfl, rfl, rfl, rfl, rfl, trivial⟩ rfl ⟨by simp only; omega, hq1, hq2⟩ (by simp only; omega)
              · clear ih
                (repeat (first | (apply v_assign; exact rfl; exact rfl) | refine run_seq ?_ | refine run_region ?_ | refine runL_nil ?_ | refine run_block ?_ | (apply run_exit; exact rfl)))
                refine v_loop (fun _ : Unit => ⟨[(3, .ptr 3 0), (17, .v (.slice none 0 0)), (20, .ptr 20 0), (24, .v (.int .i64 0))], [(3, .box 25 [.sem (listS opE main), .sem (listS callE calls)]), (20, .box 25 [.res 300, .res 301]), (300, .obj (ownS 33 opE main)), (301, .obj (nestP 22 33 opE calls []))]⟩) (fun _ => True) (fun _ => 0) () idN trivial (by repeat (first | exact trivial | refine ⟨rfl, ?_⟩)) ⟨rfl, rfl, rfl, rfl, trivial⟩ rfl trivial fun _ _ ih => ?_
                clear ih
                (repeat (first | (apply v_move; exact rfl; exact rfl) | refine run_seq ?_ | refine run_region ?_ | refine runL_nil ?_ | (apply run_exit; exact rfl) | (apply v_loadB; exact tyA rfl; exact rfl; exact rfl; exact rfl; exact rfl; exact rfl; exact rfl) | (apply run_cond; exact rfl; (focus (intro hb; cases hb; done)); intro hb; clear hb) | (apply v_lss; exact rfl; exact rfl; exact rfl) | (apply v_lenN; exact slA rfl; exact rfl; exact rfl)))
                refine v_cR (mp [(0, 300), (1, 301)]) hsame rfl (cbA rfl) ⟨rfl, rfl, trivial⟩ (by kernel_rfl) (by kernel_rfl) (by kernel_rfl) (by kernel_rfl) (by kernel_rfl) (by kernel_rfl) (by kernel_rfl) (by kernel_rfl) rfl ?_
                (repeat (first | (apply v_assign; exact rfl; exact rfl) | refine runL_nil ?_))
                exact run_ret idN _ Tryd.func4 ⟨_, _, rfl, rfl, rfl⟩ rfl trivial trivial rfl
          · refine fun_intro 192 Tryd.func4 rfl rfl rfl (fun ι F S w => ?_)
            (repeat (first | (apply v_cx; exact rfl; exact cbA rfl; (first | exact awake20); exact rfl; exact rfl) | (apply v_move; exact rfl; exact rfl) | (apply v_assign; exact rfl; exact rfl) | refine run_seq ?_ | refine run_region ?_ | refine runL_nil ?_ | refine run_skip ?_ | (apply v_fldP; exact flA rfl; exact rfl; exact rfl; exact rfl) | (apply v_loadB; exact tyA rfl; exact rfl; exact rfl; exact rfl; exact rfl; exact rfl; exact rfl) | (apply run_cond; exact rfl; (focus (intro hb; cases hb; done)); intro hb; clear hb) | (apply v_not; exact rfl; exact rfl) | (apply v_gtr; exact rfl; exact rfl; exact rfl) | (apply v_lenL; exact slA rfl; exact rfl; exact rfl) | (apply v_boxD; exact rfl; exact rfl; exact rfl; exact rfl; exact rfl; exact rfl; exact rfl)))
            refine v_is 31 false rfl (by simp; omega) ?_
            (repeat (first | (apply v_cx; exact rfl; exact cbA rfl; (first | exact hcf); exact rfl; exact rfl) | refine runL_nil ?_ | (apply v_loadB; exact tyA rfl; exact rfl; exact rfl; exact rfl; exact rfl; exact rfl; exact rfl) | (apply v_on; exact rfl) | (apply v_pick_f; exact rfl; exact rfl; exact rfl) | (apply v_gtr; exact rfl; exact rfl; exact rfl)))
            refine run_condN rfl (by simp; omega) ?_
            (repeat (first | (apply v_move; exact rfl; exact rfl) | refine run_seq ?_ | refine run_region ?_ | refine runL_nil ?_ | refine run_skip ?_ | (apply v_eql; exact rfl; exact rfl; exact rfl)))
            refine run_condN rfl (by simpa using he) ?_
            (repeat (first | refine run_seq ?_ | refine run_region ?_ | refine run_skip ?_ | (apply v_loadB; exact tyA rfl; exact rfl; exact rfl; exact rfl; exact rfl; exact rfl; exact rfl)))
            (repeat (first | (apply v_cx; exact rfl; exact cbA rfl; (first | exact hk | exact hk2); exact rfl; exact rfl) | (apply v_move; exact rfl; exact rfl) | (apply v_assign; exact rfl; exact rfl) | refine run_seq ?_ | refine run_region ?_ | refine runL_nil ?_ | (apply v_extract; exact rfl; exact rfl; exact rfl) | (apply v_loadB; exact tyA rfl; exact rfl; exact rfl; exact rfl; exact rfl; exact rfl; exact rfl)))
            (repeat (first | (apply v_cx; exact rfl; exact cbA rfl; (first | exact hcall); exact rfl; exact rfl) | (apply v_move; exact rfl; exact rfl) | (apply v_assign; exact rfl; exact rfl) | refine run_seq ?_ | refine runL_nil ?_ | (apply v_extract; exact rfl; exact rfl; exact rfl)))
            refine run_draws (by kernel_rfl) (by kernel_rfl) ?_
            (repeat (first | (apply p_move; exact rfl; exact rfl; exact rfl) | (apply p_neq; exact rfl; exact rfl; exact rfl; exact rfl)))
            refine p_is 83 false rfl (by simp) ?_
            (repeat (first | (apply p_move; exact rfl; exact rfl; exact rfl) | (apply p_pick_f; exact rfl; exact rfl; exact rfl; exact rfl) | (apply p_neq; exact rfl; exact rfl; exact rfl; exact rfl)))
            refine p_is 88 false rfl (by simp) ?_
            (repeat (first | (apply p_move; exact rfl; exact rfl; exact rfl) | (apply p_pick_f; exact rfl; exact rfl; exact rfl; exact rfl) | (apply p_neq; exact rfl; exact rfl; exact rfl; exact rfl)))
            refine p_is 93 false rfl (by simp) ?_
            (repeat (first | (apply p_cx; exact rfl; exact cbA rfl; (first | exact hcn | exact hcf); exact rfl; exact rfl; exact rfl) | (apply p_move; exact rfl; exact rfl; exact rfl) | (apply p_loadB; exact tyA rfl; exact rfl; exact rfl; exact rfl; exact rfl; exact rfl; exact rfl; exact rfl) | (apply p_pick_f; exact rfl; exact rfl; exact rfl; exact rfl) | (apply p_neq; exact rfl; exact rfl; exact rfl; exact rfl)))
            refine p_is 100 false rfl (by simp) ?_
            (repeat (first | (apply p_move; exact rfl; exact rfl; exact rfl) | (apply p_geq; exact rfl; exact rfl; exact rfl; exact rfl)))
            refine p_is 104 false rfl (by simpa using hc1) ?_
            (repeat (first | (apply p_off; exact rfl; exact rfl) | (apply p_pick_f; exact rfl; exact rfl; exact rfl; exact rfl) | (apply p_neqB; exact boA rfl; exact rfl; exact rfl; exact rfl; exact rfl)))
            refine planL_nil (by kernel_rfl) ?_
            refine run_condN rfl (by simp) ?_
            (repeat (first | (apply v_move; exact rfl; exact rfl) | refine run_seq ?_ | refine run_region ?_ | refine runL_nil ?_ | refine run_skip ?_ | (apply v_loadB; exact tyA rfl; exact rfl; exact rfl; exact rfl; exact rfl; exact rfl; exact rfl) | (apply v_on; exact rfl) | (apply v_off; exact rfl; exact rfl) | (apply v_pick_t; exact rfl; exact rfl; exact rfl) | (apply v_pick_f; exact rfl; exact rfl; exact rfl) | (apply run_cond; exact rfl; (focus (intro hb; cases hb; done)); intro hb; clear hb) | (apply v_not; exact rfl; exact rfl) | (apply v_neq; exact rfl; exact rfl; exact rfl) | (apply v_lenN; exact slA rfl; exact rfl; exact rfl)))
            refine v_cR (mp [(0, 200), (1, 201)]) hcopy rfl (cbA rfl) trivial (by kernel_rfl) (by kernel_rfl) (by kernel_rfl) (by kernel_rfl) (by kernel_rfl) (by kernel_rfl) (by kernel_rfl) (by kernel_rfl) rfl ?_
            (repeat (first | refine run_seq ?_ | refine run_region ?_ | refine runL_nil ?_ | (apply v_loadB; exact tyA rfl; exact rfl; exact rfl; exact rfl; exact rfl; exact rfl; exact rfl) | (apply v_allocD; exact tyA rfl; exact rfl; exact rfl; exact rfl; exact rfl) | (apply v_storeW; exact tyA rfl; exact rfl; exact rfl; exact rfl; exact rfl; exact rfl; exact rfl; exact rfl)))
            refine v_cR (mp [(0, 200), (1, 201)]) hsame rfl (cbA rfl) ⟨rfl, rfl, trivial⟩ (by kernel_rfl) (by kernel_rfl) (by kernel_rfl) (by kernel_rfl) (by kernel_rfl) (by kernel_rfl) (by kernel_rfl) (by kernel_rfl) rfl ?_
            (repeat (first | refine run_seq ?_ | refine run_region ?_ | refine runL_nil ?_ | refine run_skip ?_ | (apply v_loadB; exact tyA rfl; exact rfl; exact rfl; exact rfl; exact rfl; exact rfl; exact rfl) | (apply run_cond; exact rfl; (focus (intro hb; cases hb; done)); intro hb; clear hb) | (apply v_not; exact rfl; exact rfl)))
            refine v_cR (mp [(0, 300), (1, 301)]) hcopy rfl (cbA rfl) trivial (by kernel_rfl) (by kernel_rfl) (by kernel_rfl) (by kernel_rfl) (by kernel_rfl) (by kernel_rfl) (by kernel_rfl) (by kernel_rfl) rfl ?_
            (repeat (first | (apply v_assign; exact rfl; exact rfl) | refine run_seq ?_ | refine run_region ?_ | refine runL_nil ?_ | refine run_block ?_ | (apply v_allocD; exact tyA rfl; exact rfl; exact rfl; exact rfl; exact rfl) | (apply v_storeW; exact tyA rfl; exact rfl; exact rfl; exact rfl; exact rfl; exact rfl; exact rfl; exact rfl)))
            refine v_loop (fun q : Nat × List OpD => ⟨[(3, .ptr 3 0), (17, .v (.slice none 0 0)), (19, .ptr 19 0), (20, .ptr 20 0), (21, .v (.int .i64 q.1))], [(3, .box 25 [.sem (listS opE main), .sem (listS callE calls)]), (19, .box 25 [.res 200, .res 201]), (20, .box 25 [.res 300, .res 301]), (200, .obj (ownS 33 opE q.2)), (201, .obj (nestP 22 33 opE calls [])), (300, .obj (ownS 33 opE main)), (301, .obj (nestP 22 33 opE calls []))]⟩) (fun q => q.1 ≤ main.length ∧ q.2.length = main.length) (fun q => main.length - q.1) (0, main) idN trivial (by repeat (first | exact trivial | refine ⟨rfl, ?_⟩)) ⟨rfl, rfl, rfl, rfl, rfl, rfl, rfl, trivial⟩ rfl ⟨by simp, rfl⟩ fun ⟨i, xs⟩ ⟨hi, hx⟩ ih => ?_
            dsimp only at hi hx ⊢
            (repeat (first | (apply v_move; exact rfl; exact rfl) | refine run_seq ?_ | refine run_region ?_ | refine runL_nil ?_ | (apply v_fldP; exact flA rfl; exact rfl; exact rfl; exact rfl) | (apply v_loadB; exact tyA rfl; exact rfl; exact rfl; exact rfl; exact rfl; exact rfl; exact rfl) | (apply v_lss; exact rfl; exact rfl; exact rfl) | (apply v_lenO; exact slA rfl; exact rfl; exact rfl; exact rfl)))
            refine run_cond rfl (fun hb => ?_) (fun hb => ?_)
            · have hlt : i < xs.length := by simpa using hb
              have hx2 : xs[((i : Int)).toNat]? = some xs[i] := by simp [hlt]
              generalize xs[i] = z at *
              (repeat (first | (apply v_idxO; exact slA rfl; exact tyA rfl; exact rfl; exact rfl; exact rfl; exact rfl; exact (by omega); exact (by omega); exact rfl) | (apply v_move; exact rfl; exact rfl) | refine run_seq ?_ | refine run_region ?_ | refine run_skip ?_ | refine run_block ?_ | (apply v_fldP; exact flA rfl; exact rfl; exact rfl; exact rfl) | (apply v_loadB; exact tyA rfl; exact rfl; exact rfl; exact rfl; exact rfl; exact rfl; exact rfl)))
              refine v_storeO (xs := xs) (j := ((i : Int)).toNat) (f := 1) { z with a := 77 } (tyA rfl) rfl rfl rfl rfl hx2 rfl rfl (by decide) rfl rfl ?_
              (repeat (first | (apply v_move; exact rfl; exact rfl) | (apply v_assign; exact rfl; exact rfl) | refine run_region ?_ | refine runL_nil ?_ | refine run_inBlock ?_ | (apply v_add; exact rfl; exact rfl; exact rfl; exact (by omega))))
              exact v_again ih (i + 1, xs.set ((i : Int)).toNat { z with a := 77 }) idN trivial (by repeat (first | exact trivial | refine ⟨rfl, ?_⟩)) ⟨rfl, rfl, rfl, rfl, rfl, rfl, rfl, trivial⟩ rfl ⟨by simp only; omega, by simp only [List.length_set]; exact hx⟩ (by simp only; omega)
            · clear ih
              (repeat (first | (apply v_assign; exact rfl; exact rfl) | refine run_seq ?_ | refine run_region ?_ | refine runL_nil ?_ | refine run_block ?_ | (apply run_exit; exact rfl)))
              refine run_openN 201 401 rfl rfl rfl rfl rfl fun ps hps => ?_
              refine run_form 401 rfl fun hform => ?_
              have hpl : ps.length = calls.length := by rw [← hps, List.length_map]
              skip
              refine v_loop (fun q : Nat × List (SlV × List OpD) => ⟨[(3, .ptr 3 0), (17, .v (.slice none 0 0)), (19, .ptr 19 0), (20, .ptr 20 0), (22, .v (.int .i64 q.1))], [(3, .box 25 [.sem (listS opE main), .sem (listS callE calls)]), (19, .box 25 [.res 200, .res 201]), (20, .box 25 [.res 300, .res 301]), (200, .obj (ownS 33 opE xs)), (201, .obj (ownS 22 valE (ps.map (·.1)))), (401, .obj (manyR 33 opE q.2)), (300, .obj (ownS 33 opE main)), (301, .obj (nestP 22 33 opE calls []))]⟩) (fun q => q.1 ≤ ps.length ∧ q.2.map (·.1) = ps.map (·.1) ∧ FormO q.2) (fun q => ps.length - q.1) (0, ps) idN trivial (by repeat (first | exact trivial | refine ⟨rfl, ?_⟩)) ⟨rfl, rfl, rfl, rfl, rfl, rfl, rfl, rfl, trivial⟩ rfl ⟨by simp, rfl, hform⟩ fun ⟨i2, qs⟩ ⟨hi2, hq1, hq2⟩ ih => ?_
              dsimp only at hi2 hq1 hq2 ⊢
              (repeat (first | (apply v_move; exact rfl; exact rfl) | refine run_seq ?_ | refine run_region ?_ | refine runL_nil ?_ | (apply v_fldP; exact flA rfl; exact rfl; exact rfl; exact rfl) | (apply v_loadB; exact tyA rfl; exact rfl; exact rfl; exact rfl; exact rfl; exact rfl; exact rfl) | (apply v_lss; exact rfl; exact rfl; exact rfl) | (apply v_lenO; exact slA rfl; exact rfl; exact rfl; exact rfl)))
              refine run_cond rfl (fun hb2 => ?_) (fun hb2 => ?_)
              · have hlt : i2 < (ps.map (·.1)).length := by simpa using hb2
                have hu2 : (ps.map (·.1))[i2]? = some (ps.map (·.1))[i2] := List.getElem?_eq_getElem hlt
                have hu3 : (ps.map (·.1))[((i2 : Int)).toNat]? = some (ps.map (·.1))[i2] := by rw [show ((i2 : Int)).toNat = i2 by omega]; exact hu2
                have hps2 : (ps.map (·.1)).length = ps.length := List.length_map ..
                have hsn := form_len hps hform hu2 hcl
                generalize (ps.map (·.1))[i2] = s at *
                (repeat (first | (apply v_assign; exact rfl; exact rfl) | refine run_seq ?_ | refine run_region ?_ | refine runL_nil ?_ | refine run_skip ?_ | refine run_block ?_))
                refine v_loop (fun q : Nat × List (SlV × List OpD) => ⟨[(3, .ptr 3 0), (17, .v (.slice none 0 0)), (19, .ptr 19 0), (20, .ptr 20 0), (22, .v (.int .i64 i2)), (23, .v (.int .i64 q.1))], [(3, .box 25 [.sem (listS opE main), .sem (listS callE calls)]), (19, .box 25 [.res 200, .res 201]), (20, .box 25 [.res 300, .res 301]), (200, .obj (ownS 33 opE xs)), (201, .obj (ownS 22 valE (ps.map (·.1)))), (401, .obj (manyR 33 opE q.2)), (300, .obj (ownS 33 opE main)), (301, .obj (nestP 22 33 opE calls []))]⟩) (fun q => q.1 ≤ s.n ∧ q.2.map (·.1) = ps.map (·.1) ∧ FormO q.2) (fun q => s.n - q.1) (0, qs) idN trivial (by repeat (first | exact trivial | refine ⟨rfl, ?_⟩)) ⟨rfl, rfl, rfl, rfl, rfl, rfl, rfl, rfl, trivial⟩ rfl ⟨by simp, hq1, hq2⟩ fun ⟨j, qs⟩ ⟨hj, hq1, hq2⟩ ih2 => ?_
                dsimp only at hj hq1 hq2 ⊢
                (repeat (first | (apply v_idxO; exact slA rfl; exact tyA rfl; exact rfl; exact rfl; exact rfl; exact rfl; exact (by omega); exact (by omega); exact rfl) | (apply v_move; exact rfl; exact rfl) | refine run_seq ?_ | refine run_region ?_ | (apply v_fldP; exact flA rfl; exact rfl; exact rfl; exact rfl) | (apply v_loadB; exact tyA rfl; exact rfl; exact rfl; exact rfl; exact rfl; exact rfl; exact rfl)))
                refine v_loadO (f := 0) (j := ((i2 : Int)).toNat) (tyA rfl) rfl rfl rfl (by simp [valE]) hu3 (by decide) rfl rfl ?_
                refine v_lenV (slA rfl) rfl rfl ?_
                (repeat (first | refine runL_nil ?_ | (apply v_lss; exact rfl; exact rfl; exact rfl)))
                refine run_cond rfl (fun hb3 => ?_) (fun hb3 => ?_)
                · have hjn : j < s.n := by simpa using hb3
                  obtain ⟨b, cap, l, hs1, hs2, hs3⟩ := form_at hq1 hq2 hu2 hjn
                  subst hs1
                  have hjl : l[((j : Int)).toNat]? = some l[j] := by simp [show j < l.length from hjn]
                  generalize l[j] = z at *
                  (repeat (first | (apply v_idxO; exact slA rfl; exact tyA rfl; exact rfl; exact rfl; exact rfl; exact rfl; exact (by omega); exact (by omega); exact rfl) | (apply v_move; exact rfl; exact rfl) | refine run_seq ?_ | refine run_region ?_ | refine run_skip ?_ | refine run_block ?_ | (apply v_fldP; exact flA rfl; exact rfl; exact rfl; exact rfl) | (apply v_loadB; exact tyA rfl; exact rfl; exact rfl; exact rfl; exact rfl; exact rfl; exact rfl)))
                  refine v_loadO (f := 0) (j := ((i2 : Int)).toNat) (tyA rfl) rfl rfl rfl (by simp [valE]) hu3 (by decide) rfl rfl ?_
                  (repeat (first | (apply v_move; exact rfl; exact rfl)))
                  refine v_idxV (slA rfl) (tyA rfl) rfl rfl (by omega) (by omega) rfl ?_
                  refine v_fldV (flA rfl) rfl rfl rfl ?_
                  refine v_storeM (h := 401) (e := 33) (E := opE) i2 ((j : Int)).toNat 1 { z with a := 77 } (tyA rfl) rfl rfl rfl hs2 rfl hjl rfl rfl (by decide) rfl rfl ?_
                  (repeat (first | (apply v_move; exact rfl; exact rfl) | (apply v_assign; exact rfl; exact rfl) | refine run_region ?_ | refine runL_nil ?_ | refine run_inBlock ?_ | (apply v_add; exact rfl; exact rfl; exact rfl; exact (by omega))))
                  exact v_again ih2 (j + 1, qs.set i2 (⟨some ⟨b, 0, none⟩, l.length, cap⟩, l.set ((j : Int)).toNat { z with a := 77 })) idN trivial (by repeat (first | exact trivial | refine ⟨rfl, ?_⟩)) ⟨rfl, rfl, rfl, rfl, rfl, rfl, rfl, rfl, trivial⟩ rfl ⟨by simp only; omega, (form_set hq1 hs2 (by simp)).1, (form_set hq1 hs2 (by simp)).2 hq2⟩ (by simp only; omega)
                · clear ih2
                  (repeat (first | (apply v_move; exact rfl; exact rfl) | (apply v_assign; exact rfl; exact rfl) | refine run_region ?_ | refine runL_nil ?_ | refine run_inBlock ?_ | (apply run_exit; exact rfl) | (apply v_add; exact rfl; exact rfl; exact rfl; exact (by omega))))
                  exact v_again ih (i2 + 1, qs) idN trivial (by repeat (first | exact trivial | refine ⟨rfl, ?_⟩)) ⟨rfl, rfl, rfl, rfl, rfl, rfl, rfl, rfl, trivial⟩ rfl ⟨by simp only; omega, hq1, hq2⟩ (by simp only; omega)
              · clear ih
                (repeat (first | (apply v_assign; exact rfl; exact rfl) | refine run_seq ?_ | refine run_region ?_ | refine runL_nil ?_ | refine run_block ?_ | (apply run_exit; exact rfl)))
                refine v_loop (fun _ : Unit => ⟨[(3, .ptr 3 0), (17, .v (.slice none 0 0)), (20, .ptr 20 0), (24, .v (.int .i64 0))], [(3, .box 25 [.sem (listS opE main), .sem (listS callE calls)]), (20, .box 25 [.res 300, .res 301]), (300, .obj (ownS 33 opE main)), (301, .obj (nestP 22 33 opE calls []))]⟩) (fun _ => True) (fun _ => 0) () idN trivial (by repeat (first | exact trivial | refine ⟨rfl, ?_⟩)) ⟨rfl, rfl, rfl, rfl, trivial⟩ rfl trivial fun _ _ ih => ?_
                clear ih
                (repeat (first | (apply v_move; exact rfl; exact rfl) | refine run_seq ?_ | refine run_region ?_ | refine runL_nil ?_ | (apply run_exit; exact rfl) | (apply v_loadB; exact tyA rfl; exact rfl; exact rfl; exact rfl; exact rfl; exact rfl; exact rfl) | (apply run_cond; exact rfl; (focus (intro hb; cases hb; done)); intro hb; clear hb) | (apply v_lss; exact rfl; exact rfl; exact rfl) | (apply v_lenN; exact slA rfl; exact rfl; exact rfl)))
                refine v_cR (mp [(0, 300), (1, 301)]) hsame rfl (cbA rfl) ⟨rfl, rfl, trivial⟩ (by kernel_rfl) (by kernel_rfl) (by kernel_rfl) (by kernel_rfl) (by kernel_rfl) (by kernel_rfl) (by kernel_rfl) (by kernel_rfl) rfl ?_
                (repeat (first | (apply v_assign; exact rfl; exact rfl) | refine runL_nil ?_))
                exact run_ret idN _ Tryd.func4 ⟨_, _, rfl, rfl, rfl⟩ rfl trivial trivial rfl
end Go.Proofs.YtpmeffdcbjakoaaDoor
