/- Law 04: ArenaPlays. -/
import Derived.Test.YtjkidecaciomgaaAr1
import Derived.Test.YtjkidecaciomgaaAn2
namespace Go.Proofs.Ytjkidecaciomgaa
set_option linter.unusedVariables false
set_option linter.unusedSimpArgs false
set_option maxRecDepth 100000
open Go.RowKit

abbrev FormG {β : Type} (ps : List (SlV × List β)) : Prop := ∀ p ∈ ps, (p.1 = ⟨none, 0, 0⟩ ∧ p.2 = []) ∨ ∃ b cap, p.1 = ⟨some ⟨b, 0, none⟩, p.2.length, cap⟩
theorem form_atG {β : Type} {ss : List SlV} {qs : List (SlV × List β)} {i j : Nat} {s : SlV} (h1 : qs.map (·.1) = ss) (h2 : FormG qs) (hu : ss[i]? = some s) (hj : j < s.n) : ∃ b cap l, s = ⟨some ⟨b, 0, none⟩, List.length l, cap⟩ ∧ qs[i]? = some (⟨some ⟨b, 0, none⟩, l.length, cap⟩, l) ∧ j < l.length := by
  rw [← h1, List.getElem?_map] at hu
  cases hq : qs[i]? with
  | none => rw [hq] at hu; cases hu
  | some q =>
    rw [hq] at hu
    obtain ⟨q1, q2⟩ := q
    obtain rfl : q1 = s := by simpa using hu
    rcases h2 _ (List.mem_of_getElem? hq) with ⟨h3, h4⟩ | ⟨b, cap, h3⟩
    · dsimp only at h3
      rw [h3] at hj
      exact absurd hj (Nat.not_lt_zero _)
    · dsimp only at h3
      subst h3
      exact ⟨b, cap, q2, rfl, rfl, hj⟩
theorem map_set_same {α γ : Type} {f : α → γ} {xs : List α} {i : Nat} {x y : α} (hx : xs[i]? = some x) (hf : f y = f x := by rfl) : (xs.set i y).map f = xs.map f := by
  apply List.ext_getElem?
  intro k
  rw [List.getElem?_map, List.getElem?_map, List.getElem?_set]
  by_cases e : i = k
  · subst e
    have := (List.getElem?_eq_some_iff.1 hx).1
    rw [if_pos rfl, if_pos this, hx, Option.map_some, Option.map_some, hf]
  · rw [if_neg e]
theorem form_setG {β : Type} {ss : List SlV} {qs : List (SlV × List β)} {i b cap : Nat} {l l' : List β} (h1 : qs.map (·.1) = ss) (hq : qs[i]? = some (⟨some ⟨b, 0, none⟩, l.length, cap⟩, l)) (hl : l'.length = l.length) : (qs.set i (⟨some ⟨b, 0, none⟩, l.length, cap⟩, l')).map (·.1) = ss ∧ (FormG qs → FormG (qs.set i (⟨some ⟨b, 0, none⟩, l.length, cap⟩, l'))) := by
  constructor
  · rw [map_set_same hq]; exact h1
  · intro h p hp
    rcases List.mem_or_eq_of_mem_set hp with hp | hp
    · exact h p hp
    · rw [hp]
      exact .inr ⟨b, cap, by rw [hl]⟩
theorem zip_fst {ss : List SlV} {l : List Nd} (h : ss.length = l.length) : (ss.zip l).map (·.1) = ss := List.map_fst_zip (by omega)
theorem kids_fst {ss : List SlV} {l : List Nd} (h : ss.length = l.length) : (kidsP ss l).map (·.1) = ss := List.map_fst_zip (by rw [List.length_map]; omega)
theorem form_lenG {ss : List SlV} {l : List Nd} {i : Nat} {s : SlV} (hl : ss.length = l.length) (h2 : FormG (kidsP ss l)) (hu : ss[i]? = some s) (hk : ∀ x ∈ l, x.kids.length ≤ 1000000) : s.n ≤ 1000000 := by
  have hi := (List.getElem?_eq_some_iff.1 hu).1
  have hq : (kidsP ss l)[i]? = some (s, (l[i]'(by omega)).kids) := by
    rw [kidsP, List.getElem?_zip_eq_some]
    exact ⟨hu, by rw [List.getElem?_map, List.getElem?_eq_getElem (by omega)]; rfl⟩
  have hkx := hk _ (List.getElem_mem (show i < l.length by omega))
  rcases h2 _ (List.mem_of_getElem? hq) with ⟨h3, h4⟩ | ⟨b, cap, h3⟩
  · dsimp only at h3
    rw [h3]
    exact Nat.zero_le _
  · dsimp only at h3
    rw [h3]
    exact hkx
def nd0A : AV := .agg [.v (.int .i64 0), .v (.int .i64 0), .v (.int .i64 0), .v (.int .i64 0), .v (.int .i64 0), .v (.bool false), .v (.string ⟨#[]⟩), .v (.string ⟨#[]⟩), .v (.slice none 0 0)]
set_option maxHeartbeats 8000000 in
theorem arenaPlays_f {acts : List Ac} (id : Int) (hm : acts.length ≤ 9223372036854775807) (hs : ∀ x ∈ acts, AcStr x) : Fun Try.prog 3 [.sem (listS acE acts), .v (.int .i64 id)] [] (.v (.bool true)) [] := by
  have hgr := great04 hm
  cases hg : greatM acts with
  | true =>
    rw [hg] at hgr
    refine fun_intro 147 Try.func3 rfl rfl rfl (fun ι F S w => ?_)
    (repeat (first | (apply v_cx; exact rfl; exact cbA rfl; (first | exact awake04 | exact hgr); exact rfl; exact rfl) | (apply v_move; exact rfl; exact rfl) | (apply v_assign; exact rfl; exact rfl) | refine run_seq ?_ | refine run_region ?_ | refine runL_nil ?_ | refine run_skip ?_ | (apply run_cond; exact rfl; rotate_left; (focus (intro hb; cases hb; done)); intro hb; clear hb) | (apply run_cond; exact rfl; (focus (intro hb; cases hb; done)); intro hb; clear hb) | (apply v_not; exact rfl; exact rfl)))
    exact run_ret idN _ Try.func3 ⟨_, _, rfl, rfl, rfl⟩ rfl trivial trivial rfl
  | false =>
    rw [hg] at hgr
    obtain ⟨hl, hx⟩ := acts_ok hg fun x hx => ⟨(hs x hx).s, (hs x hx).name, (hs x hx).want⟩
    have hwf := wf_nodes hx
    refine fun_intro 147 Try.func3 rfl rfl rfl (fun ι F S w => ?_)
    (repeat (first | (apply v_cx; exact rfl; exact cbA rfl; (first | exact awake04 | exact hgr); exact rfl; exact rfl) | (apply v_move; exact rfl; exact rfl) | (apply v_assign; exact rfl; exact rfl) | refine run_seq ?_ | refine run_region ?_ | refine runL_nil ?_ | refine run_skip ?_ | (apply run_cond; exact rfl; (focus (intro hb; cases hb; done)); intro hb; clear hb) | (apply v_not; exact rfl; exact rfl)))
    refine v_cR (mp [(0, 100), (1, 101)]) new_f rfl (cbA rfl) trivial (by kernel_rfl) (by kernel_rfl) (by kernel_rfl) (by kernel_rfl) (by kernel_rfl) (by kernel_rfl) (by kernel_rfl) (by kernel_rfl) rfl ?_
    (repeat (first | (apply v_assign; exact rfl; exact rfl) | refine run_seq ?_ | refine run_region ?_ | refine runL_nil ?_ | refine run_block ?_))
    refine run_le 6 rfl (y := .sem (listS nodeE [])) Le.nil ?_
    refine v_loop (fun i : Nat => ⟨[(0, .sem (listS acE acts)), (1, .v (.int .i64 id)), (5, .ptr 100 0), (6, .sem (listS nodeE (nodesM (acts.take i)))), (7, .v (.int .i64 i))], [(100, .box 53 [.res 101]), (101, .obj (ownS 33 nodeE (nodesM (acts.take i))))]⟩) (fun i => i ≤ acts.length) (fun i => acts.length - i) 0 idN trivial (by repeat (first | exact trivial | refine ⟨rfl, ?_⟩)) ⟨rfl, rfl, trivial⟩ rfl (by omega) fun i hi ih => ?_
    have hw : WF (nodesM (acts.take i)) := wf_nodes fun x h => hx x (List.mem_of_mem_take h)
    (repeat (first | (apply v_move; exact rfl; exact rfl) | refine run_seq ?_ | refine run_region ?_ | refine runL_nil ?_ | (apply v_lss; exact rfl; exact rfl; exact rfl) | (apply v_lenL; exact slA rfl; exact rfl; exact rfl)))
    refine run_cond rfl (fun hb => ?_) (fun hb => ?_)
    · have hlt : i < acts.length := by simpa using hb
      have hx2 : acts[((i : Int)).toNat]? = some acts[i] := by simp [hlt]
      have hd := dol_f hw (hx _ (List.getElem_mem hlt))
      have hr := do_r hw (hx _ (List.getElem_mem hlt))
      have hst : nodesM (acts.take (i + 1)) = (doM (nodesM (acts.take i)) acts[i]).1 := by rw [nodes_take hlt, do_act]
      have hlv := lend (u := .int .i64 (doM (nodesM (acts.take i)) acts[i]).1.length) 1 rfl rfl (len_f (l := (doM (nodesM (acts.take i)) acts[i]).1))
      generalize doM (nodesM (acts.take i)) acts[i] = D at *
      (repeat (first | (apply v_idxL; exact slA rfl; exact tyA rfl; exact rfl; exact rfl; exact rfl; exact rfl; exact (by omega); (first | exact hx2); exact rfl) | (apply v_move; exact rfl; exact rfl) | refine run_seq ?_ | refine run_region ?_ | refine run_skip ?_ | refine run_block ?_ | (apply v_loadA; exact tyA rfl; exact rfl; exact rfl; exact rfl; exact rfl; exact rfl; exact rfl)))
      refine v_cR (mp [(0, 100), (1, 101), (2, 102)]) hd rfl (cbA rfl) ⟨rfl, rfl, trivial⟩ (by kernel_rfl) (by kernel_rfl) (by kernel_rfl) (by kernel_rfl) (by kernel_rfl) (by kernel_rfl) (by kernel_rfl) (by kernel_rfl) rfl ?_
      (repeat (first | (apply v_idxL; exact slA rfl; exact tyA rfl; exact rfl; exact rfl; exact rfl; exact rfl; exact (by omega); (first | exact hx2); exact rfl) | (apply v_cx; exact rfl; exact cbA rfl; (first | exact hr); exact rfl; exact rfl) | (apply v_move; exact rfl; exact rfl) | (apply v_assign; exact rfl; exact rfl) | refine run_seq ?_ | refine run_region ?_ | refine runL_nil ?_ | (apply v_extract; exact rfl; exact rfl; exact rfl) | (apply v_loadA; exact tyA rfl; exact rfl; exact rfl; exact rfl; exact rfl; exact rfl; exact rfl) | (apply v_neq; exact rfl; exact rfl; exact rfl)))
      refine v_is 53 false rfl (by simp) ?_
      (repeat (first | (apply v_move; exact rfl; exact rfl) | (apply v_on; exact rfl) | (apply v_pick_f; exact rfl; exact rfl; exact rfl) | (apply v_neq; exact rfl; exact rfl; exact rfl)))
      refine v_is 58 false rfl (by simp) ?_
      (repeat (first | (apply v_move; exact rfl; exact rfl) | (apply v_on; exact rfl)))
      refine v_cR (mp [(0, 100), (1, 102)]) hlv rfl (cbA rfl) ⟨rfl, rfl, trivial⟩ (by kernel_rfl) (by kernel_rfl) (by kernel_rfl) (by kernel_rfl) (by kernel_rfl) (by kernel_rfl) (by kernel_rfl) (by kernel_rfl) rfl ?_
      (repeat (first | (apply v_move; exact rfl; exact rfl) | refine runL_nil ?_ | (apply v_on; exact rfl) | (apply v_pick_f; exact rfl; exact rfl; exact rfl) | (apply v_neq; exact rfl; exact rfl; exact rfl) | (apply v_lenL; exact slA rfl; exact rfl; exact rfl)))
      refine run_condN rfl (by simp) ?_
      (repeat (first | (apply v_move; exact rfl; exact rfl) | (apply v_assign; exact rfl; exact rfl) | refine run_region ?_ | refine runL_nil ?_ | refine run_skip ?_ | refine run_inBlock ?_ | (apply v_add; exact rfl; exact rfl; exact rfl; exact (by omega))))
      exact v_again ih (i + 1) (mp [(101, 102)]) trivial ⟨rfl, rfl, rfl, by rw [hst]; rfl, rfl, trivial⟩ ⟨rfl, by rw [hst]; rfl, trivial⟩ rfl (by omega) (by omega)
    · have hge : i = acts.length := by have : ¬ i < acts.length := (by simpa using hb); omega
      subst hge
      clear ih hw
      rw [List.take_length]
      refine run_freezeIn 100 101 rfl rfl rfl ?_
      refine run_pub 5 100 rfl rfl rfl ?_
      generalize nodesM acts = l at *
      have hka := kids_all hwf
      have hll := hwf.len
      have hall := all_n (l := l) (by omega) hka
      have hsm := same_r (l := l) (m := l) (by omega) hka
      rw [decide_eq_true rfl] at hsm
      have hsame := lendNd (T := 33) (e := 3) (bs := [.sem (listS nodeE l)]) mono_sem hsm
      cases hat : nodeAt l id with
      | some x =>
        obtain ⟨x1, x2, hx3⟩ := nodeAt_some hat
        have hkx := (kids_ok hwf id x hat).1
        have hno := node_o hat (by omega) hkx
        have hth := there_s hat
        have hon := one_r (x := x) (y := x) hkx
        rw [decide_eq_true rfl] at hon
        have hone := lendOne (e := 3) (bs := [.agg (nodeL x)]) mono_node hon
        (repeat (first | (apply v_move; exact rfl; exact rfl) | refine run_seq ?_ | refine run_region ?_ | (apply run_exit; exact rfl)))
        refine v_cR (mp [(0, 200)]) hno rfl (cbA rfl) trivial (by kernel_rfl) (by kernel_rfl) (by kernel_rfl) (by kernel_rfl) (by kernel_rfl) (by kernel_rfl) (by kernel_rfl) (by kernel_rfl) rfl ?_
        (repeat (first | (apply v_move; exact rfl; exact rfl) | (apply v_assign; exact rfl; exact rfl) | refine run_seq ?_ | refine runL_nil ?_ | (apply v_extract; exact rfl; exact rfl; exact rfl) | (apply v_allocD; exact tyA rfl; exact rfl; exact rfl; exact rfl; exact rfl) | (apply v_storeW; exact tyA rfl; exact rfl; exact rfl; exact rfl; exact rfl; exact rfl; exact rfl; exact rfl)))
        refine run_draws (by kernel_rfl) (by kernel_rfl) ?_
        (repeat (first | (apply p_cx; exact rfl; exact cbA rfl; (first | exact hth); exact rfl; exact rfl; exact rfl) | (apply p_idxL; exact slA rfl; exact tyA rfl; exact rfl; exact rfl; exact rfl; exact rfl; exact (by omega); (first | exact hx3); exact rfl; exact rfl) | (refine p_cR (mp [(0, 200)]) hone rfl (cbA rfl) ⟨rfl, trivial⟩ (by kernel_rfl) (by kernel_rfl) (by kernel_rfl) (by kernel_rfl) (by kernel_rfl) (by kernel_rfl) (by kernel_rfl) rfl rfl ?_) | (apply p_off; exact rfl; exact rfl) | (apply p_move; exact rfl; exact rfl; exact rfl) | (apply p_loadB; exact tyA rfl; exact rfl; exact rfl; exact rfl; exact rfl; exact rfl; exact rfl; exact rfl) | (apply p_loadA; exact tyA rfl; exact rfl; exact rfl; exact rfl; exact rfl; exact rfl; exact rfl; exact rfl) | (apply p_pick_t; exact rfl; exact rfl; exact rfl; exact rfl) | (apply p_pick_f; exact rfl; exact rfl; exact rfl; exact rfl) | (apply p_not; exact rfl; exact rfl; exact rfl) | (apply p_neqB; exact boA rfl; exact rfl; exact rfl; exact rfl; exact rfl) | (apply p_sub; exact rfl; exact rfl; exact rfl; exact (by omega); exact rfl)))
        refine planL_nil (by kernel_rfl) ?_
        (repeat (first | (apply v_assign; exact rfl; exact rfl) | refine run_seq ?_ | refine run_region ?_ | refine runL_nil ?_ | refine run_skip ?_ | refine run_block ?_ | (apply run_cond; exact rfl; (focus (intro hb; cases hb; done)); intro hb; clear hb)))
        refine v_loop (fun q : Nat × List Int => ⟨[(5, forA l), (6, .sem (listS nodeE l)), (13, .ptr 13 0), (15, .v (.int .i64 q.1))], [(13, .box 33 (nodeF x (.res 200))), (200, .obj (ownS 3 intE q.2))]⟩) (fun q => q.1 ≤ x.kids.length ∧ q.2.length = x.kids.length) (fun q => x.kids.length - q.1) (0, x.kids) idN trivial (by repeat (first | exact trivial | refine ⟨rfl, ?_⟩)) ⟨rfl, rfl, trivial⟩ rfl ⟨by simp, rfl⟩ fun ⟨i0, xs0⟩ ⟨hi0, hl0⟩ ih => ?_
        dsimp only at hi0 hl0 ⊢
        (repeat (first | (apply v_move; exact rfl; exact rfl) | refine run_seq ?_ | refine run_region ?_ | refine runL_nil ?_ | (apply v_fldP; exact flA rfl; exact rfl; exact rfl; exact rfl) | (apply v_loadB; exact tyA rfl; exact rfl; exact rfl; exact rfl; exact rfl; exact rfl; exact rfl) | (apply v_lss; exact rfl; exact rfl; exact rfl) | (apply v_lenO; exact slA rfl; exact rfl; exact rfl; exact rfl)))
        refine run_cond rfl (fun hb => ?_) (fun hb => ?_)
        · have hlt : i0 < xs0.length := by simpa using hb
          have hx2 : xs0[((i0 : Int)).toNat]? = some xs0[i0] := by simp [hlt]
          generalize xs0[i0] = z at *
          (repeat (first | (apply v_idxO; exact slA rfl; exact tyA rfl; exact rfl; exact rfl; exact rfl; exact rfl; exact (by omega); exact (by omega); exact rfl) | (apply v_move; exact rfl; exact rfl) | refine run_seq ?_ | refine run_region ?_ | refine run_skip ?_ | refine run_block ?_ | (apply v_fldP; exact flA rfl; exact rfl; exact rfl; exact rfl) | (apply v_loadB; exact tyA rfl; exact rfl; exact rfl; exact rfl; exact rfl; exact rfl; exact rfl)))
          refine v_storeO (xs := xs0) (j := ((i0 : Int)).toNat) (f := 0) 99 (tyA rfl) rfl rfl rfl rfl hx2 rfl rfl (by decide) rfl rfl ?_
          (repeat (first | (apply v_move; exact rfl; exact rfl) | (apply v_assign; exact rfl; exact rfl) | refine run_region ?_ | refine runL_nil ?_ | refine run_inBlock ?_ | (apply v_add; exact rfl; exact rfl; exact rfl; exact (by omega))))
          exact v_again ih (i0 + 1, xs0.set ((i0 : Int)).toNat 99) idN trivial (by repeat (first | exact trivial | refine ⟨rfl, ?_⟩)) ⟨rfl, rfl, trivial⟩ rfl ⟨by simp only; omega, by simp only [List.length_set]; exact hl0⟩ (by simp only; omega)
        clear ih
        (repeat (first | (apply v_move; exact rfl; exact rfl) | refine run_seq ?_ | refine run_region ?_ | (apply run_exit; exact rfl)))
        refine v_cR (mp [(0, 300)]) hall rfl (cbA rfl) trivial (by kernel_rfl) (by kernel_rfl) (by kernel_rfl) (by kernel_rfl) (by kernel_rfl) (by kernel_rfl) (by kernel_rfl) (by kernel_rfl) rfl ?_
        (repeat (first | (apply v_move; exact rfl; exact rfl) | (apply v_assign; exact rfl; exact rfl) | refine run_seq ?_ | refine run_region ?_ | refine runL_nil ?_))
        refine v_cR (mp [(0, 300)]) hsame rfl (cbA rfl) ⟨rfl, trivial⟩ (by kernel_rfl) (by kernel_rfl) (by kernel_rfl) (by kernel_rfl) (by kernel_rfl) (by kernel_rfl) (by kernel_rfl) (by kernel_rfl) rfl ?_
        (repeat (first | (apply v_assign; exact rfl; exact rfl) | refine run_seq ?_ | refine run_region ?_ | refine runL_nil ?_ | refine run_skip ?_ | refine run_block ?_ | (apply run_cond; exact rfl; (focus (intro hb; cases hb; done)); intro hb; clear hb) | (apply v_not; exact rfl; exact rfl)))
        refine run_openNd 300 401 rfl rfl rfl rfl rfl fun ss hss => ?_
        refine run_form 401 rfl fun hform => ?_
        have hform0 := hform
        refine v_loop (fun q : Nat × List (SlV × Nd) × List (SlV × List Int) => ⟨[(5, forA l), (6, .sem (listS nodeE l)), (16, .res 300), (17, .v (.int .i64 q.1))], [(300, .obj (ownS 33 nodeV q.2.1)), (401, .obj (manyR 3 intE q.2.2))]⟩) (fun q => q.1 ≤ l.length ∧ q.2.1.map (·.1) = ss ∧ q.2.2.map (·.1) = ss ∧ FormG q.2.2) (fun q => l.length - q.1) (0, ss.zip l, kidsP ss l) idN trivial (by repeat (first | exact trivial | refine ⟨rfl, ?_⟩)) ⟨rfl, rfl, trivial⟩ rfl ⟨by simp, zip_fst hss, kids_fst hss, hform⟩ fun ⟨i, xs, qs⟩ ⟨hi, hx1, hq1, hq2⟩ ih => ?_
        dsimp only at hi hx1 hq1 hq2 ⊢
        have hxl : xs.length = l.length := by rw [← hss, ← hx1, List.length_map]
        (repeat (first | (apply v_move; exact rfl; exact rfl) | refine run_seq ?_ | refine run_region ?_ | refine runL_nil ?_ | (apply v_lss; exact rfl; exact rfl; exact rfl) | (apply v_lenO; exact slA rfl; exact rfl; exact rfl; exact rfl)))
        refine run_cond rfl (fun hb => ?_) (fun hb => ?_)
        · have hlt : i < xs.length := by simpa using hb
          have hx2 : xs[((i : Int)).toNat]? = some xs[i] := by simp [hlt]
          have hu : ss[i]? = some xs[i].1 := by rw [← hx1, List.getElem?_map, List.getElem?_eq_getElem hlt]; rfl
          have hsn := form_lenG hss hform0 hu hka
          obtain ⟨z, hz⟩ : ∃ z, xs[i] = z := ⟨_, rfl⟩
          rw [hz] at hx2 hu hsn
          obtain ⟨s, y⟩ := z
          dsimp only at hu hsn
          (repeat (first | (apply v_idxO; exact slA rfl; exact tyA rfl; exact rfl; exact rfl; exact rfl; exact rfl; exact (by omega); exact (by omega); exact rfl) | (apply v_move; exact rfl; exact rfl) | refine run_seq ?_ | refine run_region ?_ | refine run_skip ?_ | refine run_block ?_ | (apply v_fldP; exact flA rfl; exact rfl; exact rfl; exact rfl)))
          refine v_storeO (xs := xs) (j := ((i : Int)).toNat) (f := 0) (s, { y with kind := 9 }) (tyA rfl) rfl rfl rfl rfl hx2 rfl rfl (by decide) rfl rfl ?_
          (repeat (first | (apply v_assign; exact rfl; exact rfl) | refine run_seq ?_ | refine run_region ?_ | refine runL_nil ?_ | refine run_block ?_))
          have hx3 : (xs.set ((i : Int)).toNat (s, { y with kind := 9 }))[((i : Int)).toNat]? = some (s, { y with kind := 9 }) := by rw [List.getElem?_set, if_pos rfl, if_pos (by omega)]
          have hx4 : (xs.set ((i : Int)).toNat (s, { y with kind := 9 })).map (·.1) = ss := by rw [map_set_same hx2]; exact hx1
          generalize xs.set ((i : Int)).toNat (s, { y with kind := 9 }) = xs2 at *
          have hlt2 : i < xs2.length := by have := (List.getElem?_eq_some_iff.1 hx3).1; omega
          refine v_loop (fun q : Nat × List (SlV × List Int) => ⟨[(5, forA l), (6, .sem (listS nodeE l)), (16, .res 300), (17, .v (.int .i64 i)), (18, .v (.int .i64 q.1))], [(300, .obj (ownS 33 nodeV xs2)), (401, .obj (manyR 3 intE q.2))]⟩) (fun q => q.1 ≤ s.n ∧ q.2.map (·.1) = ss ∧ FormG q.2) (fun q => s.n - q.1) (0, qs) idN trivial (by repeat (first | exact trivial | refine ⟨rfl, ?_⟩)) ⟨rfl, rfl, trivial⟩ rfl ⟨by simp, hq1, hq2⟩ fun ⟨j, qs⟩ ⟨hj, hq1, hq2⟩ ih2 => ?_
          dsimp only at hj hq1 hq2 ⊢
          (repeat (first | (apply v_idxO; exact slA rfl; exact tyA rfl; exact rfl; exact rfl; exact rfl; exact rfl; exact (by omega); exact (by omega); exact rfl) | (apply v_move; exact rfl; exact rfl) | refine run_seq ?_ | refine run_region ?_ | (apply v_fldP; exact flA rfl; exact rfl; exact rfl; exact rfl)))
          refine v_loadO (f := 8) (j := ((i : Int)).toNat) (tyA rfl) rfl rfl rfl rfl hx3 (by decide) rfl rfl ?_
          refine v_lenV (slA rfl) rfl rfl ?_
          (repeat (first | refine runL_nil ?_ | (apply v_lss; exact rfl; exact rfl; exact rfl)))
          refine run_cond rfl (fun hb3 => ?_) (fun hb3 => ?_)
          · have hjn : j < s.n := by simpa using hb3
            obtain ⟨b, cap, ks, hs1, hs2, hs3⟩ := form_atG hq1 hq2 hu hjn
            subst hs1
            have hjl : ks[((j : Int)).toNat]? = some ks[j] := by simp [show j < ks.length from hjn]
            generalize ks[j] = z at *
            (repeat (first | (apply v_idxO; exact slA rfl; exact tyA rfl; exact rfl; exact rfl; exact rfl; exact rfl; exact (by omega); exact (by omega); exact rfl) | (apply v_move; exact rfl; exact rfl) | refine run_seq ?_ | refine run_region ?_ | refine run_skip ?_ | refine run_block ?_ | (apply v_fldP; exact flA rfl; exact rfl; exact rfl; exact rfl)))
            refine v_loadO (f := 8) (j := ((i : Int)).toNat) (tyA rfl) rfl rfl rfl rfl hx3 (by decide) rfl rfl ?_
            (repeat (first | (apply v_move; exact rfl; exact rfl)))
            refine v_idxV (slA rfl) (tyA rfl) rfl rfl (by omega) (by omega) rfl ?_
            refine v_storeM (h := 401) (e := 3) (E := intE) i ((j : Int)).toNat 0 99 (tyA rfl) rfl rfl rfl hs2 rfl hjl rfl rfl (by decide) rfl rfl ?_
            (repeat (first | (apply v_move; exact rfl; exact rfl) | (apply v_assign; exact rfl; exact rfl) | refine run_region ?_ | refine runL_nil ?_ | refine run_inBlock ?_ | (apply v_add; exact rfl; exact rfl; exact rfl; exact (by omega))))
            exact v_again ih2 (j + 1, qs.set i (⟨some ⟨b, 0, none⟩, ks.length, cap⟩, ks.set ((j : Int)).toNat 99)) idN trivial (by repeat (first | exact trivial | refine ⟨rfl, ?_⟩)) ⟨rfl, rfl, trivial⟩ rfl ⟨by simp only; omega, (form_setG hq1 hs2 (by simp)).1, (form_setG hq1 hs2 (by simp)).2 hq2⟩ (by simp only; omega)
          · clear ih2
            (repeat (first | (apply v_move; exact rfl; exact rfl) | (apply v_assign; exact rfl; exact rfl) | refine run_region ?_ | refine runL_nil ?_ | refine run_inBlock ?_ | (apply run_exit; exact rfl) | (apply v_add; exact rfl; exact rfl; exact rfl; exact (by omega))))
            exact v_again ih (i + 1, xs2, qs) idN trivial (by repeat (first | exact trivial | refine ⟨rfl, ?_⟩)) ⟨rfl, rfl, trivial⟩ rfl ⟨by simp only; omega, hx4, hq1, hq2⟩ (by simp only; omega)
        · clear ih
          (repeat (first | (apply v_move; exact rfl; exact rfl) | refine run_seq ?_ | refine run_region ?_ | (apply run_exit; exact rfl)))
          refine v_cR (mp [(0, 500)]) hall rfl (cbA rfl) trivial (by kernel_rfl) (by kernel_rfl) (by kernel_rfl) (by kernel_rfl) (by kernel_rfl) (by kernel_rfl) (by kernel_rfl) (by kernel_rfl) rfl ?_
          (repeat (first | (apply v_move; exact rfl; exact rfl)))
          refine v_cR (mp [(0, 500)]) hsame rfl (cbA rfl) ⟨rfl, trivial⟩ (by kernel_rfl) (by kernel_rfl) (by kernel_rfl) (by kernel_rfl) (by kernel_rfl) (by kernel_rfl) (by kernel_rfl) (by kernel_rfl) rfl ?_
          (repeat (first | (apply v_assign; exact rfl; exact rfl) | refine runL_nil ?_))
          exact run_ret idN _ Try.func3 ⟨_, _, rfl, rfl, rfl⟩ rfl trivial trivial rfl
      | none =>
        have hno := node_w hwf id
        rw [show nodeR l id = nd0 by simp [nodeR, hat], hat] at hno
        have hth := there_n hat
        have hon := one_r (x := nd0) (y := nd0) (by decide)
        rw [decide_eq_true rfl] at hon
        have hone := hon.arg (l' := [.agg (nodeL nd0), nd0A]) ⟨Le.refl, Le.agg (by repeat (first | exact trivial | refine ⟨Le.refl, ?_⟩ | refine ⟨Le.nil, ?_⟩)), trivial⟩
        (repeat (first | (apply v_cx; exact rfl; exact cbA rfl; (first | exact hno); exact rfl; exact rfl) | (apply v_move; exact rfl; exact rfl) | (apply v_assign; exact rfl; exact rfl) | refine run_seq ?_ | refine run_region ?_ | refine runL_nil ?_ | (apply run_exit; exact rfl) | (apply v_extract; exact rfl; exact rfl; exact rfl) | (apply v_allocD; exact tyA rfl; exact rfl; exact rfl; exact rfl; exact rfl) | (apply v_storeW; exact tyA rfl; exact rfl; exact rfl; exact rfl; exact rfl; exact rfl; exact rfl; exact rfl)))
        refine run_draws (by kernel_rfl) (by kernel_rfl) ?_
        (repeat (first | (apply p_cx; exact rfl; exact cbA rfl; (first | exact hth | exact hone); exact rfl; exact rfl; exact rfl) | (apply p_off; exact rfl; exact rfl) | (apply p_move; exact rfl; exact rfl; exact rfl) | (apply p_loadB; exact tyA rfl; exact rfl; exact rfl; exact rfl; exact rfl; exact rfl; exact rfl; exact rfl) | (apply p_pick_t; exact rfl; exact rfl; exact rfl; exact rfl) | (apply p_pick_f; exact rfl; exact rfl; exact rfl; exact rfl) | (apply p_not; exact rfl; exact rfl; exact rfl) | (apply p_neqB; exact boA rfl; exact rfl; exact rfl; exact rfl; exact rfl) | (apply p_b; exact plA rfl; exact tyA rfl; exact rfl; exact rfl; exact rfl; exact rfl)))
        refine planL_nil (by kernel_rfl) ?_
        (repeat (first | (apply v_assign; exact rfl; exact rfl) | refine run_seq ?_ | refine run_region ?_ | refine runL_nil ?_ | refine run_skip ?_ | refine run_block ?_ | (apply run_cond; exact rfl; (focus (intro hb; cases hb; done)); intro hb; clear hb)))
        refine v_loop (fun _ : Unit => ⟨[(5, forA l), (6, .sem (listS nodeE l)), (13, .ptr 13 0), (15, .v (.int .i64 0))], [(13, .box 33 (nodeL nd0))]⟩) (fun _ => True) (fun _ => 0) () idN trivial (by repeat (first | exact trivial | refine ⟨rfl, ?_⟩)) ⟨rfl, trivial⟩ rfl trivial fun _ _ ih => ?_
        clear ih
        (repeat (first | (apply v_move; exact rfl; exact rfl) | refine run_seq ?_ | refine run_region ?_ | refine runL_nil ?_ | (apply run_exit; exact rfl) | (apply v_fldP; exact flA rfl; exact rfl; exact rfl; exact rfl) | (apply v_loadB; exact tyA rfl; exact rfl; exact rfl; exact rfl; exact rfl; exact rfl; exact rfl) | (apply run_cond; exact rfl; (focus (intro hb; cases hb; done)); intro hb; clear hb) | (apply v_lss; exact rfl; exact rfl; exact rfl) | (apply v_lenL; exact slA rfl; exact rfl; exact rfl)))
        refine v_cR (mp [(0, 300)]) hall rfl (cbA rfl) trivial (by kernel_rfl) (by kernel_rfl) (by kernel_rfl) (by kernel_rfl) (by kernel_rfl) (by kernel_rfl) (by kernel_rfl) (by kernel_rfl) rfl ?_
        (repeat (first | (apply v_move; exact rfl; exact rfl) | (apply v_assign; exact rfl; exact rfl) | refine run_seq ?_ | refine run_region ?_ | refine runL_nil ?_))
        refine v_cR (mp [(0, 300)]) hsame rfl (cbA rfl) ⟨rfl, trivial⟩ (by kernel_rfl) (by kernel_rfl) (by kernel_rfl) (by kernel_rfl) (by kernel_rfl) (by kernel_rfl) (by kernel_rfl) (by kernel_rfl) rfl ?_
        (repeat (first | (apply v_assign; exact rfl; exact rfl) | refine run_seq ?_ | refine run_region ?_ | refine runL_nil ?_ | refine run_skip ?_ | refine run_block ?_ | (apply run_cond; exact rfl; (focus (intro hb; cases hb; done)); intro hb; clear hb) | (apply v_not; exact rfl; exact rfl)))
        refine run_openNd 300 401 rfl rfl rfl rfl rfl fun ss hss => ?_
        refine run_form 401 rfl fun hform => ?_
        have hform0 := hform
        refine v_loop (fun q : Nat × List (SlV × Nd) × List (SlV × List Int) => ⟨[(5, forA l), (6, .sem (listS nodeE l)), (16, .res 300), (17, .v (.int .i64 q.1))], [(300, .obj (ownS 33 nodeV q.2.1)), (401, .obj (manyR 3 intE q.2.2))]⟩) (fun q => q.1 ≤ l.length ∧ q.2.1.map (·.1) = ss ∧ q.2.2.map (·.1) = ss ∧ FormG q.2.2) (fun q => l.length - q.1) (0, ss.zip l, kidsP ss l) idN trivial (by repeat (first | exact trivial | refine ⟨rfl, ?_⟩)) ⟨rfl, rfl, trivial⟩ rfl ⟨by simp, zip_fst hss, kids_fst hss, hform⟩ fun ⟨i, xs, qs⟩ ⟨hi, hx1, hq1, hq2⟩ ih => ?_
        dsimp only at hi hx1 hq1 hq2 ⊢
        have hxl : xs.length = l.length := by rw [← hss, ← hx1, List.length_map]
        (repeat (first | (apply v_move; exact rfl; exact rfl) | refine run_seq ?_ | refine run_region ?_ | refine runL_nil ?_ | (apply v_lss; exact rfl; exact rfl; exact rfl) | (apply v_lenO; exact slA rfl; exact rfl; exact rfl; exact rfl)))
        refine run_cond rfl (fun hb => ?_) (fun hb => ?_)
        · have hlt : i < xs.length := by simpa using hb
          have hx2 : xs[((i : Int)).toNat]? = some xs[i] := by simp [hlt]
          have hu : ss[i]? = some xs[i].1 := by rw [← hx1, List.getElem?_map, List.getElem?_eq_getElem hlt]; rfl
          have hsn := form_lenG hss hform0 hu hka
          obtain ⟨z, hz⟩ : ∃ z, xs[i] = z := ⟨_, rfl⟩
          rw [hz] at hx2 hu hsn
          obtain ⟨s, y⟩ := z
          dsimp only at hu hsn
          (repeat (first | (apply v_idxO; exact slA rfl; exact tyA rfl; exact rfl; exact rfl; exact rfl; exact rfl; exact (by omega); exact (by omega); exact rfl) | (apply v_move; exact rfl; exact rfl) | refine run_seq ?_ | refine run_region ?_ | refine run_skip ?_ | refine run_block ?_ | (apply v_fldP; exact flA rfl; exact rfl; exact rfl; exact rfl)))
          refine v_storeO (xs := xs) (j := ((i : Int)).toNat) (f := 0) (s, { y with kind := 9 }) (tyA rfl) rfl rfl rfl rfl hx2 rfl rfl (by decide) rfl rfl ?_
          (repeat (first | (apply v_assign; exact rfl; exact rfl) | refine run_seq ?_ | refine run_region ?_ | refine runL_nil ?_ | refine run_block ?_))
          have hx3 : (xs.set ((i : Int)).toNat (s, { y with kind := 9 }))[((i : Int)).toNat]? = some (s, { y with kind := 9 }) := by rw [List.getElem?_set, if_pos rfl, if_pos (by omega)]
          have hx4 : (xs.set ((i : Int)).toNat (s, { y with kind := 9 })).map (·.1) = ss := by rw [map_set_same hx2]; exact hx1
          generalize xs.set ((i : Int)).toNat (s, { y with kind := 9 }) = xs2 at *
          have hlt2 : i < xs2.length := by have := (List.getElem?_eq_some_iff.1 hx3).1; omega
          refine v_loop (fun q : Nat × List (SlV × List Int) => ⟨[(5, forA l), (6, .sem (listS nodeE l)), (16, .res 300), (17, .v (.int .i64 i)), (18, .v (.int .i64 q.1))], [(300, .obj (ownS 33 nodeV xs2)), (401, .obj (manyR 3 intE q.2))]⟩) (fun q => q.1 ≤ s.n ∧ q.2.map (·.1) = ss ∧ FormG q.2) (fun q => s.n - q.1) (0, qs) idN trivial (by repeat (first | exact trivial | refine ⟨rfl, ?_⟩)) ⟨rfl, rfl, trivial⟩ rfl ⟨by simp, hq1, hq2⟩ fun ⟨j, qs⟩ ⟨hj, hq1, hq2⟩ ih2 => ?_
          dsimp only at hj hq1 hq2 ⊢
          (repeat (first | (apply v_idxO; exact slA rfl; exact tyA rfl; exact rfl; exact rfl; exact rfl; exact rfl; exact (by omega); exact (by omega); exact rfl) | (apply v_move; exact rfl; exact rfl) | refine run_seq ?_ | refine run_region ?_ | (apply v_fldP; exact flA rfl; exact rfl; exact rfl; exact rfl)))
          refine v_loadO (f := 8) (j := ((i : Int)).toNat) (tyA rfl) rfl rfl rfl rfl hx3 (by decide) rfl rfl ?_
          refine v_lenV (slA rfl) rfl rfl ?_
          (repeat (first | refine runL_nil ?_ | (apply v_lss; exact rfl; exact rfl; exact rfl)))
          refine run_cond rfl (fun hb3 => ?_) (fun hb3 => ?_)
          · have hjn : j < s.n := by simpa using hb3
            obtain ⟨b, cap, ks, hs1, hs2, hs3⟩ := form_atG hq1 hq2 hu hjn
            subst hs1
            have hjl : ks[((j : Int)).toNat]? = some ks[j] := by simp [show j < ks.length from hjn]
            generalize ks[j] = z at *
            (repeat (first | (apply v_idxO; exact slA rfl; exact tyA rfl; exact rfl; exact rfl; exact rfl; exact rfl; exact (by omega); exact (by omega); exact rfl) | (apply v_move; exact rfl; exact rfl) | refine run_seq ?_ | refine run_region ?_ | refine run_skip ?_ | refine run_block ?_ | (apply v_fldP; exact flA rfl; exact rfl; exact rfl; exact rfl)))
            refine v_loadO (f := 8) (j := ((i : Int)).toNat) (tyA rfl) rfl rfl rfl rfl hx3 (by decide) rfl rfl ?_
            (repeat (first | (apply v_move; exact rfl; exact rfl)))
            refine v_idxV (slA rfl) (tyA rfl) rfl rfl (by omega) (by omega) rfl ?_
            refine v_storeM (h := 401) (e := 3) (E := intE) i ((j : Int)).toNat 0 99 (tyA rfl) rfl rfl rfl hs2 rfl hjl rfl rfl (by decide) rfl rfl ?_
            (repeat (first | (apply v_move; exact rfl; exact rfl) | (apply v_assign; exact rfl; exact rfl) | refine run_region ?_ | refine runL_nil ?_ | refine run_inBlock ?_ | (apply v_add; exact rfl; exact rfl; exact rfl; exact (by omega))))
            exact v_again ih2 (j + 1, qs.set i (⟨some ⟨b, 0, none⟩, ks.length, cap⟩, ks.set ((j : Int)).toNat 99)) idN trivial (by repeat (first | exact trivial | refine ⟨rfl, ?_⟩)) ⟨rfl, rfl, trivial⟩ rfl ⟨by simp only; omega, (form_setG hq1 hs2 (by simp)).1, (form_setG hq1 hs2 (by simp)).2 hq2⟩ (by simp only; omega)
          · clear ih2
            (repeat (first | (apply v_move; exact rfl; exact rfl) | (apply v_assign; exact rfl; exact rfl) | refine run_region ?_ | refine runL_nil ?_ | refine run_inBlock ?_ | (apply run_exit; exact rfl) | (apply v_add; exact rfl; exact rfl; exact rfl; exact (by omega))))
            exact v_again ih (i + 1, xs2, qs) idN trivial (by repeat (first | exact trivial | refine ⟨rfl, ?_⟩)) ⟨rfl, rfl, trivial⟩ rfl ⟨by simp only; omega, hx4, hq1, hq2⟩ (by simp only; omega)
        · clear ih
          (repeat (first | (apply v_move; exact rfl; exact rfl) | refine run_seq ?_ | refine run_region ?_ | (apply run_exit; exact rfl)))
          refine v_cR (mp [(0, 500)]) hall rfl (cbA rfl) trivial (by kernel_rfl) (by kernel_rfl) (by kernel_rfl) (by kernel_rfl) (by kernel_rfl) (by kernel_rfl) (by kernel_rfl) (by kernel_rfl) rfl ?_
          (repeat (first | (apply v_move; exact rfl; exact rfl)))
          refine v_cR (mp [(0, 500)]) hsame rfl (cbA rfl) ⟨rfl, trivial⟩ (by kernel_rfl) (by kernel_rfl) (by kernel_rfl) (by kernel_rfl) (by kernel_rfl) (by kernel_rfl) (by kernel_rfl) (by kernel_rfl) rfl ?_
          (repeat (first | (apply v_assign; exact rfl; exact rfl) | refine runL_nil ?_))
          exact run_ret idN _ Try.func3 ⟨_, _, rfl, rfl, rfl⟩ rfl trivial trivial rfl
theorem arenaPlays_walk (A : Option Addr) (c0 : Nat) (acts : List Ac) (id : Int) (W : World) (hv : AVRs ι0 (old W) W [.sem (listS acE acts)] [.slice A acts.length c0]) (hs : ∀ x ∈ acts, AcStr x) (hm : acts.length ≤ 9223372036854775807) (w1 : (Lit.int .i64 id).wf = true) : Calls Try.prog 3 #[.slice A acts.length c0, .int .i64 id] W fun e w' => e = .returned (.bool true) ∧ Below W.heap.size W w' :=
  acts_walk (vs := [.int .i64 id]) hv (arenaPlays_f id hm hs)
end Go.Proofs.Ytjkidecaciomgaa
