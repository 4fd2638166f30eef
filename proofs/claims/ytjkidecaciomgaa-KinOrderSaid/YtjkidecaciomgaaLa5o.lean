/- Law 05: KinOrder. -/
import Derived.Test.YtjkidecaciomgaaLa5
import Derived.Test.YtjkidecaciomgaaFoO
import Derived.Test.YtjkidecaciomgaaFoE
import Derived.Test.YtjkidecaciomgaaKinPlW
namespace Go.Proofs.Ytjkidecaciomgaa
set_option linter.unusedVariables false
set_option linter.unusedSimpArgs false
set_option maxRecDepth 100000
open Go.RowKit

theorem top_root {l : List Nd} (h : WF l) {r c : Int} {x : Nd} (hr : nodeAt l r = some x) (hp : x.parent = 0) (hm : r ∈ ch l Nd.parent c) : rootM l c = r := by
  refine desc_induct (desc_par h) (p := fun c => r ∈ ch l Nd.parent c → rootM l c = r) (fun c hx hm => ?_) (fun c y hy ih hm => ?_) c hm
  · rw [ch_none hx] at hm; cases hm
  · rw [par_step h hy] at hm
    rcases List.mem_cons.1 hm with e | hm
    · rw [← e]; exact root_top h hr hp
    · by_cases h0 : y.parent = 0
      · rw [h0, ch_none nodeAt_zero] at hm; cases hm
      · rw [root_sub h hy h0]; exact ih hm
theorem kinOrder_f {xs : List Ac} (id : Int) (hm : xs.length ≤ 9223372036854775807) (hs : ∀ x ∈ xs, AcStr x) : Fun Try.prog 6 [.sem (listS acE xs), .v (.int .i64 id)] [] (.v (.bool true)) [] := by
  have hgr := great5 hm
  cases hg : greatM xs with
  | true =>
    rw [hg] at hgr
    refine fun_intro 130 Try.func6 rfl rfl rfl (fun ι F S w => ?_)
    (repeat (first | (apply v_cx; exact rfl; exact cbA rfl; (first | exact awake5 | exact hgr); exact rfl; exact rfl) | (apply v_move; exact rfl; exact rfl) | (apply v_assign; exact rfl; exact rfl) | refine run_seq ?_ | refine run_region ?_ | refine runL_nil ?_ | refine run_skip ?_ | (apply run_cond; exact rfl; rotate_left; (focus (intro hb; cases hb; done)); intro hb; clear hb) | (apply run_cond; exact rfl; (focus (intro hb; cases hb; done)); intro hb; clear hb) | (apply v_not; exact rfl; exact rfl)))
    exact run_ret idN _ Try.func6 ⟨_, _, rfl, rfl, rfl⟩ rfl trivial trivial rfl
  | false =>
    rw [hg] at hgr
    obtain ⟨hl, hx⟩ := acts_ok hg fun x hx => ⟨(hs x hx).s, (hs x hx).name, (hs x hx).want⟩
    have hw := wf_nodes hx
    have hmade := made5 hl hx
    generalize nodesM xs = l at hw hmade
    have hlen := hw.len
    have hrt := root_f hw id
    have hrr := root_root hw id
    have hr0 : rootM l id = 0 ∨ ∃ x, nodeAt l (rootM l id) = some x ∧ x.parent = 0 := by
      cases hx : nodeAt l id with
      | none => exact .inl (root_none hw hx)
      | some x => exact .inr (root_some hw hx)
    generalize rootM l id = r0 at *
    have hor := order_p hw r0
    have hol := ord_len hw r0
    have hoin : ∀ c ∈ orderM l r0, 1 ≤ c ∧ c ≤ l.length := fun c hc => ord_in hw hc
    have hond : (orderM l r0).Nodup := ord_nodup hw 129 r0
    have hom : ∀ c, c ∈ orderM l r0 ↔ r0 ∈ ch l Nd.parent c := fun c => ord_mem hw r0 c
    have hbeh : Beh l [0] (orderM l r0) := ord_beh hw 129 r0 [0] fun x hx => by
      rcases hr0 with e | ⟨y, hy, e⟩
      · rw [e, nodeAt_zero] at hx; cases hx
      · rw [hy] at hx; cases hx; rw [e]; exact List.mem_cons_self
    have hfirst : (orderM l r0)[0]? = none ∨ (orderM l r0)[0]? = some r0 := by
      rw [orderM, ordN]
      cases nodeAt l r0 with
      | none => exact .inl rfl
      | some x => exact .inr rfl
    have hzero : r0 = 0 → orderM l r0 = [] := fun e => by rw [e, orderM, ordN, nodeAt_zero]
    have htop : ∀ c, r0 ∈ ch l Nd.parent c → rootM l c = r0 := fun c hc => by
      rcases hr0 with e | ⟨y, hy, e⟩
      · have := ch_in hc; omega
      · exact top_root hw hy e hc
    generalize orderM l r0 = od at *
    refine fun_intro 130 Try.func6 rfl rfl rfl (fun ι F S w => ?_)
    (repeat (first | (apply v_cx; exact rfl; exact cbA rfl; (first | exact awake5 | exact hgr | exact hmade | exact hrt | exact hor); exact rfl; exact rfl) | (apply v_move; exact rfl; exact rfl) | (apply v_assign; exact rfl; exact rfl) | refine run_seq ?_ | refine run_region ?_ | refine runL_nil ?_ | refine run_skip ?_ | (apply run_cond; exact rfl; (focus (intro hb; cases hb; done)); intro hb; clear hb) | (apply v_not; exact rfl; exact rfl)))
    refine v_make (n := 200) intE 0 (slA rfl) (tyA rfl) rfl rfl rfl rfl ⟨Le.refl, trivial⟩ rfl (by decide) rfl rfl rfl rfl ?_
    (repeat (first | (apply v_assign; exact rfl; exact rfl) | refine run_seq ?_ | refine run_region ?_ | refine runL_nil ?_ | refine run_block ?_))
    refine v_loop (fun q : Nat × List Int => ⟨[(5, forA l), (6, .v (.int .i64 r0)), (7, .sem (listS intE od)), (8, .res 25), (9, .v (.int .i64 q.1))], [(25, .obj (ownS 3 intE q.2))]⟩) (fun q => q.1 ≤ od.length ∧ q.2.length = 200 ∧ ∀ (c : Nat) (v : Int), q.2[c]? = some v → (v ≠ 0 ↔ (c : Int) ∈ od.take q.1)) (fun q => od.length - q.1) (0, List.replicate 200 0) idN trivial (by repeat (first | exact trivial | refine ⟨rfl, ?_⟩)) (by repeat (first | exact trivial | refine ⟨rfl, ?_⟩)) rfl ⟨by simp, by simp, fun c v hv => by
      have := List.mem_of_getElem? hv
      rw [List.mem_replicate] at this
      simp [this.2]⟩ fun ⟨i, B⟩ ⟨hi, hB, hBv⟩ ih => ?_
    dsimp only at hi hB hBv ⊢
    (repeat (first | (apply v_move; exact rfl; exact rfl) | refine run_seq ?_ | refine run_region ?_ | refine runL_nil ?_ | (apply v_lss; exact rfl; exact rfl; exact rfl) | (apply v_lenL; exact slA rfl; exact rfl; exact rfl)))
    refine run_cond rfl (fun hb => ?_) (fun hb => ?_)
    · have hlt : i < od.length := by simpa using hb
      have hx : od[((i : Int)).toNat]? = some od[i] := by simp [hlt]
      have hmem := List.getElem_mem hlt
      obtain ⟨c1, c2⟩ := hoin _ hmem
      have hchn := (hom _).1 hmem
      have hrc := root_f hw od[i]
      rw [htop _ hchn] at hrc
      have hnt : od[i] ∉ od.take i := fun hin => by
        have h1 : (od.take i ++ od.drop i).Nodup := by rw [List.take_append_drop]; exact hond
        rw [List.nodup_append] at h1
        exact h1.2.2 _ hin _ (by rw [List.drop_eq_getElem_cons hlt]; exact List.mem_cons_self) rfl
      have htk : od.take (i + 1) = od.take i ++ [od[i]] := by rw [List.take_add_one, List.getElem?_eq_getElem hlt]; rfl
      obtain ⟨y, hy, hpar⟩ := hbeh.at (i := i) (List.getElem?_eq_getElem hlt)
      have hne0 : 0 < i → od[i] ≠ r0 := fun h0 e => by
        rcases hfirst with e1 | e1
        · rw [List.getElem?_eq_none_iff] at e1; omega
        · apply hnt
          rw [e]
          exact List.mem_of_getElem? (i := 0) (by rw [List.getElem?_take, if_pos h0]; exact e1)
      have hpi : 0 < i → y.parent ∈ od.take i := fun h0 => by
        rcases hpar with e | e
        · have hp0 : y.parent = 0 := by simpa using e
          have := root_top hw hy hp0
          rw [htop _ hchn] at this
          exact absurd this.symm (hne0 h0)
        · exact e
      generalize od[i] = c at *
      have hBc : B[c.toNat]? = some 0 := by
        obtain ⟨v, hv⟩ : ∃ v, B[c.toNat]? = some v := ⟨_, List.getElem?_eq_getElem (show c.toNat < B.length by omega)⟩
        have := hBv c.toNat v hv
        rw [show ((c.toNat : Nat) : Int) = c by omega] at this
        by_cases h0 : v = 0
        · rw [hv, h0]
        · exact absurd (this.1 h0) hnt
      have hBlt : c.toNat < B.length := by omega
      have hst : ∀ (d : Nat) (v : Int), (B.set c.toNat ((i : Int) + 1))[d]? = some v → (v ≠ 0 ↔ (d : Int) ∈ od.take (i + 1)) := fun d v hv => by
        rw [htk, List.mem_append, List.mem_singleton]
        rw [List.getElem?_set] at hv
        by_cases e : c.toNat = d
        · rw [if_pos e, if_pos hBlt] at hv
          cases hv
          exact ⟨fun _ => .inr (by omega), fun _ => by omega⟩
        · rw [if_neg e] at hv
          rw [hBv d v hv]
          exact ⟨fun h => .inl h, fun h => h.resolve_right (by omega)⟩
      (repeat (first | (apply v_idxL; exact slA rfl; exact tyA rfl; exact rfl; exact rfl; exact rfl; exact rfl; exact (by omega); (first | exact hx); exact rfl) | (apply v_move; exact rfl; exact rfl) | refine run_seq ?_ | refine run_region ?_ | refine run_skip ?_ | refine run_block ?_ | (apply v_loadA; exact tyA rfl; exact rfl; exact rfl; exact rfl; exact rfl; exact rfl; exact rfl) | (apply v_lss; exact rfl; exact rfl; exact rfl)))
      refine v_is 37 false rfl (by simp; omega) ?_
      (repeat (first | (apply v_idxL; exact slA rfl; exact tyA rfl; exact rfl; exact rfl; exact rfl; exact rfl; exact (by omega); (first | exact hx); exact rfl) | (apply v_move; exact rfl; exact rfl) | (apply v_loadA; exact tyA rfl; exact rfl; exact rfl; exact rfl; exact rfl; exact rfl; exact rfl) | (apply v_on; exact rfl) | (apply v_pick_f; exact rfl; exact rfl; exact rfl) | (apply v_geq; exact rfl; exact rfl; exact rfl)))
      refine v_is 44 false rfl (by simp; omega) ?_
      (repeat (first | (apply v_idxL; exact slA rfl; exact tyA rfl; exact rfl; exact rfl; exact rfl; exact rfl; exact (by omega); (first | exact hx); exact rfl) | (apply v_idxO; exact slA rfl; exact tyA rfl; exact rfl; exact rfl; exact rfl; exact rfl; exact (by omega); exact (by omega); exact rfl) | (apply v_move; exact rfl; exact rfl) | (apply v_loadA; exact tyA rfl; exact rfl; exact rfl; exact rfl; exact rfl; exact rfl; exact rfl) | (apply v_on; exact rfl)))
      refine v_loadO (f := 0) (j := c.toNat) (tyA rfl) rfl rfl rfl rfl hBc (by decide) rfl rfl ?_
      (repeat (first | (apply v_idxL; exact slA rfl; exact tyA rfl; exact rfl; exact rfl; exact rfl; exact rfl; exact (by omega); (first | exact hx); exact rfl) | (apply v_cx; exact rfl; exact cbA rfl; (first | exact hrc); exact rfl; exact rfl) | (apply v_move; exact rfl; exact rfl) | refine runL_nil ?_ | (apply v_loadA; exact tyA rfl; exact rfl; exact rfl; exact rfl; exact rfl; exact rfl; exact rfl) | (apply v_on; exact rfl) | (apply v_pick_f; exact rfl; exact rfl; exact rfl) | (apply v_neq; exact rfl; exact rfl; exact rfl)))
      refine run_condN rfl (by simp) ?_
      (repeat (first | (apply v_idxL; exact slA rfl; exact tyA rfl; exact rfl; exact rfl; exact rfl; exact rfl; exact (by omega); (first | exact hx); exact rfl) | (apply v_idxO; exact slA rfl; exact tyA rfl; exact rfl; exact rfl; exact rfl; exact rfl; exact (by omega); exact (by omega); exact rfl) | (apply v_move; exact rfl; exact rfl) | refine run_seq ?_ | refine run_region ?_ | refine run_skip ?_ | (apply v_loadA; exact tyA rfl; exact rfl; exact rfl; exact rfl; exact rfl; exact rfl; exact rfl) | (apply v_add; exact rfl; exact rfl; exact rfl; exact (by omega))))
      refine v_storeO (f := 0) (j := c.toNat) ((i : Int) + 1) (tyA rfl) rfl rfl rfl rfl hBc rfl rfl (by decide) rfl rfl ?_
      (repeat (first | (apply v_idxL; exact slA rfl; exact tyA rfl; exact rfl; exact rfl; exact rfl; exact rfl; exact (by omega); (first | exact hx); exact rfl) | (apply v_cx; exact rfl; exact cbA rfl; (first | exact node_s hw hy); exact rfl; exact rfl) | (apply v_move; exact rfl; exact rfl) | (apply v_assign; exact rfl; exact rfl) | refine run_seq ?_ | refine run_region ?_ | refine runL_nil ?_ | (apply v_extract; exact rfl; exact rfl; exact rfl) | (apply v_loadA; exact tyA rfl; exact rfl; exact rfl; exact rfl; exact rfl; exact rfl; exact rfl) | (apply v_on; exact rfl) | (apply v_not; exact rfl; exact rfl) | (apply v_gtr; exact rfl; exact rfl; exact rfl) | (apply v_allocD; exact tyA rfl; exact rfl; exact rfl; exact rfl; exact rfl) | (apply v_storeW; exact tyA rfl; exact rfl; exact rfl; exact rfl; exact rfl; exact rfl; exact rfl; exact rfl)))
      have hlen2 : (B.set c.toNat ((i : Int) + 1)).length = 200 := by rw [List.length_set]; exact hB
      by_cases h0 : i = 0
      · refine v_is 86 false rfl (by simp; omega) ?_
        (repeat (first | (apply v_move; exact rfl; exact rfl) | (apply v_assign; exact rfl; exact rfl) | refine run_region ?_ | refine runL_nil ?_ | refine run_skip ?_ | refine run_inBlock ?_ | (apply v_on; exact rfl) | (apply v_off; exact rfl; exact rfl) | (apply v_pick_f; exact rfl; exact rfl; exact rfl) | (apply run_cond; exact rfl; (focus (intro hb; cases hb; done)); intro hb; clear hb) | (apply v_add; exact rfl; exact rfl; exact rfl; exact (by omega))))
        exact v_again ih (i + 1, B.set c.toNat ((i : Int) + 1)) idN trivial (by repeat (first | exact trivial | refine ⟨rfl, ?_⟩)) (by repeat (first | exact trivial | refine ⟨rfl, ?_⟩)) rfl ⟨by dsimp only; omega, hlen2, hst⟩ (by dsimp only; omega)
      · have hp := hpi (by omega)
        obtain ⟨p1, p2⟩ := hoin _ (List.mem_of_mem_take hp)
        have hpc : y.parent ≠ c := fun e => hnt (e ▸ hp)
        obtain ⟨v, hv⟩ : ∃ v, (B.set c.toNat ((i : Int) + 1))[y.parent.toNat]? = some v := ⟨_, List.getElem?_eq_getElem (by omega)⟩
        have hv0 : v ≠ 0 := (hst _ _ hv).2 (by rw [htk, show ((y.parent.toNat : Nat) : Int) = y.parent by omega]; exact List.mem_append_left _ hp)
        refine v_is 86 true rfl (by simp; omega) ?_
        (repeat (first | (apply v_move; exact rfl; exact rfl) | (apply v_fldP; exact flA rfl; exact rfl; exact rfl; exact rfl) | (apply v_loadB; exact tyA rfl; exact rfl; exact rfl; exact rfl; exact rfl; exact rfl; exact rfl) | (apply v_on; exact rfl) | (apply v_lss; exact rfl; exact rfl; exact rfl)))
        refine v_is 90 false rfl (by simp; omega) ?_
        (repeat (first | (apply v_move; exact rfl; exact rfl) | (apply v_fldP; exact flA rfl; exact rfl; exact rfl; exact rfl) | (apply v_loadB; exact tyA rfl; exact rfl; exact rfl; exact rfl; exact rfl; exact rfl; exact rfl) | (apply v_on; exact rfl) | (apply v_pick_f; exact rfl; exact rfl; exact rfl) | (apply v_geq; exact rfl; exact rfl; exact rfl)))
        refine v_is 95 false rfl (by simp; omega) ?_
        (repeat (first | (apply v_idxO; exact slA rfl; exact tyA rfl; exact rfl; exact rfl; exact rfl; exact rfl; exact (by omega); exact (by omega); exact rfl) | (apply v_move; exact rfl; exact rfl) | (apply v_fldP; exact flA rfl; exact rfl; exact rfl; exact rfl) | (apply v_loadB; exact tyA rfl; exact rfl; exact rfl; exact rfl; exact rfl; exact rfl; exact rfl) | (apply v_on; exact rfl)))
        refine v_loadO (f := 0) (j := y.parent.toNat) (tyA rfl) rfl rfl rfl rfl hv (by decide) rfl rfl ?_
        (repeat (first | refine runL_nil ?_ | (apply v_on; exact rfl) | (apply v_pick_t; exact rfl; exact rfl; exact rfl) | (apply v_pick_f; exact rfl; exact rfl; exact rfl) | (apply v_eql; exact rfl; exact rfl; exact rfl)))
        refine run_condN rfl (by simpa using hv0) ?_
        (repeat (first | (apply v_move; exact rfl; exact rfl) | (apply v_assign; exact rfl; exact rfl) | refine run_region ?_ | refine runL_nil ?_ | refine run_skip ?_ | refine run_inBlock ?_ | (apply v_add; exact rfl; exact rfl; exact rfl; exact (by omega))))
        exact v_again ih (i + 1, B.set c.toNat ((i : Int) + 1)) idN trivial (by repeat (first | exact trivial | refine ⟨rfl, ?_⟩)) (by repeat (first | exact trivial | refine ⟨rfl, ?_⟩)) rfl ⟨by dsimp only; omega, hlen2, hst⟩ (by dsimp only; omega)
    · have hge : i = od.length := by have : ¬ i < od.length := (by simpa using hb); omega
      rw [hge, List.take_length] at hBv
      clear ih
      (repeat (first | (apply v_assign; exact rfl; exact rfl) | refine run_seq ?_ | refine run_region ?_ | refine runL_nil ?_ | refine run_block ?_ | (apply run_exit; exact rfl)))
      refine v_loop (fun k : Nat => ⟨[(5, forA l), (6, .v (.int .i64 r0)), (7, .sem (listS intE od)), (8, .res 25), (12, .v (.int .i64 k))], [(25, .obj (ownS 3 intE B))]⟩) (fun k => 1 ≤ k ∧ k ≤ 129) (fun k => 129 - k) 1 idN trivial (by repeat (first | exact trivial | refine ⟨rfl, ?_⟩)) (by repeat (first | exact trivial | refine ⟨rfl, ?_⟩)) rfl ⟨by omega, by omega⟩ fun k ⟨hk1, hk2⟩ ih => ?_
      (repeat (first | (apply v_move; exact rfl; exact rfl) | refine run_seq ?_ | refine run_region ?_ | refine runL_nil ?_ | (apply v_leq; exact rfl; exact rfl; exact rfl)))
      refine run_cond rfl (fun hb => ?_) (fun hb => ?_)
      · have hlt : k ≤ 128 := by have := (by simpa using hb : (k : Int) ≤ 128); omega
        obtain ⟨v, hv⟩ : ∃ v, B[((k : Int)).toNat]? = some v := ⟨_, List.getElem?_eq_getElem (by omega)⟩
        have hvk := hBv _ v hv
        rw [show ((((k : Int)).toNat : Nat) : Int) = (k : Int) by omega, hom] at hvk
        have hab := above_k hw r0 (k : Int)
        have hkl : ((k : Int)).toNat < B.length := by omega
        by_cases h0 : r0 = 0
        · (repeat (first | refine run_seq ?_ | refine run_skip ?_ | refine run_block ?_))
          refine run_draws (by kernel_rfl) (by kernel_rfl) ?_
          (repeat (first | (apply p_move; exact rfl; exact rfl; exact rfl) | (apply p_neq; exact rfl; exact rfl; exact rfl; exact rfl)))
          refine p_is 111 false rfl (by simpa using h0) ?_
          (repeat (first | (apply p_off; exact rfl; exact rfl) | (apply p_pick_f; exact rfl; exact rfl; exact rfl; exact rfl)))
          refine planL_nil (by kernel_rfl) ?_
          (repeat (first | (apply v_move; exact rfl; exact rfl) | (apply v_assign; exact rfl; exact rfl) | refine run_region ?_ | refine runL_nil ?_ | refine run_skip ?_ | refine run_inBlock ?_ | (apply run_cond; exact rfl; (focus (intro hb; cases hb; done)); intro hb; clear hb) | (apply v_add; exact rfl; exact rfl; exact rfl; exact (by omega))))
          exact v_again ih (k + 1) idN trivial (by repeat (first | exact trivial | refine ⟨rfl, ?_⟩)) (by repeat (first | exact trivial | refine ⟨rfl, ?_⟩)) rfl ⟨by omega, by omega⟩ (by omega)
        · (repeat (first | refine run_seq ?_ | refine run_skip ?_ | refine run_block ?_))
          refine run_draws (by kernel_rfl) (by kernel_rfl) ?_
          (repeat (first | (apply p_move; exact rfl; exact rfl; exact rfl) | (apply p_neq; exact rfl; exact rfl; exact rfl; exact rfl)))
          refine p_is 111 true rfl (by simpa using h0) ?_
          (repeat (first | (apply p_idxO; exact slA rfl; exact tyA rfl; exact rfl; exact rfl; exact rfl; exact rfl; exact (by omega); exact (by omega); exact rfl; exact rfl) | (apply p_move; exact rfl; exact rfl; exact rfl)))
          refine p_loadO (f := 0) (j := ((k : Int)).toNat) (tyA rfl) rfl rfl rfl rfl hv (by decide) rfl rfl rfl ?_
          (repeat (first | (apply p_cx; exact rfl; exact cbA rfl; (first | exact hab); exact rfl; exact rfl; exact rfl) | (apply p_move; exact rfl; exact rfl; exact rfl) | (apply p_pick_t; exact rfl; exact rfl; exact rfl; exact rfl) | (apply p_neq; exact rfl; exact rfl; exact rfl; exact rfl) | (apply p_neqB; exact boA rfl; exact rfl; exact rfl; exact rfl; exact rfl)))
          refine planL_nil (by kernel_rfl) ?_
          refine run_condN rfl (by
            by_cases hvz : v = 0
            · have : r0 ∉ ch l Nd.parent (k : Int) := fun e => hvk.2 e hvz
              simp [hvz, this]
            · have := hvk.1 hvz
              simp [hvz, this]) ?_
          (repeat (first | (apply v_move; exact rfl; exact rfl) | (apply v_assign; exact rfl; exact rfl) | refine run_region ?_ | refine runL_nil ?_ | refine run_skip ?_ | refine run_inBlock ?_ | (apply v_add; exact rfl; exact rfl; exact rfl; exact (by omega))))
          exact v_again ih (k + 1) idN trivial (by repeat (first | exact trivial | refine ⟨rfl, ?_⟩)) (by repeat (first | exact trivial | refine ⟨rfl, ?_⟩)) rfl ⟨by omega, by omega⟩ (by omega)
      · by_cases h0 : r0 = 0
        · have := hzero h0
          subst this
          (repeat (first | (apply v_move; exact rfl; exact rfl) | refine run_seq ?_ | refine run_region ?_ | (apply run_exit; exact rfl) | (apply v_neq; exact rfl; exact rfl; exact rfl)))
          refine v_is 125 false rfl (by simpa using h0) ?_
          (repeat (first | (apply v_move; exact rfl; exact rfl) | (apply v_assign; exact rfl; exact rfl) | refine runL_nil ?_ | (apply v_on; exact rfl) | (apply v_pick_f; exact rfl; exact rfl; exact rfl) | (apply v_eql; exact rfl; exact rfl; exact rfl) | (apply v_lenL; exact slA rfl; exact rfl; exact rfl)))
          exact run_ret idN _ Try.func6 ⟨_, _, rfl, rfl, rfl⟩ rfl trivial trivial rfl
        · (repeat (first | (apply v_move; exact rfl; exact rfl) | refine run_seq ?_ | refine run_region ?_ | (apply run_exit; exact rfl) | (apply v_neq; exact rfl; exact rfl; exact rfl)))
          refine v_is 125 true rfl (by simpa using h0) ?_
          (repeat (first | (apply v_assign; exact rfl; exact rfl) | refine runL_nil ?_ | (apply v_off; exact rfl; exact rfl) | (apply v_pick_t; exact rfl; exact rfl; exact rfl)))
          exact run_ret idN _ Try.func6 ⟨_, _, rfl, rfl, rfl⟩ rfl trivial trivial rfl
theorem kinOrder_walk (A : Option Addr) (c0 : Nat) (xs : List Ac) (id : Int) (W : World) (hv : AVRs ι0 (old W) W [.sem (listS acE xs)] [.slice A xs.length c0]) (hs : ∀ x ∈ xs, AcStr x) (hm : xs.length ≤ 9223372036854775807) (w : (Lit.int .i64 id).wf = true) : Calls Try.prog 6 #[.slice A xs.length c0, .int .i64 id] W fun e w' => e = .returned (.bool true) ∧ Below W.heap.size W w' :=
  acts_walk (vs := [.int .i64 id]) hv (kinOrder_f id hm hs)
end Go.Proofs.Ytjkidecaciomgaa
