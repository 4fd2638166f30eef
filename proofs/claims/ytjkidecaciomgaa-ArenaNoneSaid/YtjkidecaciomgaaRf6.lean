/- The reference's nodes: Put. -/
import Derived.Test.YtjkidecaciomgaaRf5
namespace Go.Proofs.Ytjkidecaciomgaa
set_option linter.unusedVariables false
set_option linter.unusedSimpArgs false
set_option maxRecDepth 100000
open Go.RowKit

theorem put_r {l : List Nd} (h : WF l) (p : Int) (ks : List Int) (hk : ks.length ≤ 1000000) : Fun Try.prog 121 [.sem (listS nodeE l), .v (.int .i64 p), .sem (listS intE ks)] [] (.tup [.sem (listS nodeE (putM l p ks).1), .v (.int .i64 (putM l p ks).2)]) [] := by
  have hcp := copy_w h
  have hlen := h.len
  generalize hT : putM l p ks = T
  cases hp : nodeAt l p with
  | none =>
    obtain rfl : T = (l, 1) := by rw [← hT]; simp [putM, hp]
    refine fun_intro 139 Try.func121 rfl rfl rfl (fun ι F S w => ?_)
    (repeat (first | (apply v_cx; exact rfl; exact cbA rfl; (first | exact there_n hp); exact rfl; exact rfl) | (apply v_move; exact rfl; exact rfl) | (apply v_assign; exact rfl; exact rfl) | refine run_seq ?_ | refine run_region ?_ | refine runL_nil ?_ | (apply run_cond; exact rfl; rotate_left; (focus (intro hb; cases hb; done)); intro hb; clear hb) | (apply v_not; exact rfl; exact rfl)))
    exact run_ret idN _ Try.func121 ⟨_, _, rfl, rfl, _, _, rfl, rfl, rfl⟩ rfl trivial trivial rfl
  | some px =>
    obtain ⟨p1, p2, p3⟩ := nodeAt_some hp
    have hr : T = if (List.range ks.length).all (argOk l ks) = false then (l, 1) else if ks.all (putOk l p) = false then (l, 3) else (setKids (parAll (parAll l px.kids 0) ks p) p ks, 0) := by
      rw [← hT]; simp only [putM, hp]
    clear hT
    have hov := over_r h p
    have hol := ch_len (desc_up h) p
    refine fun_intro 139 Try.func121 rfl rfl rfl (fun ι F S w => ?_)
    (repeat (first | (apply v_cx; exact rfl; exact cbA rfl; (first | exact there_s hp); exact rfl; exact rfl) | (apply v_move; exact rfl; exact rfl) | (apply v_assign; exact rfl; exact rfl) | refine run_seq ?_ | refine run_region ?_ | refine runL_nil ?_ | refine run_skip ?_ | refine run_block ?_ | (apply run_cond; exact rfl; (focus (intro hb; cases hb; done)); intro hb; clear hb) | (apply v_not; exact rfl; exact rfl)))
    refine v_loop (fun i : Nat => ⟨[(0, .sem (listS nodeE l)), (1, .v (.int .i64 p)), (2, .sem (listS intE ks)), (8, .v (.int .i64 i))], []⟩) (fun i => i ≤ ks.length ∧ ∀ j, j < i → argOk l ks j = true) (fun i => ks.length - i) 0 idN trivial (by repeat (first | exact trivial | refine ⟨rfl, ?_⟩)) (by repeat (first | exact trivial | refine ⟨rfl, ?_⟩)) rfl ⟨by omega, fun j hj => by omega⟩ fun i ⟨hi, hok⟩ ih => ?_
    (repeat (first | (apply v_move; exact rfl; exact rfl) | refine run_seq ?_ | refine run_region ?_ | refine runL_nil ?_ | (apply v_lss; exact rfl; exact rfl; exact rfl) | (apply v_lenL; exact slA rfl; exact rfl; exact rfl)))
    refine run_cond rfl (fun hb => ?_) (fun hb => ?_)
    · have hlt : i < ks.length := by simpa using hb
      have hx : ks[((i : Int)).toNat]? = some ks[i] := by simp [hlt]
      have hgd : ks.getD i 0 = ks[i] := by simp [hlt]
      have hbad : argOk l ks i = false → T = (l, 1) := fun e => hr.trans (if_pos (by
        rw [← Bool.not_eq_true, List.all_eq_true]
        intro hall
        have := hall i (List.mem_range.2 hlt)
        rw [e] at this
        cases this))
      have hha := has_r (xs := ks.take i) ks[i] (by rw [List.length_take]; omega)
      have hti : ((i : Int)).toNat = i := by omega
      cases hq : nodeAt l ks[i] with
      | none =>
        obtain rfl := hbad (by rw [argOk, hgd, hq]; rfl)
        (repeat (first | refine run_seq ?_ | refine run_skip ?_ | refine run_block ?_))
        refine run_draws (by kernel_rfl) (by kernel_rfl) ?_
        (repeat (first | (apply p_idxL; exact slA rfl; exact tyA rfl; exact rfl; exact rfl; exact rfl; exact rfl; exact (by omega); (first | exact hx); exact rfl; exact rfl) | (apply p_cx; exact rfl; exact cbA rfl; (first | exact there_n hq); exact rfl; exact rfl; exact rfl) | (apply p_off; exact rfl; exact rfl) | (apply p_move; exact rfl; exact rfl; exact rfl) | (apply p_loadA; exact tyA rfl; exact rfl; exact rfl; exact rfl; exact rfl; exact rfl; exact rfl; exact rfl) | (apply p_pick_t; exact rfl; exact rfl; exact rfl; exact rfl) | (apply p_not; exact rfl; exact rfl; exact rfl)))
        refine planL_nil (by kernel_rfl) ?_
        (repeat (first | (apply v_move; exact rfl; exact rfl) | (apply v_assign; exact rfl; exact rfl) | refine run_seq ?_ | refine run_region ?_ | refine runL_nil ?_ | (apply run_cond; exact rfl; rotate_left; (focus (intro hb; cases hb; done)); intro hb; clear hb)))
        exact run_ret idN _ Try.func121 ⟨_, _, rfl, rfl, _, _, rfl, rfl, rfl⟩ rfl trivial trivial rfl
      | some y =>
        have hoi : argOk l ks i = !decide (ks[i] ∈ ks.take i) := by rw [argOk, hgd, hq]; rfl
        generalize decide (ks[i] ∈ ks.take i) = bb at *
        (repeat (first | refine run_seq ?_ | refine run_skip ?_ | refine run_block ?_))
        refine run_draws (by kernel_rfl) (by kernel_rfl) ?_
        (repeat (first | (apply p_idxL; exact slA rfl; exact tyA rfl; exact rfl; exact rfl; exact rfl; exact rfl; exact (by omega); (first | exact hx); exact rfl; exact rfl) | (apply p_cx; exact rfl; exact cbA rfl; (first | exact there_s hq | exact hha); exact rfl; exact rfl; exact rfl) | (apply p_move; exact rfl; exact rfl; exact rfl) | (apply p_loadA; exact tyA rfl; exact rfl; exact rfl; exact rfl; exact rfl; exact rfl; exact rfl; exact rfl) | (apply p_pick_f; exact rfl; exact rfl; exact rfl; exact rfl) | (apply p_not; exact rfl; exact rfl; exact rfl) | (apply p_sliceH; exact slA rfl; exact tyA rfl; exact rfl; exact rfl; exact rfl; exact (by omega); exact (by omega); exact rfl; exact rfl)))
        refine planL_nil (by kernel_rfl) ?_
        refine run_cond rfl (fun hb => ?_) (fun hb => ?_)
        · have hb : bb = true := hb
          subst hb
          obtain rfl := hbad hoi
          (repeat (first | (apply v_move; exact rfl; exact rfl) | (apply v_assign; exact rfl; exact rfl) | refine run_seq ?_ | refine run_region ?_ | refine runL_nil ?_))
          exact run_ret idN _ Try.func121 ⟨_, _, rfl, rfl, _, _, rfl, rfl, rfl⟩ rfl trivial trivial rfl
        · have hb : bb = false := hb
          subst hb
          (repeat (first | (apply v_move; exact rfl; exact rfl) | (apply v_assign; exact rfl; exact rfl) | refine run_region ?_ | refine runL_nil ?_ | refine run_skip ?_ | refine run_inBlock ?_ | (apply v_add; exact rfl; exact rfl; exact rfl; exact (by omega))))
          exact v_again ih (i + 1) idN trivial (by repeat (first | exact trivial | refine ⟨rfl, ?_⟩)) (by repeat (first | exact trivial | refine ⟨rfl, ?_⟩)) rfl ⟨by omega, fun j hj => if e : j = i then (by subst e; exact hoi) else hok j (by omega)⟩ (by omega)
    · have hge : i = ks.length := by have : ¬ i < ks.length := (by simpa using hb); omega
      have hall : ∀ j, j < ks.length → argOk l ks j = true := fun j hj => hok j (by omega)
      have hall2 : (List.range ks.length).all (argOk l ks) = true := List.all_eq_true.2 fun j hj => hall j (List.mem_range.1 hj)
      rw [hall2, if_neg (by simp)] at hr
      clear hok ih
      have hsome : ∀ j (hj : j < ks.length), ∃ y, nodeAt l ks[j] = some y := fun j hj => by
        have := hall j hj
        rw [argOk, show ks.getD j 0 = ks[j] by simp [hj], Bool.and_eq_true] at this
        exact Option.isSome_iff_exists.1 this.1
      (repeat (first | (apply v_cx; exact rfl; exact cbA rfl; (first | exact hov); exact rfl; exact rfl) | (apply v_move; exact rfl; exact rfl) | (apply v_assign; exact rfl; exact rfl) | refine run_seq ?_ | refine run_region ?_ | refine runL_nil ?_ | refine run_block ?_ | (apply run_exit; exact rfl)))
      refine v_loop (fun i : Nat => ⟨[(0, .sem (listS nodeE l)), (1, .v (.int .i64 p)), (2, .sem (listS intE ks)), (9, .sem (listS intE (ch l upX p))), (10, .v (.int .i64 i))], []⟩) (fun i => i ≤ ks.length ∧ ∀ j (hj : j < ks.length), j < i → putOk l p ks[j] = true) (fun i => ks.length - i) 0 idN trivial (by repeat (first | exact trivial | refine ⟨rfl, ?_⟩)) (by repeat (first | exact trivial | refine ⟨rfl, ?_⟩)) rfl ⟨by omega, fun j _ hj => by omega⟩ fun i ⟨hi, hok⟩ ih => ?_
      (repeat (first | (apply v_move; exact rfl; exact rfl) | refine run_seq ?_ | refine run_region ?_ | refine runL_nil ?_ | (apply v_lss; exact rfl; exact rfl; exact rfl) | (apply v_lenL; exact slA rfl; exact rfl; exact rfl)))
      refine run_cond rfl (fun hb => ?_) (fun hb => ?_)
      · have hlt : i < ks.length := by simpa using hb
        have hx : ks[((i : Int)).toNat]? = some ks[i] := by simp [hlt]
        obtain ⟨y, hq⟩ := hsome i hlt
        obtain ⟨y1, y2, y3⟩ := nodeAt_some hq
        have hha := has_r (xs := ch l upX p) ks[i] (by omega)
        have hpo : putOk l p ks[i] = (!(rootedB y) && (!(decide (ks[i] ∈ ch l upX p)) && (y.parent == 0 || y.parent == p))) := by
          have : aboveB l ks[i] p = decide (ks[i] ∈ ch l upX p) := by rw [Bool.eq_iff_iff, aboveB_true, decide_eq_true_iff, mem_over h]
          simp only [putOk, hq, this]
        generalize decide (ks[i] ∈ ch l upX p) = bb at *
        rw [rootedB] at hpo
        (repeat' (first | (apply v_idxL; exact slA rfl; exact tyA rfl; exact rfl; exact rfl; exact rfl; exact rfl; exact (by omega); (first | exact hx | exact y3); exact rfl) | (apply v_cx; exact rfl; exact cbA rfl; (first | exact hha); exact rfl; exact rfl) | (apply v_move; exact rfl; exact rfl) | (apply v_assign; exact rfl; exact rfl) | refine run_seq ?_ | refine run_region ?_ | refine runL_nil ?_ | refine run_skip ?_ | refine run_block ?_ | refine run_inBlock ?_ | (apply v_fldA; exact flA rfl; exact rfl; exact rfl; exact rfl) | (apply v_loadA; exact tyA rfl; exact rfl; exact rfl; exact rfl; exact rfl; exact rfl; exact rfl) | (apply v_on; exact rfl) | (apply v_off; exact rfl; exact rfl) | (apply v_pick_t; exact rfl; exact rfl; exact rfl) | (apply v_pick_f; exact rfl; exact rfl; exact rfl) | (apply run_cond; exact rfl; rotate_left; (focus (intro hb; cases hb; done)); intro hb; clear hb) | (apply run_cond; exact rfl; (focus (intro hb; cases hb; done)); intro hb; clear hb) | (apply v_eql; exact rfl; exact rfl; exact rfl) | (apply v_neq; exact rfl; exact rfl; exact rfl) | (apply v_add; exact rfl; exact rfl; exact rfl; exact (by omega)) | (apply v_sub; exact rfl; exact rfl; exact rfl; exact (by omega)) | (apply v_gsplit; exact rfl; exact rfl; exact rfl; all_goals intro hb) | (apply run_cond; exact rfl; all_goals intro hb)))
        all_goals first
          | (refine via (p := putOk l p ks[i] = false) ?_ ?_; (focus (rw [hpo]; simp_all; done)); intro hbad; have hT2 : T = (l, 3) := (hr.trans (if_pos (all_false hlt hbad))); clear hr; subst hT2; exact run_ret idN _ Try.func121 ⟨_, _, rfl, rfl, _, _, rfl, rfl, rfl⟩ rfl trivial trivial rfl)
          | (refine via (p := putOk l p ks[i] = true) ?_ ?_; (focus (rw [hpo]; simp_all; done)); intro hgood; exact v_again ih (i + 1) idN trivial (by repeat (first | exact trivial | refine ⟨rfl, ?_⟩)) (by repeat (first | exact trivial | refine ⟨rfl, ?_⟩)) rfl ⟨by omega, fun j hj' hj => if e : j = i then (by subst e; exact hgood) else hok j hj' (by omega)⟩ (by omega))
      · have hge : i = ks.length := by have : ¬ i < ks.length := (by simpa using hb); omega
        have hall3 : ks.all (putOk l p) = true := List.all_eq_true.2 fun k hk => by
          obtain ⟨j, hj, rfl⟩ := List.getElem_of_mem hk
          exact hok j hj (by omega)
        rw [hall3, if_neg (by simp)] at hr
        subst hr
        rw [← put_ref h hp]
        clear hok ih hall2 hall3
        (repeat (first | (apply v_cOx; exact rfl; exact cbA rfl; (first | exact hcp); exact rfl; exact rfl; exact rfl; exact rfl; exact rfl) | (apply v_move; exact rfl; exact rfl) | (apply v_assign; exact rfl; exact rfl) | refine run_seq ?_ | refine run_region ?_ | refine runL_nil ?_ | refine run_block ?_ | (apply run_exit; exact rfl)))
        refine v_loop (fun i : Nat => ⟨[(1, .v (.int .i64 p)), (2, .sem (listS intE ks)), (13, .res 97), (14, .v (.int .i64 i))], [(97, .obj (ownS 33 nodeE ((l.map (zeroP p)).take i ++ l.drop i)))]⟩) (fun i => i ≤ l.length) (fun i => l.length - i) 0 idN trivial (by repeat (first | exact trivial | refine ⟨rfl, ?_⟩)) (by repeat (first | exact trivial | refine ⟨rfl, ?_⟩)) rfl (by omega) fun i hi ih => ?_
        have hml := mapTo_len (g := zeroP p) (l := l) (i := i)
        (repeat (first | (apply v_move; exact rfl; exact rfl) | refine run_seq ?_ | refine run_region ?_ | refine runL_nil ?_ | (apply v_lss; exact rfl; exact rfl; exact rfl) | (apply v_lenO; exact slA rfl; exact rfl; exact rfl; exact rfl)))
        refine run_cond rfl (fun hb => ?_) (fun hb => ?_)
        · have hlt : i < l.length := by have := (by simpa using hb : (i : Int) < ((l.map (zeroP p)).take i ++ l.drop i).length); omega
          have hx0 : l[i]? = some l[i] := List.getElem?_eq_getElem hlt
          have hx : ((l.map (zeroP p)).take i ++ l.drop i)[((i : Int)).toNat]? = some l[i] := by rw [show ((i : Int)).toNat = i by omega]; exact mapTo_get hx0
          have hnx := mapTo_next (g := zeroP p) hx0
          have hsm := mapTo_same (g := zeroP p) hx0
          generalize hM : (l.map (zeroP p)).take i ++ l.drop i = M at *
          have hz : zeroP p l[i] = if l[i].parent = p then { l[i] with parent := 0 } else l[i] := rfl
          generalize l[i] = y at *
          (repeat (first | (apply v_idxO; exact slA rfl; exact tyA rfl; exact rfl; exact rfl; exact rfl; exact rfl; exact (by omega); exact (by omega); exact rfl) | (apply v_loadO; exact tyA rfl; exact rfl; exact rfl; exact rfl; exact rfl; (first | exact hx); exact (by decide); exact rfl; exact rfl) | (apply v_move; exact rfl; exact rfl) | refine run_seq ?_ | refine run_region ?_ | refine runL_nil ?_ | refine run_skip ?_ | refine run_block ?_ | (apply v_fldP; exact flA rfl; exact rfl; exact rfl; exact rfl) | (apply v_eql; exact rfl; exact rfl; exact rfl)))
          refine run_cond rfl (fun hb => ?_) (fun hb => ?_)
          · have e : y.parent = p := by simpa using hb
            rw [if_pos e] at hz
            (repeat (first | (apply v_idxO; exact slA rfl; exact tyA rfl; exact rfl; exact rfl; exact rfl; exact rfl; exact (by omega); exact (by omega); exact rfl) | (apply v_move; exact rfl; exact rfl) | refine run_region ?_ | (apply v_fldP; exact flA rfl; exact rfl; exact rfl; exact rfl)))
            refine v_storeO { y with parent := 0 } (tyA rfl) rfl rfl rfl rfl hx rfl rfl (by decide) rfl rfl ?_
            (repeat (first | (apply v_move; exact rfl; exact rfl) | (apply v_assign; exact rfl; exact rfl) | refine run_region ?_ | refine runL_nil ?_ | refine run_inBlock ?_ | (apply v_add; exact rfl; exact rfl; exact rfl; exact (by omega))))
            exact v_again ih (i + 1) idN trivial (by repeat (first | exact trivial | refine ⟨rfl, ?_⟩)) ⟨by rw [← hnx, hz, show ((i : Int)).toNat = i by omega]; rfl, trivial⟩ rfl (by omega) (by omega)
          · have e : y.parent ≠ p := by simpa using hb
            rw [if_neg e] at hz
            (repeat (first | (apply v_move; exact rfl; exact rfl) | (apply v_assign; exact rfl; exact rfl) | refine run_region ?_ | refine runL_nil ?_ | refine run_skip ?_ | refine run_inBlock ?_ | (apply v_add; exact rfl; exact rfl; exact rfl; exact (by omega))))
            exact v_again ih (i + 1) idN trivial (by repeat (first | exact trivial | refine ⟨rfl, ?_⟩)) ⟨by rw [← hsm hz]; rfl, trivial⟩ rfl (by omega) (by omega)
        · have hge : i = l.length := by have : ¬ ((i : Int) < ((l.map (zeroP p)).take i ++ l.drop i).length) := (by simpa using hb); omega
          rw [hge, mapTo_end]
          clear ih
          obtain ⟨l1, hl1e⟩ : ∃ l1, l1 = l.map (zeroP p) := ⟨_, rfl⟩
          have hl1 : l1.length = l.length := by rw [hl1e, List.length_map]
          rw [← hl1e]
          (repeat (first | (apply v_assign; exact rfl; exact rfl) | refine run_seq ?_ | refine run_region ?_ | refine runL_nil ?_ | refine run_block ?_ | (apply run_exit; exact rfl)))
          refine v_loop (fun i : Nat => ⟨[(1, .v (.int .i64 p)), (2, .sem (listS intE ks)), (13, .res 97), (15, .v (.int .i64 i))], [(97, .obj (ownS 33 nodeE (parAll l1 (ks.take i) p)))]⟩) (fun i => i ≤ ks.length) (fun i => ks.length - i) 0 idN trivial (by repeat (first | exact trivial | refine ⟨rfl, ?_⟩)) (by repeat (first | exact trivial | refine ⟨rfl, ?_⟩)) rfl (by omega) fun i hi ih => ?_
          (repeat (first | (apply v_move; exact rfl; exact rfl) | refine run_seq ?_ | refine run_region ?_ | refine runL_nil ?_ | (apply v_lss; exact rfl; exact rfl; exact rfl) | (apply v_lenL; exact slA rfl; exact rfl; exact rfl)))
          refine run_cond rfl (fun hb => ?_) (fun hb => ?_)
          · have hlt : i < ks.length := by simpa using hb
            have hx : ks[((i : Int)).toNat]? = some ks[i] := by simp [hlt]
            have hLl := len_parAll (ks.take i) p l1
            obtain ⟨y, hq⟩ := Option.isSome_iff_exists.1 ((nodeAt_len hLl ks[i]).trans (by obtain ⟨y, hy⟩ := hsome i hlt; rw [nodeAt_len hl1, hy]; rfl))
            obtain ⟨y1, y2, y3⟩ := nodeAt_some hq
            have hstep : parAll l1 (ks.take (i + 1)) p = (parAll l1 (ks.take i) p).set (ks[i] - 1).toNat { y with parent := p } := by
              rw [parAll_take (k := ks[i]) (by simp [hlt]), setPar, hq]
              rfl
            (repeat (first | (apply v_idxL; exact slA rfl; exact tyA rfl; exact rfl; exact rfl; exact rfl; exact rfl; exact (by omega); (first | exact hx); exact rfl) | (apply v_idxO; exact slA rfl; exact tyA rfl; exact rfl; exact rfl; exact rfl; exact rfl; exact (by omega); exact (by omega); exact rfl) | (apply v_move; exact rfl; exact rfl) | refine run_seq ?_ | refine run_region ?_ | refine run_skip ?_ | refine run_block ?_ | (apply v_fldP; exact flA rfl; exact rfl; exact rfl; exact rfl) | (apply v_loadA; exact tyA rfl; exact rfl; exact rfl; exact rfl; exact rfl; exact rfl; exact rfl) | (apply v_sub; exact rfl; exact rfl; exact rfl; exact (by omega))))
            refine v_storeO { y with parent := p } (tyA rfl) rfl rfl rfl rfl y3 rfl rfl (by decide) rfl rfl ?_
            (repeat (first | (apply v_move; exact rfl; exact rfl) | (apply v_assign; exact rfl; exact rfl) | refine run_region ?_ | refine runL_nil ?_ | refine run_inBlock ?_ | (apply v_add; exact rfl; exact rfl; exact rfl; exact (by omega))))
            exact v_again ih (i + 1) idN trivial (by repeat (first | exact trivial | refine ⟨rfl, ?_⟩)) ⟨by rw [hstep]; rfl, trivial⟩ rfl (by omega) (by omega)
          · have hge : i = ks.length := by have : ¬ i < ks.length := (by simpa using hb); omega
            rw [hge, List.take_length]
            clear ih
            obtain ⟨l2, hl2e⟩ : ∃ l2, l2 = parAll l1 ks p := ⟨_, rfl⟩
            have hl2 : l2.length = l.length := by rw [hl2e, len_parAll, hl1]
            rw [← hl2e]
            obtain ⟨q2, hp2⟩ := Option.isSome_iff_exists.1 ((nodeAt_len hl2 p).trans (by rw [hp]; rfl))
            have hj2 := (nodeAt_some hp2).2.2
            have hres : setKids l2 p ks = l2.set (p - 1).toNat { q2 with kids := ks } := by rw [setKids, hp2]; rfl
            rw [hres]
            (repeat (first | (apply v_move; exact rfl; exact rfl) | refine run_seq ?_ | refine run_region ?_ | (apply run_exit; exact rfl) | (apply v_sub; exact rfl; exact rfl; exact rfl; exact (by omega))))
            refine v_lO intE [] (slA rfl) (tyA rfl) rfl rfl rfl rfl rfl rfl rfl rfl rfl rfl rfl rfl rfl rfl ?_
            (repeat (first | (apply v_move; exact rfl; exact rfl)))
            refine v_appendD (slA rfl) (tyA rfl) rfl rfl rfl rfl rfl rfl rfl (by simp; omega) rfl rfl rfl rfl ?_
            refine runL_freeze 135 135 rfl rfl ?_
            (repeat (first | (apply v_idxO; exact slA rfl; exact tyA rfl; exact rfl; exact rfl; exact rfl; exact rfl; exact (by omega); exact (by omega); exact rfl) | (apply v_fldP; exact flA rfl; exact rfl; exact rfl; exact rfl)))
            refine v_storeO { q2 with kids := ks } (tyA rfl) rfl rfl rfl rfl hj2 rfl rfl (by decide) rfl rfl ?_
            (repeat (first | (apply v_move; exact rfl; exact rfl) | (apply v_assign; exact rfl; exact rfl) | refine run_seq ?_ | refine run_region ?_ | refine runL_nil ?_))
            refine run_freeze 6 97 rfl rfl ?_
            exact run_ret idN _ Try.func121 ⟨_, _, rfl, rfl, _, _, rfl, rfl, rfl⟩ rfl trivial trivial rfl
end Go.Proofs.Ytjkidecaciomgaa
