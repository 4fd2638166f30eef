/- Law 07: EditApart. -/
import Derived.Test.YtjkidecaciomgaaLa07
import Derived.Test.YtjkidecaciomgaaEdQ
import Derived.Test.YtjkidecaciomgaaBE
import Derived.Test.YtjkidecaciomgaaRf8
namespace Go.Proofs.Ytjkidecaciomgaa
set_option linter.unusedVariables false
set_option linter.unusedSimpArgs false
set_option maxRecDepth 100000
open Go.RowKit

/-- A node without what may change. -/
def modN (put par : Bool) (z : Nd) : Nd := { z with parent := if put = true then 0 else z.parent, kids := if par = true then [] else z.kids }
section
variable {l : List Nd} (h : WF l) {a b c : Int} {n p : Nd} {ks ks' : List Int} (d : Done l a b c n p ks ks')
include h d
theorem Done.mem (x : Int) : x ∈ ks' ↔ x ∈ ks ∨ x ∈ mvM l a := by
  have _ := h.len
  have e : x ∈ ks ↔ x ∈ ks.take (atM l a b c) ∨ x ∈ ks.drop (atM l a b c) := by rw [← List.mem_append, List.take_append_drop]
  rw [d.ek', List.mem_append, List.mem_append, e]
  constructor
  · rintro ((e | e) | e)
    · exact .inl (.inl e)
    · exact .inr e
    · exact .inl (.inr e)
  · rintro ((e | e) | e)
    · exact .inl (.inl e)
    · exact .inr e
    · exact .inl (.inr e)
theorem Done.par_same {x : Int} {z : Nd} (hx : nodeAt l x = some z) (h1 : x ≠ a) (h2 : z.parent ≠ a) : (putN b ks' x (if n.kind = 4 then clearN a x z else leaveN a x z)).parent = z.parent := by
  have e1 : (if n.kind = 4 then clearN a x z else leaveN a x z).parent = z.parent := by
    split
    · exact if_neg h2
    · exact if_neg h1
  have e2 : x ∈ ks' ↔ z.parent = b := by
    rw [d.mem h, ← kid_of h d.hb hx]
    constructor
    · rintro (e | e)
      · exact d.sub h x e
      · exfalso
        rw [d.mv h] at e
        split at e
        · exact h2 ((kid_of h d.ha hx).1 e)
        · exact h1 (List.mem_singleton.1 e)
    · intro e
      left
      rw [d.ek]
      split
      · exact e
      · exact (h.nod d.hb).mem_erase_iff.2 ⟨h1, e⟩
  show (if x ∈ ks' then b else if (if n.kind = 4 then clearN a x z else leaveN a x z).parent = b then 0 else (if n.kind = 4 then clearN a x z else leaveN a x z).parent) = z.parent
  rw [e1]
  by_cases e3 : z.parent = b
  · rw [if_pos (e2.2 e3), e3]
  · rw [if_neg fun e => e3 (e2.1 e), if_neg e3]
theorem Done.kids_same {x : Int} {z : Nd} (hx : nodeAt l x = some z) (h1 : x ≠ a) (h2 : x ≠ b) (h3 : n.parent ≠ x) : (putN b ks' x (if n.kind = 4 then clearN a x z else leaveN a x z)).kids = z.kids := by
  show (if x = b then ks' else (if n.kind = 4 then clearN a x z else leaveN a x z).kids) = z.kids
  rw [if_neg h2]
  split
  · exact if_neg h1
  · exact List.erase_of_not_mem fun e => h3 ((kid_of h hx d.ha).1 e)
theorem Done.rest {x : Int} (z : Nd) (u v : Bool) (hu : u = false → (putN b ks' x (if n.kind = 4 then clearN a x z else leaveN a x z)).parent = z.parent) (hv : v = false → (putN b ks' x (if n.kind = 4 then clearN a x z else leaveN a x z)).kids = z.kids) : modN u v z = modN u v (putN b ks' x (if n.kind = 4 then clearN a x z else leaveN a x z)) := by
  have _ := h.len
  have _ := d.ha
  have key : ∀ y : Nd, y.kind = z.kind → y.host = z.host → y.shadow = z.shadow → y.mode = z.mode → y.slot = z.slot → y.name = z.name → y.want = z.want → (u = false → y.parent = z.parent) → (v = false → y.kids = z.kids) → modN u v z = modN u v y := by
    intro y e1 e2 e3 e4 e5 e6 e7 e8 e9
    unfold modN
    rw [e1, e2, e3, e4, e5, e6, e7]
    cases u with
    | true => cases v with
      | true => rfl
      | false => rw [e9 rfl]; rfl
    | false => cases v with
      | true => rw [e8 rfl]; rfl
      | false => rw [e8 rfl, e9 rfl]
  refine key _ ?_ ?_ ?_ ?_ ?_ ?_ ?_ hu hv <;> (by_cases e : n.kind = 4 <;> simp [e, putN, clearN, leaveN])
end
/-- What Before leaves as it is. -/
theorem apart {l : List Nd} (h : WF l) (a b c : Int) {x : Int} {z : Nd} (hx : nodeAt l x = some z) : ∃ y, nodeAt (beforeM l a b c).1 x = some y ∧ ∀ put par : Bool, put = (decide (x = a) || (decide (z.parent = a) && decide (a ∈ ch l Nd.parent x))) → par = (decide (x = b) || ((nodeAt l a).isSome && decide ((nodeR l a).parent = x))) → modN put (par || decide (x = a)) z = modN put (par || decide (x = a)) y := by
  by_cases hc : checkM l a b c = 0
  · obtain ⟨n, p, ks, ks', d⟩ := before_get h (before_ok h hc)
    refine ⟨_, (by rw [d.node h x, hx, Option.map_some]), fun put par hput hpar => ?_⟩
    refine d.rest h z _ _ (fun hu => ?_) fun hv => ?_
    · rw [hu] at hput
      have h1 : x ≠ a := fun e => by simp [e] at hput
      refine d.par_same h hx h1 fun e => ?_
      have h2 : a ∈ ch l Nd.parent x := by
        rw [par_step h hx, e]
        exact List.mem_cons_of_mem _ (par_self h d.ha)
      simp [e, h2] at hput
    · have h1 : x ≠ a := fun e => by simp [e] at hv
      have hpf : par = false := by
        cases par with
        | false => rfl
        | true => simp at hv
      rw [hpf, d.ha, nodeR_some d.ha] at hpar
      refine d.kids_same h hx h1 (fun e => ?_) fun e => ?_
      · simp [e] at hpar
      · simp [e] at hpar
  · refine ⟨z, by rw [beforeM, if_pos hc]; exact hx, fun _ _ _ _ => rfl⟩
theorem editApart_f {xs : List Ac} (a b c : Int) (hm : xs.length ≤ 9223372036854775807) (hs : ∀ x ∈ xs, AcStr x) : Fun Try.prog 24 [.sem (listS acE xs), .v (.int .i64 a), .v (.int .i64 b), .v (.int .i64 c)] [] (.v (.bool true)) [] := by
  have hgr := great07 hm
  cases hg : greatM xs with
  | true =>
    rw [hg] at hgr
    refine fun_intro 110 Try.func24 rfl rfl rfl (fun ι F S w => ?_)
    (repeat (first | (apply v_cx; exact rfl; exact cbA rfl; (first | exact awake07 | exact hgr); exact rfl; exact rfl) | (apply v_move; exact rfl; exact rfl) | (apply v_assign; exact rfl; exact rfl) | refine run_seq ?_ | refine run_region ?_ | refine runL_nil ?_ | refine run_skip ?_ | (apply run_cond; exact rfl; rotate_left; (focus (intro hb; cases hb; done)); intro hb; clear hb) | (apply run_cond; exact rfl; (focus (intro hb; cases hb; done)); intro hb; clear hb) | (apply v_not; exact rfl; exact rfl)))
    exact run_ret idN _ Try.func24 ⟨_, _, rfl, rfl, rfl⟩ rfl trivial trivial rfl
  | false =>
    rw [hg] at hgr
    obtain ⟨hl, hx⟩ := acts_ok hg fun x hx => ⟨(hs x hx).s, (hs x hx).name, (hs x hx).want⟩
    have hw := wf_nodes hx
    have hmade := madeL07 hl hx
    have hnodes := nodes_r hl hx
    generalize nodesM xs = l at hw hmade hnodes
    have hbf := before_f hw a b c
    have hw2 := before_wf hw a b c
    have hlen := before_len hw a b c
    have hall := all_m hw
    have hall2 := all_m hw2
    have hsame := same_r (l := l) (m := l) (by have := hw.len; omega) (kids_all hw)
    rw [decide_eq_true rfl] at hsame
    have hap := fun (x : Int) (z : Nd) => apart hw a b c (x := x) (z := z)
    have hl128 := hw.len
    generalize (beforeM l a b c).2 = e2 at *
    generalize (beforeM l a b c).1 = l2 at *
    refine fun_intro 110 Try.func24 rfl rfl rfl (fun ι F S w => ?_)
    (repeat (first | (apply v_cx; exact rfl; exact cbA rfl; (first | exact awake07 | exact hgr); exact rfl; exact rfl) | (apply v_move; exact rfl; exact rfl) | (apply v_assign; exact rfl; exact rfl) | refine run_seq ?_ | refine run_region ?_ | refine runL_nil ?_ | refine run_skip ?_ | (apply run_cond; exact rfl; (focus (intro hb; cases hb; done)); intro hb; clear hb) | (apply v_not; exact rfl; exact rfl)))
    refine v_cR (mp [(0, 100), (1, 101)]) hmade rfl (cbA rfl) trivial (by kernel_rfl) (by kernel_rfl) (by kernel_rfl) (by kernel_rfl) (by kernel_rfl) (by kernel_rfl) (by kernel_rfl) (by kernel_rfl) rfl ?_
    (repeat (first | (apply v_move; exact rfl; exact rfl) | (apply v_assign; exact rfl; exact rfl) | refine run_seq ?_ | refine run_region ?_ | refine runL_nil ?_))
    refine v_cR (mp [(0, 100), (1, 101)]) hall rfl (cbA rfl) ⟨rfl, rfl, trivial⟩ (by kernel_rfl) (by kernel_rfl) (by kernel_rfl) (by kernel_rfl) (by kernel_rfl) (by kernel_rfl) (by kernel_rfl) (by kernel_rfl) rfl ?_
    (repeat (first | (apply v_cx; exact rfl; exact cbA rfl; (first | exact hnodes | exact hsame); exact rfl; exact rfl) | (apply v_move; exact rfl; exact rfl) | (apply v_assign; exact rfl; exact rfl) | refine run_seq ?_ | refine run_region ?_ | refine runL_nil ?_ | refine run_skip ?_ | (apply run_cond; exact rfl; (focus (intro hb; cases hb; done)); intro hb; clear hb) | (apply v_not; exact rfl; exact rfl)))
    refine v_cR (mp [(0, 100), (1, 101), (2, 102)]) hbf rfl (cbA rfl) ⟨rfl, rfl, trivial⟩ (by kernel_rfl) (by kernel_rfl) (by kernel_rfl) (by kernel_rfl) (by kernel_rfl) (by kernel_rfl) (by kernel_rfl) (by kernel_rfl) rfl ?_
    (repeat (first | (apply v_move; exact rfl; exact rfl) | refine run_seq ?_ | refine run_region ?_ | refine runL_nil ?_))
    refine v_cR (mp [(0, 100), (1, 102)]) hall2 rfl (cbA rfl) ⟨rfl, rfl, trivial⟩ (by kernel_rfl) (by kernel_rfl) (by kernel_rfl) (by kernel_rfl) (by kernel_rfl) (by kernel_rfl) (by kernel_rfl) (by kernel_rfl) rfl ?_
    (repeat (first | (apply v_move; exact rfl; exact rfl) | (apply v_assign; exact rfl; exact rfl) | refine run_seq ?_ | refine run_region ?_ | refine runL_nil ?_ | (apply v_neq; exact rfl; exact rfl; exact rfl) | (apply v_lenL; exact slA rfl; exact rfl; exact rfl)))
    refine run_condN rfl (by rw [hlen]; exact bne_self_eq_false _) ?_
    (repeat (first | (apply v_assign; exact rfl; exact rfl) | refine run_seq ?_ | refine run_region ?_ | refine runL_nil ?_ | refine run_skip ?_ | refine run_block ?_))
    refine v_loop (fun i : Nat => ⟨[(1, .v (.int .i64 a)), (2, .v (.int .i64 b)), (10, .sem (listS nodeE l)), (11, .sem (listS nodeE l2)), (12, .v (.int .i64 i))], []⟩) (fun i => i ≤ l.length) (fun i => l.length - i) 0 idN trivial (by repeat (first | exact trivial | refine ⟨rfl, ?_⟩)) (by repeat (first | exact trivial | refine ⟨rfl, ?_⟩)) rfl (by omega) fun i hi ih => ?_
    (repeat (first | (apply v_move; exact rfl; exact rfl) | refine run_seq ?_ | refine run_region ?_ | refine runL_nil ?_ | (apply v_lss; exact rfl; exact rfl; exact rfl) | (apply v_lenL; exact slA rfl; exact rfl; exact rfl)))
    refine run_cond rfl (fun hb => ?_) (fun hb => ?_)
    · have hlt : i < l.length := by simpa using hb
      have hxz : nodeAt l ((i : Int) + 1) = some l[i] := by
        rw [nodeAt, if_pos (by omega), show ((i : Int) + 1 - 1).toNat = i by omega, List.getElem?_eq_getElem hlt]
      obtain ⟨y, hy, hmod⟩ := hap _ _ hxz
      have hx2 : l[((i : Int)).toNat]? = some l[i] := by simp [hlt]
      have hy2 : l2[((i : Int)).toNat]? = some y := by
        have := (nodeAt_some hy).2.2
        rwa [show ((i : Int) + 1 - 1).toNat = ((i : Int)).toNat by omega] at this
      have hkz : l[i].kids.length ≤ 1000000 := (kids_ok hw _ _ hxz).1
      have hab := above5 hw a ((i : Int) + 1)
      clear hap hxz hy
      generalize l[i] = z at *
      obtain ⟨put, hput⟩ : ∃ u, u = (decide ((i : Int) + 1 = a) || (decide (z.parent = a) && decide (a ∈ ch l Nd.parent ((i : Int) + 1)))) := ⟨_, rfl⟩
      obtain ⟨par, hpar⟩ : ∃ u, u = (decide ((i : Int) + 1 = b) || ((nodeAt l a).isSome && decide ((nodeR l a).parent = (i : Int) + 1))) := ⟨_, rfl⟩
      obtain ⟨par2, hpar2⟩ : ∃ u, u = (par || decide ((i : Int) + 1 = a)) := ⟨_, rfl⟩
      have heq := hmod put par hput hpar
      rw [← hpar2] at heq
      clear hmod
      have hone := one_r (x := modN put par2 z) (y := modN put par2 y) (by show (if par2 = true then [] else z.kids).length ≤ 1000000; split; exact Nat.zero_le _; exact hkz)
      rw [decide_eq_true heq] at hone
      (repeat (first | (apply v_move; exact rfl; exact rfl) | (apply v_assign; exact rfl; exact rfl) | refine run_seq ?_ | refine run_region ?_ | refine runL_nil ?_ | refine run_skip ?_ | refine run_block ?_ | (apply v_eql; exact rfl; exact rfl; exact rfl) | (apply v_add; exact rfl; exact rfl; exact rfl; exact (by omega))))
      apply via3 (p := RunL _ _ _ ⟨[(1, .v (.int .i64 a)), (2, .v (.int .i64 b)), (10, .sem (listS nodeE l)), (11, .sem (listS nodeE l2)), (12, .v (.int .i64 i)), (13, .v (.int .i64 ((i : Int) + 1))), (14, .v (.bool put)), (72, .v (.bool ((i : Int) + 1 == b)))], []⟩ _)
      rotate_left
      · intro key
        by_cases h1 : (i : Int) + 1 = a
        · have e : put = true := by rw [hput]; simp [h1]
          refine v_is 54 true rfl (by simp [h1]) ?_
          (repeat (first | (apply v_move; exact rfl; exact rfl) | (apply v_assign; exact rfl; exact rfl) | refine run_seq ?_ | refine run_region ?_ | refine runL_nil ?_ | (apply v_off; exact rfl; exact rfl) | (apply v_pick_t; exact rfl; exact rfl; exact rfl) | (apply v_eql; exact rfl; exact rfl; exact rfl)))
          refine runL_weak idN (σ2 := ⟨[(1, .v (.int .i64 a)), (2, .v (.int .i64 b)), (10, .sem (listS nodeE l)), (11, .sem (listS nodeE l2)), (12, .v (.int .i64 i)), (13, .v (.int .i64 ((i : Int) + 1))), (14, .v (.bool put)), (72, .v (.bool ((i : Int) + 1 == b)))], []⟩) ?_ ?_ ?_ ?_ key.out <;> first | exact trivial | exact ⟨rfl, rfl, rfl, rfl, rfl, rfl, rfl, rfl, trivial⟩ | exact trivial | (rw [e]; exact ⟨rfl, rfl, rfl, rfl, rfl, rfl, rfl, rfl, trivial⟩) | (rw [e]; exact trivial) | rfl
        · by_cases h2 : z.parent = a
          · have e : put = decide (a ∈ ch l Nd.parent ((i : Int) + 1)) := by rw [hput]; simp [h1, h2]
            rw [← e] at hab
            refine v_is 54 false rfl (by simp [h1]) ?_
            (repeat (first | (apply v_idxL; exact slA rfl; exact tyA rfl; exact rfl; exact rfl; exact rfl; exact rfl; exact (by omega); (first | exact hx2); exact rfl) | (apply v_move; exact rfl; exact rfl) | (apply v_fldA; exact flA rfl; exact rfl; exact rfl; exact rfl) | (apply v_loadA; exact tyA rfl; exact rfl; exact rfl; exact rfl; exact rfl; exact rfl; exact rfl) | (apply v_on; exact rfl) | (apply v_eql; exact rfl; exact rfl; exact rfl)))
            refine v_is 62 true rfl (by simp [h2]) ?_
            (repeat (first | (apply v_cx; exact rfl; exact cbA rfl; (first | exact hab); exact rfl; exact rfl) | (apply v_move; exact rfl; exact rfl) | (apply v_assign; exact rfl; exact rfl) | refine run_seq ?_ | refine run_region ?_ | refine runL_nil ?_ | (apply v_on; exact rfl) | (apply v_pick_t; exact rfl; exact rfl; exact rfl) | (apply v_pick_f; exact rfl; exact rfl; exact rfl) | (apply v_eql; exact rfl; exact rfl; exact rfl)))
            refine runL_weak idN (σ2 := ⟨[(1, .v (.int .i64 a)), (2, .v (.int .i64 b)), (10, .sem (listS nodeE l)), (11, .sem (listS nodeE l2)), (12, .v (.int .i64 i)), (13, .v (.int .i64 ((i : Int) + 1))), (14, .v (.bool put)), (72, .v (.bool ((i : Int) + 1 == b)))], []⟩) ?_ ?_ ?_ ?_ key.out <;> first | exact trivial | exact ⟨rfl, rfl, rfl, rfl, rfl, rfl, rfl, rfl, trivial⟩ | exact trivial | rfl
          · have e : put = false := by rw [hput]; simp [h1, h2]
            refine v_is 54 false rfl (by simp [h1]) ?_
            (repeat (first | (apply v_idxL; exact slA rfl; exact tyA rfl; exact rfl; exact rfl; exact rfl; exact rfl; exact (by omega); (first | exact hx2); exact rfl) | (apply v_move; exact rfl; exact rfl) | (apply v_fldA; exact flA rfl; exact rfl; exact rfl; exact rfl) | (apply v_loadA; exact tyA rfl; exact rfl; exact rfl; exact rfl; exact rfl; exact rfl; exact rfl) | (apply v_on; exact rfl) | (apply v_eql; exact rfl; exact rfl; exact rfl)))
            refine v_is 62 false rfl (by simp [h2]) ?_
            (repeat (first | (apply v_move; exact rfl; exact rfl) | (apply v_assign; exact rfl; exact rfl) | refine run_seq ?_ | refine run_region ?_ | refine runL_nil ?_ | (apply v_on; exact rfl) | (apply v_off; exact rfl; exact rfl) | (apply v_pick_f; exact rfl; exact rfl; exact rfl) | (apply v_eql; exact rfl; exact rfl; exact rfl)))
            refine runL_weak idN (σ2 := ⟨[(1, .v (.int .i64 a)), (2, .v (.int .i64 b)), (10, .sem (listS nodeE l)), (11, .sem (listS nodeE l2)), (12, .v (.int .i64 i)), (13, .v (.int .i64 ((i : Int) + 1))), (14, .v (.bool put)), (72, .v (.bool ((i : Int) + 1 == b)))], []⟩) ?_ ?_ ?_ ?_ key.out <;> first | exact trivial | exact ⟨rfl, rfl, rfl, rfl, rfl, rfl, rfl, rfl, trivial⟩ | exact trivial | (rw [e]; exact ⟨rfl, rfl, rfl, rfl, rfl, rfl, rfl, rfl, trivial⟩) | (rw [e]; exact trivial) | rfl
      · clear hput hab
        apply via3 (p := Run _ _ ⟨[(1, .v (.int .i64 a)), (2, .v (.int .i64 b)), (10, .sem (listS nodeE l)), (11, .sem (listS nodeE l2)), (12, .v (.int .i64 i)), (13, .v (.int .i64 ((i : Int) + 1))), (14, .v (.bool put)), (15, .v (.bool par))], []⟩)
        rotate_left
        · intro key
          by_cases h3 : (i : Int) + 1 = b
          · have e : par = true := by rw [hpar]; simp [h3]
            refine v_is 72 true rfl (by simp [h3]) ?_
            (repeat (first | (apply v_assign; exact rfl; exact rfl) | refine run_seq ?_ | refine runL_nil ?_ | (apply v_off; exact rfl; exact rfl) | (apply v_pick_t; exact rfl; exact rfl; exact rfl)))
            refine run_weak idN (σ2 := ⟨[(1, .v (.int .i64 a)), (2, .v (.int .i64 b)), (10, .sem (listS nodeE l)), (11, .sem (listS nodeE l2)), (12, .v (.int .i64 i)), (13, .v (.int .i64 ((i : Int) + 1))), (14, .v (.bool put)), (15, .v (.bool par))], []⟩) ?_ ?_ ?_ ?_ key.out <;> first | exact trivial | exact ⟨rfl, rfl, rfl, rfl, rfl, rfl, rfl, rfl, trivial⟩ | exact trivial | (rw [e]; exact ⟨rfl, rfl, rfl, rfl, rfl, rfl, rfl, rfl, trivial⟩) | (rw [e]; exact trivial) | rfl
          · cases ha : nodeAt l a with
            | none =>
              have e : par = false := by rw [hpar, ha]; simp [h3]
              refine v_is 72 false rfl (by simp [h3]) ?_
              (repeat (first | (apply v_cx; exact rfl; exact cbA rfl; (first | exact there_n ha); exact rfl; exact rfl) | (apply v_move; exact rfl; exact rfl) | (apply v_assign; exact rfl; exact rfl) | refine run_seq ?_ | refine runL_nil ?_ | (apply v_on; exact rfl) | (apply v_off; exact rfl; exact rfl) | (apply v_pick_f; exact rfl; exact rfl; exact rfl)))
              refine run_weak idN (σ2 := ⟨[(1, .v (.int .i64 a)), (2, .v (.int .i64 b)), (10, .sem (listS nodeE l)), (11, .sem (listS nodeE l2)), (12, .v (.int .i64 i)), (13, .v (.int .i64 ((i : Int) + 1))), (14, .v (.bool put)), (15, .v (.bool par))], []⟩) ?_ ?_ ?_ ?_ key.out <;> first | exact trivial | exact ⟨rfl, rfl, rfl, rfl, rfl, rfl, rfl, rfl, trivial⟩ | exact trivial | (rw [e]; exact ⟨rfl, rfl, rfl, rfl, rfl, rfl, rfl, rfl, trivial⟩) | (rw [e]; exact trivial) | rfl
            | some n =>
              have e : par = (n.parent == (i : Int) + 1) := by
                rw [hpar, ha, nodeR_some ha]
                by_cases e4 : n.parent = (i : Int) + 1 <;> simp [h3, e4]
              have ha0 := nodeAt_some ha
              have han : l[(a - 1).toNat]? = some n := ha0.2.2
              refine v_is 72 false rfl (by simp [h3]) ?_
              (repeat (first | (apply v_cx; exact rfl; exact cbA rfl; (first | exact there_s ha); exact rfl; exact rfl) | (apply v_idxL; exact slA rfl; exact tyA rfl; exact rfl; exact rfl; exact rfl; exact rfl; exact (by omega); (first | exact han); exact rfl) | (apply v_move; exact rfl; exact rfl) | (apply v_assign; exact rfl; exact rfl) | refine run_seq ?_ | refine runL_nil ?_ | (apply v_fldA; exact flA rfl; exact rfl; exact rfl; exact rfl) | (apply v_loadA; exact tyA rfl; exact rfl; exact rfl; exact rfl; exact rfl; exact rfl; exact rfl) | (apply v_on; exact rfl) | (apply v_pick_t; exact rfl; exact rfl; exact rfl) | (apply v_pick_f; exact rfl; exact rfl; exact rfl) | (apply v_eql; exact rfl; exact rfl; exact rfl) | (apply v_sub; exact rfl; exact rfl; exact rfl; exact (by omega))))
              refine run_weak idN (σ2 := ⟨[(1, .v (.int .i64 a)), (2, .v (.int .i64 b)), (10, .sem (listS nodeE l)), (11, .sem (listS nodeE l2)), (12, .v (.int .i64 i)), (13, .v (.int .i64 ((i : Int) + 1))), (14, .v (.bool put)), (15, .v (.bool par))], []⟩) ?_ ?_ ?_ ?_ key.out <;> first | exact trivial | exact ⟨rfl, rfl, rfl, rfl, rfl, rfl, rfl, rfl, trivial⟩ | exact trivial | (rw [e]; exact ⟨rfl, rfl, rfl, rfl, rfl, rfl, rfl, rfl, trivial⟩) | (rw [e]; exact trivial) | rfl
        · clear hpar
          skip
          refine run_draws (by kernel_rfl) (by kernel_rfl) ?_
          (repeat (first | (apply p_idxL; exact slA rfl; exact tyA rfl; exact rfl; exact rfl; exact rfl; exact rfl; exact (by omega); (first | exact hx2 | exact hy2); exact rfl; exact rfl) | (apply p_allocD; exact tyA rfl; exact rfl; exact rfl; exact rfl) | (apply p_move; exact rfl; exact rfl; exact rfl) | (apply p_loadA; exact tyA rfl; exact rfl; exact rfl; exact rfl; exact rfl; exact rfl; exact rfl; exact rfl) | (apply p_storeW; exact tyA rfl; exact rfl; exact rfl; exact rfl; exact rfl; exact rfl; exact rfl; exact rfl; exact rfl)))
          refine planL_nil (by kernel_rfl) ?_
          apply via3 (p := RunL _ _ _ ⟨[(1, .v (.int .i64 a)), (2, .v (.int .i64 b)), (10, .sem (listS nodeE l)), (11, .sem (listS nodeE l2)), (12, .v (.int .i64 i)), (13, .v (.int .i64 ((i : Int) + 1))), (16, .ptr 16 0), (17, .ptr 17 0), (99, .v (.bool par))], [(16, .box 33 (nodeL { z with parent := if put = true then 0 else z.parent })), (17, .box 33 (nodeL { y with parent := if put = true then 0 else y.parent }))]⟩ _)
          rotate_left
          · intro key
            (repeat (first | (apply v_move; exact rfl; exact rfl) | refine run_seq ?_ | refine run_region ?_ | refine runL_nil ?_))
            by_cases h1 : put = true
            · refine run_condY rfl h1 ?_
              (repeat (first | (apply v_move; exact rfl; exact rfl) | refine run_seq ?_ | refine run_region ?_ | refine runL_nil ?_ | (apply v_fldP; exact flA rfl; exact rfl; exact rfl; exact rfl) | (apply v_storeB; exact tyA rfl; exact rfl; exact rfl; exact rfl; exact rfl; exact rfl; exact rfl; exact rfl)))
              refine runL_weak idN (σ2 := ⟨[(1, .v (.int .i64 a)), (2, .v (.int .i64 b)), (10, .sem (listS nodeE l)), (11, .sem (listS nodeE l2)), (12, .v (.int .i64 i)), (13, .v (.int .i64 ((i : Int) + 1))), (16, .ptr 16 0), (17, .ptr 17 0), (99, .v (.bool par))], [(16, .box 33 (nodeL { z with parent := if put = true then 0 else z.parent })), (17, .box 33 (nodeL { y with parent := if put = true then 0 else y.parent }))]⟩) ?_ ?_ ?_ ?_ key.out <;> first | exact trivial | exact ⟨rfl, rfl, rfl, rfl, rfl, rfl, rfl, rfl, rfl, trivial⟩ | exact ⟨rfl, rfl, trivial⟩ | (rw [e]; exact ⟨rfl, rfl, rfl, rfl, rfl, rfl, rfl, rfl, rfl, trivial⟩) | (rw [e]; exact ⟨rfl, rfl, trivial⟩) | (rw [h1]; exact ⟨rfl, rfl, rfl, rfl, rfl, rfl, rfl, rfl, rfl, trivial⟩) | (rw [h1]; exact ⟨rfl, rfl, trivial⟩) | rfl
            · have e : put = false := by simpa using h1
              refine run_condN rfl e ?_
              (repeat (first | (apply v_move; exact rfl; exact rfl) | refine run_seq ?_ | refine run_region ?_ | refine run_skip ?_))
              refine runL_weak idN (σ2 := ⟨[(1, .v (.int .i64 a)), (2, .v (.int .i64 b)), (10, .sem (listS nodeE l)), (11, .sem (listS nodeE l2)), (12, .v (.int .i64 i)), (13, .v (.int .i64 ((i : Int) + 1))), (16, .ptr 16 0), (17, .ptr 17 0), (99, .v (.bool par))], [(16, .box 33 (nodeL { z with parent := if put = true then 0 else z.parent })), (17, .box 33 (nodeL { y with parent := if put = true then 0 else y.parent }))]⟩) ?_ ?_ ?_ ?_ key.out <;> first | exact trivial | exact ⟨rfl, rfl, rfl, rfl, rfl, rfl, rfl, rfl, rfl, trivial⟩ | exact ⟨rfl, rfl, trivial⟩ | (rw [e]; exact ⟨rfl, rfl, rfl, rfl, rfl, rfl, rfl, rfl, rfl, trivial⟩) | (rw [e]; exact ⟨rfl, rfl, trivial⟩) | (rw [h1]; exact ⟨rfl, rfl, rfl, rfl, rfl, rfl, rfl, rfl, rfl, trivial⟩) | (rw [h1]; exact ⟨rfl, rfl, trivial⟩) | rfl
          · apply via3 (p := RunL _ _ _ ⟨[(1, .v (.int .i64 a)), (2, .v (.int .i64 b)), (10, .sem (listS nodeE l)), (11, .sem (listS nodeE l2)), (12, .v (.int .i64 i)), (106, .agg (nodeL (modN put par2 z))), (107, .agg (nodeL (modN put par2 y)))], []⟩ _)
            rotate_left
            · intro key
              by_cases h1 : par = true
              · have e : par2 = true := by rw [hpar2, h1]; rfl
                refine v_is 99 true rfl h1 ?_
                (repeat (first | refine run_seq ?_ | refine run_region ?_ | refine runL_nil ?_ | (apply v_fldP; exact flA rfl; exact rfl; exact rfl; exact rfl) | (apply v_loadB; exact tyA rfl; exact rfl; exact rfl; exact rfl; exact rfl; exact rfl; exact rfl) | (apply v_off; exact rfl; exact rfl) | (apply v_pick_t; exact rfl; exact rfl; exact rfl) | (apply run_cond; exact rfl; rotate_left; (focus (intro hb; cases hb; done)); intro hb; clear hb) | (apply v_storeB; exact tyA rfl; exact rfl; exact rfl; exact rfl; exact rfl; exact rfl; exact rfl; exact rfl)))
                refine runL_le 106 rfl (y := .agg (nodeL { ({ z with parent := if put = true then 0 else z.parent } : Nd) with kids := [] })) (Le.agg (by repeat (first | exact trivial | refine ⟨Le.refl, ?_⟩ | refine ⟨Le.nil, ?_⟩))) ?_
                refine runL_le 107 rfl (y := .agg (nodeL { ({ y with parent := if put = true then 0 else y.parent } : Nd) with kids := [] })) (Le.agg (by repeat (first | exact trivial | refine ⟨Le.refl, ?_⟩ | refine ⟨Le.nil, ?_⟩))) ?_
                refine runL_weak idN (σ2 := ⟨[(1, .v (.int .i64 a)), (2, .v (.int .i64 b)), (10, .sem (listS nodeE l)), (11, .sem (listS nodeE l2)), (12, .v (.int .i64 i)), (106, .agg (nodeL (modN put par2 z))), (107, .agg (nodeL (modN put par2 y)))], []⟩) ?_ ?_ ?_ ?_ key.out <;> first | exact trivial | exact ⟨rfl, rfl, rfl, rfl, rfl, rfl, rfl, trivial⟩ | exact trivial | (rw [e]; exact ⟨rfl, rfl, rfl, rfl, rfl, rfl, rfl, trivial⟩) | (rw [e]; exact trivial) | rfl
              · have e0 : par = false := by simpa using h1
                refine v_is 99 false rfl e0 ?_
                (repeat (first | (apply v_move; exact rfl; exact rfl) | refine runL_nil ?_ | (apply v_on; exact rfl) | (apply v_pick_f; exact rfl; exact rfl; exact rfl) | (apply v_eql; exact rfl; exact rfl; exact rfl)))
                by_cases h2 : (i : Int) + 1 = a
                · have e : par2 = true := by rw [hpar2, e0]; simp [h2]
                  refine run_condY rfl (by simp [h2]) ?_
                  (repeat (first | refine run_seq ?_ | refine run_region ?_ | refine runL_nil ?_ | (apply v_fldP; exact flA rfl; exact rfl; exact rfl; exact rfl) | (apply v_loadB; exact tyA rfl; exact rfl; exact rfl; exact rfl; exact rfl; exact rfl; exact rfl) | (apply v_storeB; exact tyA rfl; exact rfl; exact rfl; exact rfl; exact rfl; exact rfl; exact rfl; exact rfl)))
                  refine runL_le 106 rfl (y := .agg (nodeL { ({ z with parent := if put = true then 0 else z.parent } : Nd) with kids := [] })) (Le.agg (by repeat (first | exact trivial | refine ⟨Le.refl, ?_⟩ | refine ⟨Le.nil, ?_⟩))) ?_
                  refine runL_le 107 rfl (y := .agg (nodeL { ({ y with parent := if put = true then 0 else y.parent } : Nd) with kids := [] })) (Le.agg (by repeat (first | exact trivial | refine ⟨Le.refl, ?_⟩ | refine ⟨Le.nil, ?_⟩))) ?_
                  refine runL_weak idN (σ2 := ⟨[(1, .v (.int .i64 a)), (2, .v (.int .i64 b)), (10, .sem (listS nodeE l)), (11, .sem (listS nodeE l2)), (12, .v (.int .i64 i)), (106, .agg (nodeL (modN put par2 z))), (107, .agg (nodeL (modN put par2 y)))], []⟩) ?_ ?_ ?_ ?_ key.out <;> first | exact trivial | exact ⟨rfl, rfl, rfl, rfl, rfl, rfl, rfl, trivial⟩ | exact trivial | (rw [e]; exact ⟨rfl, rfl, rfl, rfl, rfl, rfl, rfl, trivial⟩) | (rw [e]; exact trivial) | rfl
                · have e : par2 = false := by rw [hpar2, e0]; simp [h2]
                  refine run_condN rfl (by simp [h2]) ?_
                  (repeat (first | refine run_seq ?_ | refine run_region ?_ | refine run_skip ?_ | (apply v_loadB; exact tyA rfl; exact rfl; exact rfl; exact rfl; exact rfl; exact rfl; exact rfl)))
                  refine runL_weak idN (σ2 := ⟨[(1, .v (.int .i64 a)), (2, .v (.int .i64 b)), (10, .sem (listS nodeE l)), (11, .sem (listS nodeE l2)), (12, .v (.int .i64 i)), (106, .agg (nodeL (modN put par2 z))), (107, .agg (nodeL (modN put par2 y)))], []⟩) ?_ ?_ ?_ ?_ key.out <;> first | exact trivial | exact ⟨rfl, rfl, rfl, rfl, rfl, rfl, rfl, trivial⟩ | exact trivial | (rw [e]; exact ⟨rfl, rfl, rfl, rfl, rfl, rfl, rfl, trivial⟩) | (rw [e]; exact trivial) | rfl
            · (repeat (first | (apply v_cx; exact rfl; exact cbA rfl; (first | exact hone); exact rfl; exact rfl) | (apply v_move; exact rfl; exact rfl) | (apply v_assign; exact rfl; exact rfl) | refine run_region ?_ | refine runL_nil ?_ | refine run_skip ?_ | refine run_inBlock ?_ | (apply run_cond; exact rfl; (focus (intro hb; cases hb; done)); intro hb; clear hb) | (apply v_not; exact rfl; exact rfl) | (apply v_add; exact rfl; exact rfl; exact rfl; exact (by omega))))
              exact v_again ih (i + 1) idN trivial (by repeat (first | exact trivial | refine ⟨rfl, ?_⟩)) (by repeat (first | exact trivial | refine ⟨rfl, ?_⟩)) rfl (by omega) (by omega)
    · (repeat (first | (apply v_assign; exact rfl; exact rfl) | refine run_seq ?_ | refine run_region ?_ | refine runL_nil ?_ | (apply run_exit; exact rfl)))
      exact run_ret idN _ Try.func24 ⟨_, _, rfl, rfl, rfl⟩ rfl trivial trivial rfl
theorem editApart_walk (A : Option Addr) (c0 : Nat) (xs : List Ac) (a b c : Int) (W : World) (hv : AVRs ι0 (old W) W [.sem (listS acE xs)] [.slice A xs.length c0]) (hs : ∀ x ∈ xs, AcStr x) (hm : xs.length ≤ 9223372036854775807) (w1 : (Lit.int .i64 a).wf = true) (w2 : (Lit.int .i64 b).wf = true) (w3 : (Lit.int .i64 c).wf = true) : Calls Try.prog 24 #[.slice A xs.length c0, .int .i64 a, .int .i64 b, .int .i64 c] W fun e w' => e = .returned (.bool true) ∧ Below W.heap.size W w' :=
  acts_walk (vs := [.int .i64 a, .int .i64 b, .int .i64 c]) hv (editApart_f a b c hm hs)
end Go.Proofs.Ytjkidecaciomgaa
