/- arena.Forest's Node and All, told with what is laid for it. -/
import Derived.Test.YtjkidecaciomgaaAn1
namespace Go.Proofs.Ytjkidecaciomgaa
set_option linter.unusedVariables false
set_option linter.unusedSimpArgs false
set_option maxRecDepth 100000
open Go.RowKit

theorem clone_io {xs : List Int} (hm : xs.length ≤ 1000000) : Fun Try.prog 139 [.sem (listS intE xs)] [] (.res 0) [(0, .obj (ownS 3 intE xs))] := by
  refine fun_intro 8 Try.func139 rfl rfl rfl (fun ι F S w => ?_)
  (repeat (first | (apply v_move; exact rfl; exact rfl) | (apply v_assign; exact rfl; exact rfl) | refine run_seq ?_ | refine run_region ?_ | refine runL_nil ?_))
  refine v_sliceNil (slA rfl) rfl rfl (by decide) fun b hb => ?_
  refine runL_nil ?_
  refine run_cond rfl (fun h => ?_) (fun h => ?_)
  · obtain rfl := hb h
    (repeat (first | (apply v_assign; exact rfl; exact rfl) | refine run_seq ?_ | refine run_region ?_ | refine runL_nil ?_))
    refine run_own 2 2 3 intE rfl rfl rfl rfl ?_
    exact run_ret (mp [(0, 2)]) _ Try.func139 ⟨_, _, rfl, rfl, rfl⟩ rfl trivial ⟨rfl, trivial⟩ rfl
  · (repeat (first | refine run_seq ?_ | refine run_region ?_ | refine run_skip ?_))
    refine v_litO intE [] [] [] (slA rfl) (tyA rfl) rfl rfl trivial rfl rfl rfl rfl rfl rfl rfl rfl rfl rfl rfl rfl ?_
    (repeat (first | (apply v_move; exact rfl; exact rfl)))
    refine v_appendD (slA rfl) (tyA rfl) rfl rfl rfl rfl rfl rfl rfl (by simpa using hm) rfl rfl rfl rfl ?_
    (repeat (first | (apply v_assign; exact rfl; exact rfl) | refine runL_nil ?_))
    exact run_ret (mp [(0, 7)]) _ Try.func139 ⟨_, _, rfl, rfl, rfl⟩ rfl trivial ⟨rfl, trivial⟩ rfl
theorem node_o {l : List Nd} {id : Int} {x : Nd} (h : nodeAt l id = some x) (hm : l.length ≤ 1000000) (hkx : x.kids.length ≤ 1000000) : Fun Try.prog 38 [forA l, .v (.int .i64 id)] [] (.tup [.agg (nodeF x (.res 0)), .v (.bool true)]) [(0, .obj (ownS 3 intE x.kids))] := by
  obtain ⟨_, _, hx⟩ := nodeAt_some h
  refine fun_intro 24 Try.func38 rfl rfl rfl (fun ι F S w => ?_)
  (repeat (first | (apply v_c (at_some h hm); exact rfl; exact cbA rfl; exact rfl; exact rfl) | (apply v_move; exact rfl; exact rfl) | (apply v_assign; exact rfl; exact rfl) | refine run_seq ?_ | refine run_region ?_ | refine runL_nil ?_ | refine run_skip ?_ | (apply v_fldA; exact flA rfl; exact rfl; exact rfl; exact rfl) | (apply v_loadA; exact tyA rfl; exact rfl; exact rfl; exact rfl; exact rfl; exact rfl; exact rfl) | (apply run_cond; exact rfl; (focus (intro hb; cases hb; done)); intro hb; clear hb) | (apply v_eqlNil; exact ptA rfl; exact rfl; exact NN.adr; exact rfl) | (apply v_nilCheck; exact rfl; exact NN.adr; exact rfl) | (apply v_allocD; exact tyA rfl; exact rfl; exact rfl; exact rfl; exact rfl) | (apply v_storeW; exact tyA rfl; exact rfl; exact rfl; exact rfl; exact rfl; exact rfl; exact rfl; exact rfl)))
  refine v_cR (mp [(0, 21)]) (clone_io hkx) rfl (cbA rfl) trivial (by kernel_rfl) (by kernel_rfl) (by kernel_rfl) (by kernel_rfl) (by kernel_rfl) (by kernel_rfl) (by kernel_rfl) (by kernel_rfl) rfl ?_
  (repeat (first | (apply v_assign; exact rfl; exact rfl) | refine run_seq ?_ | refine run_region ?_ | refine runL_nil ?_ | (apply v_fldP; exact flA rfl; exact rfl; exact rfl; exact rfl) | (apply v_loadB; exact tyA rfl; exact rfl; exact rfl; exact rfl; exact rfl; exact rfl; exact rfl) | (apply v_storeW; exact tyA rfl; exact rfl; exact rfl; exact rfl; exact rfl; exact rfl; exact rfl; exact rfl) | (apply v_storeB; exact tyA rfl; exact rfl; exact rfl; exact rfl; exact rfl; exact rfl; exact rfl; exact rfl)))
  exact run_ret (mp [(0, 21)]) _ Try.func38 ⟨_, _, _, _, _, _, rfl, rfl, rfl, tyA rfl, rfl, (fun h => by cases h), rfl, ⟨_, _, rfl, rfl, rfl⟩⟩ rfl trivial ⟨rfl, trivial⟩ rfl
theorem zip_snoc {ss : List SlV} {s : SlV} {l : List Nd} {x : Nd} (h : ss.length = l.length) : (ss ++ [s]).zip (l ++ [x]) = ss.zip l ++ [(s, x)] := List.zip_append h
theorem kids_snoc {ss : List SlV} {s : SlV} {l : List Nd} {x : Nd} (h : ss.length = l.length) : kidsP (ss ++ [s]) (l ++ [x]) = kidsP ss l ++ [(s, x.kids)] := by
  rw [kidsP, kidsP, List.map_append]
  exact List.zip_append (by rw [List.length_map]; exact h)
theorem all_n {l : List Nd} (hm : l.length ≤ 1000) (hk : ∀ x ∈ l, x.kids.length ≤ 1000000) : Fun Try.prog 41 [forA l] [] (.res 0) [(0, .obj (nestNd 33 3 l))] := by
  have hm2 : l.length ≤ 1000000 := by omega
  refine fun_intro 25 Try.func41 rfl rfl rfl (fun ι F S w => ?_)
  (repeat (first | (apply v_c (len_f); exact rfl; exact cbA rfl; exact rfl; exact rfl) | (apply v_move; exact rfl; exact rfl) | (apply v_assign; exact rfl; exact rfl) | refine run_seq ?_ | refine run_region ?_ | refine runL_nil ?_ | refine run_block ?_))
  refine run_own 3 3 33 nodeV rfl rfl rfl rfl ?_
  refine run_many0 400 3 intE rfl rfl rfl ?_
  refine v_loop (fun q : Nat × List SlV => ⟨[(0, forA l), (8, .v (.int .i64 l.length)), (9, .v (.int .i64 q.1)), (3, .res 3)], [(3, .obj (ownS 33 nodeV (q.2.zip (l.take q.1)))), (400, .obj (manyR 3 intE (kidsP q.2 (l.take q.1))))]⟩) (fun q => q.1 ≤ l.length ∧ q.2.length = q.1) (fun q => l.length - q.1) (0, []) idN trivial (by repeat (first | exact trivial | refine ⟨rfl, ?_⟩)) ⟨rfl, rfl, trivial⟩ rfl ⟨by simp, rfl⟩ fun ⟨i, ss⟩ ⟨hi, hs⟩ ih => ?_
  dsimp only at hi hs ⊢
  (repeat (first | refine run_seq ?_ | refine run_region ?_ | refine runL_nil ?_ | (apply v_lss; exact rfl; exact rfl; exact rfl)))
  refine run_cond rfl (fun h => ?_) (fun h => ?_)
  · have hlt : i < l.length := by simpa using h
    have ht := take_nodeR hlt
    have hat : nodeAt l ((i : Int) + 1) = some l[i] := by
      unfold nodeAt
      rw [if_pos (by omega), show ((i : Int) + 1 - 1).toNat = i by omega]
      exact List.getElem?_eq_getElem hlt
    rw [show nodeR l ((i : Int) + 1) = l[i] by simp [nodeR, hat]] at ht
    have hkx := hk l[i] (List.getElem_mem hlt)
    have hno := node_o hat hm2 hkx
    have hsl : ss.length = (l.take i).length := by rw [List.length_take]; omega
    have hzl : (ss.zip (l.take i)).length = i := by rw [List.length_zip, ← hsl]; omega
    generalize l[i] = x at *
    (repeat (first | (apply v_move; exact rfl; exact rfl) | (apply v_assign; exact rfl; exact rfl) | refine run_seq ?_ | refine run_region ?_ | refine runL_nil ?_ | refine run_skip ?_ | refine run_block ?_ | (apply v_add; exact rfl; exact rfl; exact rfl; exact (by omega))))
    refine v_cR (mp [(0, 16)]) hno rfl (cbA rfl) trivial (by kernel_rfl) (by kernel_rfl) (by kernel_rfl) (by kernel_rfl) (by kernel_rfl) (by kernel_rfl) (by kernel_rfl) (by kernel_rfl) rfl ?_
    (repeat (first | (apply v_move; exact rfl; exact rfl) | (apply v_assign; exact rfl; exact rfl) | refine run_region ?_ | refine runL_nil ?_ | (apply v_extract; exact rfl; exact rfl; exact rfl) | (apply v_loadB; exact tyA rfl; exact rfl; exact rfl; exact rfl; exact rfl; exact rfl; exact rfl) | (apply v_allocD; exact tyA rfl; exact rfl; exact rfl; exact rfl; exact rfl) | (apply v_storeW; exact tyA rfl; exact rfl; exact rfl; exact rfl; exact rfl; exact rfl; exact rfl; exact rfl)))
    refine runL_nameA 20 16 8 rfl rfl rfl fun s hsn => ?_
    refine v_l nodeV [(s, x)] (slA rfl) (tyA rfl) rfl rfl rfl rfl rfl rfl rfl rfl rfl rfl ?_
    refine v_appendD (slA rfl) (tyA rfl) rfl rfl rfl rfl rfl rfl rfl (by simp only [List.length_singleton]; omega) rfl rfl rfl rfl ?_
    (repeat (first | (apply v_move; exact rfl; exact rfl) | (apply v_assign; exact rfl; exact rfl) | refine run_region ?_ | refine runL_nil ?_ | refine run_inBlock ?_ | (apply v_add; exact rfl; exact rfl; exact rfl; exact (by omega))))
    refine run_sinkM 16 400 rfl rfl rfl ?_
    exact v_again ih (i + 1, ss ++ [s]) (mp [(3, 22)]) trivial (by repeat (first | exact trivial | refine ⟨rfl, ?_⟩)) ⟨by rw [ht, zip_snoc hsl]; rfl, by rw [ht, kids_snoc hsl]; rfl, trivial⟩ rfl ⟨by simp only; omega, by simp only [List.length_append, List.length_singleton]; omega⟩ (by simp only; omega)
  · have hge : i = l.length := by have : ¬ i < l.length := (by simpa using h); omega
    subst hge
    clear ih
    rw [List.take_length]
    refine run_packNd 3 400 rfl rfl rfl hs ?_
    (repeat (first | (apply v_move; exact rfl; exact rfl) | (apply v_assign; exact rfl; exact rfl) | refine run_seq ?_ | refine run_region ?_ | refine runL_nil ?_ | (apply run_exit; exact rfl)))
    exact run_ret (mp [(0, 3)]) _ Try.func41 ⟨_, _, rfl, rfl, rfl⟩ rfl trivial ⟨rfl, trivial⟩ rfl
end Go.Proofs.Ytjkidecaciomgaa
