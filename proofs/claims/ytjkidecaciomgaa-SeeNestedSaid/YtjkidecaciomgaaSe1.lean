/- see: walk; slices.Clone of steps, slices.Reverse. -/
import Derived.Test.YtjkidecaciomgaaSv3
import Derived.Test.YtjkidecaciomgaaBP
namespace Go.Proofs.Ytjkidecaciomgaa
set_option linter.unusedVariables false
set_option linter.unusedSimpArgs false
set_option maxRecDepth 100000
open Go.RowKit

section
variable {C : Cx} {k : List Item} {t : List (Nat × AV)} {r : List (Nat × RK)} {ops : Array Oper} {rest : List Oper} {o : Oper}
variable {d : Nat} {ty ty' : TypeId} {pos : String} {af : Array Edge} {x y : Operand} {a b : Int} {ts : Array TypeId}
theorem op_min (ho : o.op = .call { callee := .builtin .min, args := #[x, y], argTypes := ts }) : OpPure C r o [(x, .v (.int .i64 a)), (y, .v (.int .i64 b))] (.v (.int .i64 (if b < a then b else a))) := OpPure.here fun ι F S w ρ hs hr => by
  have h1 := hr (x, .v (.int .i64 a)) (by simp)
  have h2 := hr (y, .v (.int .i64 b)) (by simp)
  simp only [AVR] at h1 h2
  refine ⟨.int .i64 (if b < a then b else a), ?_, by simp [AVR]⟩
  simp [execOp, ho, resolve, invoke, builtin, run_min_int2, h1, h2]
theorem v_min (hx : evalA t x = some (.v (.int .i64 a))) (hy : evalA t y = some (.v (.int .i64 b))) (hn : Nat.blt d C.N = true) (hk : RunL C ops rest ⟨(d, .v (.int .i64 (if b < a then b else a))) :: t, r⟩ k) : RunL C ops (⟨some d, .call { callee := .builtin .min, args := #[x, y], argTypes := ts }, ty, pos, af, none⟩ :: rest) ⟨t, r⟩ k := runL_pure _ rfl rfl hn (rd2 hx hy) (op_min rfl) hk
end
/-- What is seen of entries: 'more' raises the level ahead of an entry, 'less' lowers it behind. -/
def seeL (more less : St → Bool) : List St → Int → Int → List Int
  | [], _, _ => []
  | s :: r, lv, lim =>
    (if lv + b2i (more s) ≤ lim then [s.node] else []) ++
    (if less s = true then seeL more less r (lv + b2i (more s) - 1) (min lim (lv + b2i (more s) - 1)) else seeL more less r (lv + b2i (more s)) lim)
theorem seeL_cons (more less : St → Bool) (s : St) (r : List St) (lv lim : Int) : seeL more less (s :: r) lv lim = (if lv + b2i (more s) ≤ lim then [s.node] else []) ++
    (if less s = true then seeL more less r (lv + b2i (more s) - 1) (min lim (lv + b2i (more s) - 1)) else seeL more less r (lv + b2i (more s)) lim) := rfl
theorem seeL_length (more less : St → Bool) (xs : List St) : ∀ lv lim : Int, (seeL more less xs lv lim).length ≤ xs.length := by
  induction xs with
  | nil => intro lv lim; simp [seeL]
  | cons x r ih =>
    intro lv lim
    rw [seeL_cons, List.length_append, List.length_cons]
    have h1 : (if lv + b2i (more x) ≤ lim then [x.node] else ([] : List Int)).length ≤ 1 := by split <;> simp
    have h2 : (if less x = true then seeL more less r (lv + b2i (more x) - 1) (min lim (lv + b2i (more x) - 1)) else seeL more less r (lv + b2i (more x)) lim).length ≤ r.length := by
      split
      · exact ih _ _
      · exact ih _ _
    omega
theorem min_if (a b : Int) : min a b = if b < a then b else a := by omega
theorem seeroot_f (x : St) : Fun Try.prog 176 [.agg (stL x)] [] (.v (.bool x.cr)) [] := by
  refine fun_intro 5 Try.func176 rfl rfl rfl (fun ι F S w => ?_)
  (repeat (first | (apply v_assign; exact rfl; exact rfl) | refine run_seq ?_ | refine run_region ?_ | refine runL_nil ?_ | (apply v_fldP; exact flA rfl; exact rfl; exact rfl; exact rfl) | (apply v_loadB; exact tyA rfl; exact rfl; exact rfl; exact rfl; exact rfl; exact rfl; exact rfl) | (apply v_boxD; exact rfl; exact rfl; exact rfl; exact rfl; exact rfl; exact rfl; exact rfl)))
  exact run_ret idN _ Try.func176 ⟨_, _, rfl, rfl, rfl⟩ rfl trivial trivial rfl
theorem seeslot_f (x : St) : Fun Try.prog 177 [.agg (stL x)] [] (.v (.bool x.cs)) [] := by
  refine fun_intro 5 Try.func177 rfl rfl rfl (fun ι F S w => ?_)
  (repeat (first | (apply v_assign; exact rfl; exact rfl) | refine run_seq ?_ | refine run_region ?_ | refine runL_nil ?_ | (apply v_fldP; exact flA rfl; exact rfl; exact rfl; exact rfl) | (apply v_loadB; exact tyA rfl; exact rfl; exact rfl; exact rfl; exact rfl; exact rfl; exact rfl) | (apply v_boxD; exact rfl; exact rfl; exact rfl; exact rfl; exact rfl; exact rfl; exact rfl)))
  exact run_ret idN _ Try.func177 ⟨_, _, rfl, rfl, rfl⟩ rfl trivial trivial rfl
theorem walk_rs {xs : List St} (lv0 : Int) (hlen : xs.length ≤ 1000) (h0 : -1000 ≤ lv0 ∧ lv0 ≤ 1000) : Fun Try.prog 175 [.sem (listS stE xs), .v (.int .i64 lv0), funV 176, funV 177] [] (.res 0) [(0, .obj (ownS 3 intE (seeL St.cr St.cs xs lv0 lv0)))] := by
  refine fun_intro 43 Try.func175 rfl rfl rfl (fun ι F S w => ?_)
  refine run_le 2 rfl (y := .fn 176 []) (le_fn _) ?_
  refine run_le 3 rfl (y := .fn 177 []) (le_fn _) ?_
  (repeat (first | (apply v_move; exact rfl; exact rfl) | (apply v_assign; exact rfl; exact rfl) | refine run_seq ?_ | refine run_region ?_ | refine runL_nil ?_ | refine run_block ?_ | (apply v_lenL; exact slA rfl; exact rfl; exact rfl)))
  refine run_own 10 10 3 intE rfl rfl rfl rfl ?_
  refine v_loop (fun q : Nat × Int × Int × List Int => ⟨[(1, .v (.int .i64 q.2.1)), (2, .fn 176 []), (3, .fn 177 []), (9, .v (.int .i64 q.2.2.1)), (10, .res 10), (14, .sem (listS stE xs)), (15, .v (.int .i64 xs.length)), (16, .v (.int .i64 q.1))], [(10, .obj (ownS 3 intE q.2.2.2))]⟩) (fun q => q.1 ≤ xs.length ∧ lv0 - q.1 ≤ q.2.1 ∧ q.2.1 ≤ lv0 + q.1 ∧ q.2.2.2.length ≤ q.1 ∧ q.2.2.2 ++ seeL St.cr St.cs (xs.drop q.1) q.2.1 q.2.2.1 = seeL St.cr St.cs xs lv0 lv0) (fun q => xs.length - q.1) (0, lv0, lv0, []) idN trivial (by repeat (first | exact trivial | refine ⟨rfl, ?_⟩)) (by repeat (first | exact trivial | refine ⟨rfl, ?_⟩)) rfl ⟨by simp, by simp, by simp, by simp, rfl⟩ fun ⟨i, lv, lim, out⟩ ⟨hi, hlo, hhi, hol, hq⟩ ih => ?_
  dsimp only at hi hlo hhi hol hq ⊢
  generalize seeL St.cr St.cs xs lv0 lv0 = tot at *
  (repeat (first | refine run_seq ?_ | refine run_region ?_ | refine runL_nil ?_ | (apply v_lss; exact rfl; exact rfl; exact rfl)))
  refine run_cond rfl (fun hb => ?_) (fun hb => ?_)
  · have hlt : i < xs.length := by simpa using hb
    have hx : xs[((i : Int)).toNat]? = some xs[i] := by simp [hlt]
    rw [List.drop_eq_getElem_cons hlt, seeL_cons, min_if] at hq
    generalize xs[i] = x at *
    (repeat (first | (apply v_idxL; exact slA rfl; exact tyA rfl; exact rfl; exact rfl; exact rfl; exact rfl; exact (by omega); (first | exact hx); exact rfl) | (apply v_move; exact rfl; exact rfl) | refine run_seq ?_ | refine run_region ?_ | refine runL_nil ?_ | refine run_skip ?_ | refine run_block ?_ | (apply v_loadB; exact tyA rfl; exact rfl; exact rfl; exact rfl; exact rfl; exact rfl; exact rfl) | (apply v_loadA; exact tyA rfl; exact rfl; exact rfl; exact rfl; exact rfl; exact rfl; exact rfl) | (apply v_allocD; exact tyA rfl; exact rfl; exact rfl; exact rfl; exact rfl) | (apply v_storeW; exact tyA rfl; exact rfl; exact rfl; exact rfl; exact rfl; exact rfl; exact rfl; exact rfl)))
    refine v_cC (l := [.agg (stL x)]) (cap := []) idN (seeroot_f x) rfl rfl (cbA rfl) trivial (by kernel_rfl) (by kernel_rfl) (by kernel_rfl) (by kernel_rfl) (by kernel_rfl) (by kernel_rfl) (by kernel_rfl) (by kernel_rfl) rfl ?_
    (repeat (first | refine runL_nil ?_))
    refine run_cond rfl (fun h1 => ?_) (fun h1 => ?_)
    · have hb1 : x.cr = true := h1
      rw [hb1, show b2i true = 1 from rfl] at hq
      (repeat (first | (apply v_move; exact rfl; exact rfl) | (apply v_assign; exact rfl; exact rfl) | refine run_seq ?_ | refine run_region ?_ | refine runL_nil ?_ | (apply v_leq; exact rfl; exact rfl; exact rfl) | (apply v_add; exact rfl; exact rfl; exact rfl; exact (by omega))))
      refine run_cond rfl (fun h2 => ?_) (fun h2 => ?_)
      · rw [if_pos (by simpa using h2)] at hq
        (repeat (first | (apply v_move; exact rfl; exact rfl) | refine run_region ?_ | (apply v_fldP; exact flA rfl; exact rfl; exact rfl; exact rfl) | (apply v_loadB; exact tyA rfl; exact rfl; exact rfl; exact rfl; exact rfl; exact rfl; exact rfl)))
        refine v_l intE [x.node] (slA rfl) (tyA rfl) rfl rfl rfl rfl rfl rfl rfl rfl rfl rfl ?_
        refine v_appendD (slA rfl) (tyA rfl) rfl rfl rfl rfl rfl rfl rfl (by simp only [List.length_singleton]; omega) rfl rfl rfl rfl ?_
        (repeat (first | (apply v_move; exact rfl; exact rfl) | (apply v_assign; exact rfl; exact rfl) | refine run_seq ?_ | refine run_region ?_ | refine runL_nil ?_ | (apply v_loadB; exact tyA rfl; exact rfl; exact rfl; exact rfl; exact rfl; exact rfl; exact rfl)))
        refine v_cC (l := [.agg (stL x)]) (cap := []) idN (seeslot_f x) rfl rfl (cbA rfl) trivial (by kernel_rfl) (by kernel_rfl) (by kernel_rfl) (by kernel_rfl) (by kernel_rfl) (by kernel_rfl) (by kernel_rfl) (by kernel_rfl) rfl ?_
        (repeat (first | refine runL_nil ?_))
        refine run_cond rfl (fun h3 => ?_) (fun h3 => ?_)
        · have hb3 : x.cs = true := h3
          rw [hb3, if_pos rfl] at hq
          (repeat (first | (apply v_min; exact rfl; exact rfl; exact rfl) | (apply v_move; exact rfl; exact rfl) | (apply v_assign; exact rfl; exact rfl) | refine run_seq ?_ | refine run_region ?_ | refine runL_nil ?_ | refine run_inBlock ?_ | (apply v_add; exact rfl; exact rfl; exact rfl; exact (by omega)) | (apply v_sub; exact rfl; exact rfl; exact rfl; exact (by omega))))
          exact v_again ih (i + 1, (lv + 1 - 1), (if lv + 1 - 1 < lim then lv + 1 - 1 else lim), out ++ [x.node]) (mp [(10, 32)]) trivial (by repeat (first | exact trivial | refine ⟨rfl, ?_⟩)) (by repeat (first | exact trivial | refine ⟨rfl, ?_⟩)) rfl ⟨by dsimp only; omega, by dsimp only; omega, by dsimp only; omega, by simp; omega, by dsimp only; rw [← hq]; simp⟩ (by dsimp only; omega)
        · have hb3 : x.cs = false := h3
          rw [hb3, if_neg (by simp)] at hq
          (repeat (first | (apply v_move; exact rfl; exact rfl) | refine run_region ?_ | refine runL_nil ?_ | refine run_skip ?_ | refine run_inBlock ?_ | (apply v_add; exact rfl; exact rfl; exact rfl; exact (by omega))))
          exact v_again ih (i + 1, (lv + 1), lim, out ++ [x.node]) (mp [(10, 32)]) trivial (by repeat (first | exact trivial | refine ⟨rfl, ?_⟩)) (by repeat (first | exact trivial | refine ⟨rfl, ?_⟩)) rfl ⟨by dsimp only; omega, by dsimp only; omega, by dsimp only; omega, by simp; omega, by dsimp only; rw [← hq]; simp⟩ (by dsimp only; omega)
      · rw [if_neg (by simpa using h2)] at hq
        (repeat (first | (apply v_move; exact rfl; exact rfl) | refine run_seq ?_ | refine run_region ?_ | refine run_skip ?_ | (apply v_loadB; exact tyA rfl; exact rfl; exact rfl; exact rfl; exact rfl; exact rfl; exact rfl)))
        refine v_cC (l := [.agg (stL x)]) (cap := []) idN (seeslot_f x) rfl rfl (cbA rfl) trivial (by kernel_rfl) (by kernel_rfl) (by kernel_rfl) (by kernel_rfl) (by kernel_rfl) (by kernel_rfl) (by kernel_rfl) (by kernel_rfl) rfl ?_
        (repeat (first | refine runL_nil ?_))
        refine run_cond rfl (fun h3 => ?_) (fun h3 => ?_)
        · have hb3 : x.cs = true := h3
          rw [hb3, if_pos rfl] at hq
          (repeat (first | (apply v_min; exact rfl; exact rfl; exact rfl) | (apply v_move; exact rfl; exact rfl) | (apply v_assign; exact rfl; exact rfl) | refine run_seq ?_ | refine run_region ?_ | refine runL_nil ?_ | refine run_inBlock ?_ | (apply v_add; exact rfl; exact rfl; exact rfl; exact (by omega)) | (apply v_sub; exact rfl; exact rfl; exact rfl; exact (by omega))))
          exact v_again ih (i + 1, (lv + 1 - 1), (if lv + 1 - 1 < lim then lv + 1 - 1 else lim), out) idN trivial (by repeat (first | exact trivial | refine ⟨rfl, ?_⟩)) (by repeat (first | exact trivial | refine ⟨rfl, ?_⟩)) rfl ⟨by dsimp only; omega, by dsimp only; omega, by dsimp only; omega, by simp; omega, by dsimp only; rw [← hq]; simp⟩ (by dsimp only; omega)
        · have hb3 : x.cs = false := h3
          rw [hb3, if_neg (by simp)] at hq
          (repeat (first | (apply v_move; exact rfl; exact rfl) | refine run_region ?_ | refine runL_nil ?_ | refine run_skip ?_ | refine run_inBlock ?_ | (apply v_add; exact rfl; exact rfl; exact rfl; exact (by omega))))
          exact v_again ih (i + 1, (lv + 1), lim, out) idN trivial (by repeat (first | exact trivial | refine ⟨rfl, ?_⟩)) (by repeat (first | exact trivial | refine ⟨rfl, ?_⟩)) rfl ⟨by dsimp only; omega, by dsimp only; omega, by dsimp only; omega, by simp; omega, by dsimp only; rw [← hq]; simp⟩ (by dsimp only; omega)
    · have hb1 : x.cr = false := h1
      rw [hb1, show b2i false = 0 from rfl, Int.add_zero] at hq
      (repeat (first | (apply v_move; exact rfl; exact rfl) | refine run_seq ?_ | refine run_region ?_ | refine runL_nil ?_ | refine run_skip ?_ | (apply v_leq; exact rfl; exact rfl; exact rfl)))
      refine run_cond rfl (fun h2 => ?_) (fun h2 => ?_)
      · rw [if_pos (by simpa using h2)] at hq
        (repeat (first | (apply v_move; exact rfl; exact rfl) | refine run_region ?_ | (apply v_fldP; exact flA rfl; exact rfl; exact rfl; exact rfl) | (apply v_loadB; exact tyA rfl; exact rfl; exact rfl; exact rfl; exact rfl; exact rfl; exact rfl)))
        refine v_l intE [x.node] (slA rfl) (tyA rfl) rfl rfl rfl rfl rfl rfl rfl rfl rfl rfl ?_
        refine v_appendD (slA rfl) (tyA rfl) rfl rfl rfl rfl rfl rfl rfl (by simp only [List.length_singleton]; omega) rfl rfl rfl rfl ?_
        (repeat (first | (apply v_move; exact rfl; exact rfl) | (apply v_assign; exact rfl; exact rfl) | refine run_seq ?_ | refine run_region ?_ | refine runL_nil ?_ | (apply v_loadB; exact tyA rfl; exact rfl; exact rfl; exact rfl; exact rfl; exact rfl; exact rfl)))
        refine v_cC (l := [.agg (stL x)]) (cap := []) idN (seeslot_f x) rfl rfl (cbA rfl) trivial (by kernel_rfl) (by kernel_rfl) (by kernel_rfl) (by kernel_rfl) (by kernel_rfl) (by kernel_rfl) (by kernel_rfl) (by kernel_rfl) rfl ?_
        (repeat (first | refine runL_nil ?_))
        refine run_cond rfl (fun h3 => ?_) (fun h3 => ?_)
        · have hb3 : x.cs = true := h3
          rw [hb3, if_pos rfl] at hq
          (repeat (first | (apply v_min; exact rfl; exact rfl; exact rfl) | (apply v_move; exact rfl; exact rfl) | (apply v_assign; exact rfl; exact rfl) | refine run_seq ?_ | refine run_region ?_ | refine runL_nil ?_ | refine run_inBlock ?_ | (apply v_add; exact rfl; exact rfl; exact rfl; exact (by omega)) | (apply v_sub; exact rfl; exact rfl; exact rfl; exact (by omega))))
          exact v_again ih (i + 1, (lv - 1), (if lv - 1 < lim then lv - 1 else lim), out ++ [x.node]) (mp [(10, 32)]) trivial (by repeat (first | exact trivial | refine ⟨rfl, ?_⟩)) (by repeat (first | exact trivial | refine ⟨rfl, ?_⟩)) rfl ⟨by dsimp only; omega, by dsimp only; omega, by dsimp only; omega, by simp; omega, by dsimp only; rw [← hq]; simp⟩ (by dsimp only; omega)
        · have hb3 : x.cs = false := h3
          rw [hb3, if_neg (by simp)] at hq
          (repeat (first | (apply v_move; exact rfl; exact rfl) | refine run_region ?_ | refine runL_nil ?_ | refine run_skip ?_ | refine run_inBlock ?_ | (apply v_add; exact rfl; exact rfl; exact rfl; exact (by omega))))
          exact v_again ih (i + 1, (lv), lim, out ++ [x.node]) (mp [(10, 32)]) trivial (by repeat (first | exact trivial | refine ⟨rfl, ?_⟩)) (by repeat (first | exact trivial | refine ⟨rfl, ?_⟩)) rfl ⟨by dsimp only; omega, by dsimp only; omega, by dsimp only; omega, by simp; omega, by dsimp only; rw [← hq]; simp⟩ (by dsimp only; omega)
      · rw [if_neg (by simpa using h2)] at hq
        (repeat (first | (apply v_move; exact rfl; exact rfl) | refine run_seq ?_ | refine run_region ?_ | refine run_skip ?_ | (apply v_loadB; exact tyA rfl; exact rfl; exact rfl; exact rfl; exact rfl; exact rfl; exact rfl)))
        refine v_cC (l := [.agg (stL x)]) (cap := []) idN (seeslot_f x) rfl rfl (cbA rfl) trivial (by kernel_rfl) (by kernel_rfl) (by kernel_rfl) (by kernel_rfl) (by kernel_rfl) (by kernel_rfl) (by kernel_rfl) (by kernel_rfl) rfl ?_
        (repeat (first | refine runL_nil ?_))
        refine run_cond rfl (fun h3 => ?_) (fun h3 => ?_)
        · have hb3 : x.cs = true := h3
          rw [hb3, if_pos rfl] at hq
          (repeat (first | (apply v_min; exact rfl; exact rfl; exact rfl) | (apply v_move; exact rfl; exact rfl) | (apply v_assign; exact rfl; exact rfl) | refine run_seq ?_ | refine run_region ?_ | refine runL_nil ?_ | refine run_inBlock ?_ | (apply v_add; exact rfl; exact rfl; exact rfl; exact (by omega)) | (apply v_sub; exact rfl; exact rfl; exact rfl; exact (by omega))))
          exact v_again ih (i + 1, (lv - 1), (if lv - 1 < lim then lv - 1 else lim), out) idN trivial (by repeat (first | exact trivial | refine ⟨rfl, ?_⟩)) (by repeat (first | exact trivial | refine ⟨rfl, ?_⟩)) rfl ⟨by dsimp only; omega, by dsimp only; omega, by dsimp only; omega, by simp; omega, by dsimp only; rw [← hq]; simp⟩ (by dsimp only; omega)
        · have hb3 : x.cs = false := h3
          rw [hb3, if_neg (by simp)] at hq
          (repeat (first | (apply v_move; exact rfl; exact rfl) | refine run_region ?_ | refine runL_nil ?_ | refine run_skip ?_ | refine run_inBlock ?_ | (apply v_add; exact rfl; exact rfl; exact rfl; exact (by omega))))
          exact v_again ih (i + 1, (lv), lim, out) idN trivial (by repeat (first | exact trivial | refine ⟨rfl, ?_⟩)) (by repeat (first | exact trivial | refine ⟨rfl, ?_⟩)) rfl ⟨by dsimp only; omega, by dsimp only; omega, by dsimp only; omega, by simp; omega, by dsimp only; rw [← hq]; simp⟩ (by dsimp only; omega)
  · have hge : i = xs.length := by have : ¬ i < xs.length := (by simpa using hb); omega
    rw [hge, List.drop_length, seeL, List.append_nil] at hq
    (repeat (first | (apply v_move; exact rfl; exact rfl) | (apply v_assign; exact rfl; exact rfl) | refine run_seq ?_ | refine run_region ?_ | refine runL_nil ?_ | (apply run_exit; exact rfl)))
    exact run_ret (mp [(0, 10)]) _ Try.func175 ⟨_, _, rfl, rfl, rfl⟩ rfl trivial ⟨by rw [← hq]; rfl, trivial⟩ rfl
theorem walk_sr {xs : List St} (lv0 : Int) (hlen : xs.length ≤ 1000) (h0 : -1000 ≤ lv0 ∧ lv0 ≤ 1000) : Fun Try.prog 175 [.sem (listS stE xs), .v (.int .i64 lv0), funV 177, funV 176] [] (.res 0) [(0, .obj (ownS 3 intE (seeL St.cs St.cr xs lv0 lv0)))] := by
  refine fun_intro 43 Try.func175 rfl rfl rfl (fun ι F S w => ?_)
  refine run_le 2 rfl (y := .fn 177 []) (le_fn _) ?_
  refine run_le 3 rfl (y := .fn 176 []) (le_fn _) ?_
  (repeat (first | (apply v_move; exact rfl; exact rfl) | (apply v_assign; exact rfl; exact rfl) | refine run_seq ?_ | refine run_region ?_ | refine runL_nil ?_ | refine run_block ?_ | (apply v_lenL; exact slA rfl; exact rfl; exact rfl)))
  refine run_own 10 10 3 intE rfl rfl rfl rfl ?_
  refine v_loop (fun q : Nat × Int × Int × List Int => ⟨[(1, .v (.int .i64 q.2.1)), (2, .fn 177 []), (3, .fn 176 []), (9, .v (.int .i64 q.2.2.1)), (10, .res 10), (14, .sem (listS stE xs)), (15, .v (.int .i64 xs.length)), (16, .v (.int .i64 q.1))], [(10, .obj (ownS 3 intE q.2.2.2))]⟩) (fun q => q.1 ≤ xs.length ∧ lv0 - q.1 ≤ q.2.1 ∧ q.2.1 ≤ lv0 + q.1 ∧ q.2.2.2.length ≤ q.1 ∧ q.2.2.2 ++ seeL St.cs St.cr (xs.drop q.1) q.2.1 q.2.2.1 = seeL St.cs St.cr xs lv0 lv0) (fun q => xs.length - q.1) (0, lv0, lv0, []) idN trivial (by repeat (first | exact trivial | refine ⟨rfl, ?_⟩)) (by repeat (first | exact trivial | refine ⟨rfl, ?_⟩)) rfl ⟨by simp, by simp, by simp, by simp, rfl⟩ fun ⟨i, lv, lim, out⟩ ⟨hi, hlo, hhi, hol, hq⟩ ih => ?_
  dsimp only at hi hlo hhi hol hq ⊢
  generalize seeL St.cs St.cr xs lv0 lv0 = tot at *
  (repeat (first | refine run_seq ?_ | refine run_region ?_ | refine runL_nil ?_ | (apply v_lss; exact rfl; exact rfl; exact rfl)))
  refine run_cond rfl (fun hb => ?_) (fun hb => ?_)
  · have hlt : i < xs.length := by simpa using hb
    have hx : xs[((i : Int)).toNat]? = some xs[i] := by simp [hlt]
    rw [List.drop_eq_getElem_cons hlt, seeL_cons, min_if] at hq
    generalize xs[i] = x at *
    (repeat (first | (apply v_idxL; exact slA rfl; exact tyA rfl; exact rfl; exact rfl; exact rfl; exact rfl; exact (by omega); (first | exact hx); exact rfl) | (apply v_move; exact rfl; exact rfl) | refine run_seq ?_ | refine run_region ?_ | refine runL_nil ?_ | refine run_skip ?_ | refine run_block ?_ | (apply v_loadB; exact tyA rfl; exact rfl; exact rfl; exact rfl; exact rfl; exact rfl; exact rfl) | (apply v_loadA; exact tyA rfl; exact rfl; exact rfl; exact rfl; exact rfl; exact rfl; exact rfl) | (apply v_allocD; exact tyA rfl; exact rfl; exact rfl; exact rfl; exact rfl) | (apply v_storeW; exact tyA rfl; exact rfl; exact rfl; exact rfl; exact rfl; exact rfl; exact rfl; exact rfl)))
    refine v_cC (l := [.agg (stL x)]) (cap := []) idN (seeslot_f x) rfl rfl (cbA rfl) trivial (by kernel_rfl) (by kernel_rfl) (by kernel_rfl) (by kernel_rfl) (by kernel_rfl) (by kernel_rfl) (by kernel_rfl) (by kernel_rfl) rfl ?_
    (repeat (first | refine runL_nil ?_))
    refine run_cond rfl (fun h1 => ?_) (fun h1 => ?_)
    · have hb1 : x.cs = true := h1
      rw [hb1, show b2i true = 1 from rfl] at hq
      (repeat (first | (apply v_move; exact rfl; exact rfl) | (apply v_assign; exact rfl; exact rfl) | refine run_seq ?_ | refine run_region ?_ | refine runL_nil ?_ | (apply v_leq; exact rfl; exact rfl; exact rfl) | (apply v_add; exact rfl; exact rfl; exact rfl; exact (by omega))))
      refine run_cond rfl (fun h2 => ?_) (fun h2 => ?_)
      · rw [if_pos (by simpa using h2)] at hq
        (repeat (first | (apply v_move; exact rfl; exact rfl) | refine run_region ?_ | (apply v_fldP; exact flA rfl; exact rfl; exact rfl; exact rfl) | (apply v_loadB; exact tyA rfl; exact rfl; exact rfl; exact rfl; exact rfl; exact rfl; exact rfl)))
        refine v_l intE [x.node] (slA rfl) (tyA rfl) rfl rfl rfl rfl rfl rfl rfl rfl rfl rfl ?_
        refine v_appendD (slA rfl) (tyA rfl) rfl rfl rfl rfl rfl rfl rfl (by simp only [List.length_singleton]; omega) rfl rfl rfl rfl ?_
        (repeat (first | (apply v_move; exact rfl; exact rfl) | (apply v_assign; exact rfl; exact rfl) | refine run_seq ?_ | refine run_region ?_ | refine runL_nil ?_ | (apply v_loadB; exact tyA rfl; exact rfl; exact rfl; exact rfl; exact rfl; exact rfl; exact rfl)))
        refine v_cC (l := [.agg (stL x)]) (cap := []) idN (seeroot_f x) rfl rfl (cbA rfl) trivial (by kernel_rfl) (by kernel_rfl) (by kernel_rfl) (by kernel_rfl) (by kernel_rfl) (by kernel_rfl) (by kernel_rfl) (by kernel_rfl) rfl ?_
        (repeat (first | refine runL_nil ?_))
        refine run_cond rfl (fun h3 => ?_) (fun h3 => ?_)
        · have hb3 : x.cr = true := h3
          rw [hb3, if_pos rfl] at hq
          (repeat (first | (apply v_min; exact rfl; exact rfl; exact rfl) | (apply v_move; exact rfl; exact rfl) | (apply v_assign; exact rfl; exact rfl) | refine run_seq ?_ | refine run_region ?_ | refine runL_nil ?_ | refine run_inBlock ?_ | (apply v_add; exact rfl; exact rfl; exact rfl; exact (by omega)) | (apply v_sub; exact rfl; exact rfl; exact rfl; exact (by omega))))
          exact v_again ih (i + 1, (lv + 1 - 1), (if lv + 1 - 1 < lim then lv + 1 - 1 else lim), out ++ [x.node]) (mp [(10, 32)]) trivial (by repeat (first | exact trivial | refine ⟨rfl, ?_⟩)) (by repeat (first | exact trivial | refine ⟨rfl, ?_⟩)) rfl ⟨by dsimp only; omega, by dsimp only; omega, by dsimp only; omega, by simp; omega, by dsimp only; rw [← hq]; simp⟩ (by dsimp only; omega)
        · have hb3 : x.cr = false := h3
          rw [hb3, if_neg (by simp)] at hq
          (repeat (first | (apply v_move; exact rfl; exact rfl) | refine run_region ?_ | refine runL_nil ?_ | refine run_skip ?_ | refine run_inBlock ?_ | (apply v_add; exact rfl; exact rfl; exact rfl; exact (by omega))))
          exact v_again ih (i + 1, (lv + 1), lim, out ++ [x.node]) (mp [(10, 32)]) trivial (by repeat (first | exact trivial | refine ⟨rfl, ?_⟩)) (by repeat (first | exact trivial | refine ⟨rfl, ?_⟩)) rfl ⟨by dsimp only; omega, by dsimp only; omega, by dsimp only; omega, by simp; omega, by dsimp only; rw [← hq]; simp⟩ (by dsimp only; omega)
      · rw [if_neg (by simpa using h2)] at hq
        (repeat (first | (apply v_move; exact rfl; exact rfl) | refine run_seq ?_ | refine run_region ?_ | refine run_skip ?_ | (apply v_loadB; exact tyA rfl; exact rfl; exact rfl; exact rfl; exact rfl; exact rfl; exact rfl)))
        refine v_cC (l := [.agg (stL x)]) (cap := []) idN (seeroot_f x) rfl rfl (cbA rfl) trivial (by kernel_rfl) (by kernel_rfl) (by kernel_rfl) (by kernel_rfl) (by kernel_rfl) (by kernel_rfl) (by kernel_rfl) (by kernel_rfl) rfl ?_
        (repeat (first | refine runL_nil ?_))
        refine run_cond rfl (fun h3 => ?_) (fun h3 => ?_)
        · have hb3 : x.cr = true := h3
          rw [hb3, if_pos rfl] at hq
          (repeat (first | (apply v_min; exact rfl; exact rfl; exact rfl) | (apply v_move; exact rfl; exact rfl) | (apply v_assign; exact rfl; exact rfl) | refine run_seq ?_ | refine run_region ?_ | refine runL_nil ?_ | refine run_inBlock ?_ | (apply v_add; exact rfl; exact rfl; exact rfl; exact (by omega)) | (apply v_sub; exact rfl; exact rfl; exact rfl; exact (by omega))))
          exact v_again ih (i + 1, (lv + 1 - 1), (if lv + 1 - 1 < lim then lv + 1 - 1 else lim), out) idN trivial (by repeat (first | exact trivial | refine ⟨rfl, ?_⟩)) (by repeat (first | exact trivial | refine ⟨rfl, ?_⟩)) rfl ⟨by dsimp only; omega, by dsimp only; omega, by dsimp only; omega, by simp; omega, by dsimp only; rw [← hq]; simp⟩ (by dsimp only; omega)
        · have hb3 : x.cr = false := h3
          rw [hb3, if_neg (by simp)] at hq
          (repeat (first | (apply v_move; exact rfl; exact rfl) | refine run_region ?_ | refine runL_nil ?_ | refine run_skip ?_ | refine run_inBlock ?_ | (apply v_add; exact rfl; exact rfl; exact rfl; exact (by omega))))
          exact v_again ih (i + 1, (lv + 1), lim, out) idN trivial (by repeat (first | exact trivial | refine ⟨rfl, ?_⟩)) (by repeat (first | exact trivial | refine ⟨rfl, ?_⟩)) rfl ⟨by dsimp only; omega, by dsimp only; omega, by dsimp only; omega, by simp; omega, by dsimp only; rw [← hq]; simp⟩ (by dsimp only; omega)
    · have hb1 : x.cs = false := h1
      rw [hb1, show b2i false = 0 from rfl, Int.add_zero] at hq
      (repeat (first | (apply v_move; exact rfl; exact rfl) | refine run_seq ?_ | refine run_region ?_ | refine runL_nil ?_ | refine run_skip ?_ | (apply v_leq; exact rfl; exact rfl; exact rfl)))
      refine run_cond rfl (fun h2 => ?_) (fun h2 => ?_)
      · rw [if_pos (by simpa using h2)] at hq
        (repeat (first | (apply v_move; exact rfl; exact rfl) | refine run_region ?_ | (apply v_fldP; exact flA rfl; exact rfl; exact rfl; exact rfl) | (apply v_loadB; exact tyA rfl; exact rfl; exact rfl; exact rfl; exact rfl; exact rfl; exact rfl)))
        refine v_l intE [x.node] (slA rfl) (tyA rfl) rfl rfl rfl rfl rfl rfl rfl rfl rfl rfl ?_
        refine v_appendD (slA rfl) (tyA rfl) rfl rfl rfl rfl rfl rfl rfl (by simp only [List.length_singleton]; omega) rfl rfl rfl rfl ?_
        (repeat (first | (apply v_move; exact rfl; exact rfl) | (apply v_assign; exact rfl; exact rfl) | refine run_seq ?_ | refine run_region ?_ | refine runL_nil ?_ | (apply v_loadB; exact tyA rfl; exact rfl; exact rfl; exact rfl; exact rfl; exact rfl; exact rfl)))
        refine v_cC (l := [.agg (stL x)]) (cap := []) idN (seeroot_f x) rfl rfl (cbA rfl) trivial (by kernel_rfl) (by kernel_rfl) (by kernel_rfl) (by kernel_rfl) (by kernel_rfl) (by kernel_rfl) (by kernel_rfl) (by kernel_rfl) rfl ?_
        (repeat (first | refine runL_nil ?_))
        refine run_cond rfl (fun h3 => ?_) (fun h3 => ?_)
        · have hb3 : x.cr = true := h3
          rw [hb3, if_pos rfl] at hq
          (repeat (first | (apply v_min; exact rfl; exact rfl; exact rfl) | (apply v_move; exact rfl; exact rfl) | (apply v_assign; exact rfl; exact rfl) | refine run_seq ?_ | refine run_region ?_ | refine runL_nil ?_ | refine run_inBlock ?_ | (apply v_add; exact rfl; exact rfl; exact rfl; exact (by omega)) | (apply v_sub; exact rfl; exact rfl; exact rfl; exact (by omega))))
          exact v_again ih (i + 1, (lv - 1), (if lv - 1 < lim then lv - 1 else lim), out ++ [x.node]) (mp [(10, 32)]) trivial (by repeat (first | exact trivial | refine ⟨rfl, ?_⟩)) (by repeat (first | exact trivial | refine ⟨rfl, ?_⟩)) rfl ⟨by dsimp only; omega, by dsimp only; omega, by dsimp only; omega, by simp; omega, by dsimp only; rw [← hq]; simp⟩ (by dsimp only; omega)
        · have hb3 : x.cr = false := h3
          rw [hb3, if_neg (by simp)] at hq
          (repeat (first | (apply v_move; exact rfl; exact rfl) | refine run_region ?_ | refine runL_nil ?_ | refine run_skip ?_ | refine run_inBlock ?_ | (apply v_add; exact rfl; exact rfl; exact rfl; exact (by omega))))
          exact v_again ih (i + 1, (lv), lim, out ++ [x.node]) (mp [(10, 32)]) trivial (by repeat (first | exact trivial | refine ⟨rfl, ?_⟩)) (by repeat (first | exact trivial | refine ⟨rfl, ?_⟩)) rfl ⟨by dsimp only; omega, by dsimp only; omega, by dsimp only; omega, by simp; omega, by dsimp only; rw [← hq]; simp⟩ (by dsimp only; omega)
      · rw [if_neg (by simpa using h2)] at hq
        (repeat (first | (apply v_move; exact rfl; exact rfl) | refine run_seq ?_ | refine run_region ?_ | refine run_skip ?_ | (apply v_loadB; exact tyA rfl; exact rfl; exact rfl; exact rfl; exact rfl; exact rfl; exact rfl)))
        refine v_cC (l := [.agg (stL x)]) (cap := []) idN (seeroot_f x) rfl rfl (cbA rfl) trivial (by kernel_rfl) (by kernel_rfl) (by kernel_rfl) (by kernel_rfl) (by kernel_rfl) (by kernel_rfl) (by kernel_rfl) (by kernel_rfl) rfl ?_
        (repeat (first | refine runL_nil ?_))
        refine run_cond rfl (fun h3 => ?_) (fun h3 => ?_)
        · have hb3 : x.cr = true := h3
          rw [hb3, if_pos rfl] at hq
          (repeat (first | (apply v_min; exact rfl; exact rfl; exact rfl) | (apply v_move; exact rfl; exact rfl) | (apply v_assign; exact rfl; exact rfl) | refine run_seq ?_ | refine run_region ?_ | refine runL_nil ?_ | refine run_inBlock ?_ | (apply v_add; exact rfl; exact rfl; exact rfl; exact (by omega)) | (apply v_sub; exact rfl; exact rfl; exact rfl; exact (by omega))))
          exact v_again ih (i + 1, (lv - 1), (if lv - 1 < lim then lv - 1 else lim), out) idN trivial (by repeat (first | exact trivial | refine ⟨rfl, ?_⟩)) (by repeat (first | exact trivial | refine ⟨rfl, ?_⟩)) rfl ⟨by dsimp only; omega, by dsimp only; omega, by dsimp only; omega, by simp; omega, by dsimp only; rw [← hq]; simp⟩ (by dsimp only; omega)
        · have hb3 : x.cr = false := h3
          rw [hb3, if_neg (by simp)] at hq
          (repeat (first | (apply v_move; exact rfl; exact rfl) | refine run_region ?_ | refine runL_nil ?_ | refine run_skip ?_ | refine run_inBlock ?_ | (apply v_add; exact rfl; exact rfl; exact rfl; exact (by omega))))
          exact v_again ih (i + 1, (lv), lim, out) idN trivial (by repeat (first | exact trivial | refine ⟨rfl, ?_⟩)) (by repeat (first | exact trivial | refine ⟨rfl, ?_⟩)) rfl ⟨by dsimp only; omega, by dsimp only; omega, by dsimp only; omega, by simp; omega, by dsimp only; rw [← hq]; simp⟩ (by dsimp only; omega)
  · have hge : i = xs.length := by have : ¬ i < xs.length := (by simpa using hb); omega
    rw [hge, List.drop_length, seeL, List.append_nil] at hq
    (repeat (first | (apply v_move; exact rfl; exact rfl) | (apply v_assign; exact rfl; exact rfl) | refine run_seq ?_ | refine run_region ?_ | refine runL_nil ?_ | (apply run_exit; exact rfl)))
    exact run_ret (mp [(0, 10)]) _ Try.func175 ⟨_, _, rfl, rfl, rfl⟩ rfl trivial ⟨by rw [← hq]; rfl, trivial⟩ rfl
theorem clone_st {xs : List St} (hm : xs.length ≤ 1000000) : Fun Try.prog 173 [.sem (listS stE xs)] [] (.res 0) [(0, .obj (ownS 94 stE xs))] := by
  refine fun_intro 8 Try.func173 rfl rfl rfl (fun ι F S w => ?_)
  (repeat (first | (apply v_move; exact rfl; exact rfl) | (apply v_assign; exact rfl; exact rfl) | refine run_seq ?_ | refine run_region ?_ | refine runL_nil ?_))
  refine v_sliceNil sl68 rfl rfl (by decide) fun b hb => ?_
  refine runL_nil ?_
  refine run_cond rfl (fun h => ?_) (fun h => ?_)
  · obtain rfl := hb h
    (repeat (first | (apply v_assign; exact rfl; exact rfl) | refine run_seq ?_ | refine run_region ?_ | refine runL_nil ?_))
    refine run_own 2 2 94 stE rfl rfl rfl rfl ?_
    exact run_ret (mp [(0, 2)]) _ Try.func173 ⟨_, _, rfl, rfl, rfl⟩ rfl trivial ⟨rfl, trivial⟩ rfl
  · (repeat (first | refine run_seq ?_ | refine run_region ?_ | refine run_skip ?_))
    refine v_lO stE [] (slA rfl) (tyA rfl) rfl rfl rfl rfl rfl rfl rfl rfl rfl rfl rfl rfl rfl rfl ?_
    (repeat (first | (apply v_move; exact rfl; exact rfl)))
    refine v_appendD (slA rfl) (tyA rfl) rfl rfl rfl rfl rfl rfl rfl (by simpa using hm) rfl rfl rfl rfl ?_
    (repeat (first | (apply v_assign; exact rfl; exact rfl) | refine runL_nil ?_))
    exact run_ret (mp [(0, 7)]) _ Try.func173 ⟨_, _, rfl, rfl, rfl⟩ rfl trivial ⟨rfl, trivial⟩ rfl
/-- Half of it has been turned round. -/
def HalfR {α : Type} (xs B : List α) (i : Nat) : Prop := B.length = xs.length ∧ ∀ k, k < xs.length → B[k]? = if k < i ∨ xs.length - i ≤ k then xs[xs.length - 1 - k]? else xs[k]?
theorem HalfR.start {α : Type} (xs : List α) : HalfR xs xs 0 := ⟨rfl, fun k hk => by rw [if_neg (by omega)]⟩
theorem HalfR.at {α : Type} {xs B : List α} {i k : Nat} (h : HalfR xs B i) (hk : k < xs.length) (h1 : i ≤ k) (h2 : k < xs.length - i) : B[k]? = xs[k]? := by rw [h.2 k hk, if_neg (by omega)]
theorem HalfR.next {α : Type} {xs B : List α} {i : Nat} {a b : α} (h : HalfR xs B i) (hi : i < xs.length - 1 - i) (ha : xs[i]? = some a) (hb : xs[xs.length - 1 - i]? = some b) : HalfR xs ((B.set i b).set (xs.length - 1 - i) a) (i + 1) := by
  refine ⟨by simp [h.1], fun k hk => ?_⟩
  rw [List.getElem?_set, List.getElem?_set, List.length_set, h.1]
  by_cases e1 : xs.length - 1 - i = k
  · rw [if_pos e1, if_pos (by omega), if_pos (by omega), show xs.length - 1 - k = i by omega, ha]
  · rw [if_neg e1]
    by_cases e2 : i = k
    · rw [if_pos e2, if_pos (by omega), if_pos (by omega), ← e2, hb]
    · rw [if_neg e2, h.2 k hk]
      by_cases e3 : k < i ∨ xs.length - i ≤ k
      · rw [if_pos e3, if_pos (by omega)]
      · rw [if_neg e3, if_neg (by omega)]
theorem HalfR.done {α : Type} {xs B : List α} {i : Nat} (h : HalfR xs B i) (hi : ¬ i < xs.length - 1 - i) : B = xs.reverse := by
  refine List.ext_getElem? fun k => ?_
  by_cases hk : k < xs.length
  · rw [h.2 k hk, List.getElem?_reverse hk]
    split
    · rfl
    · rw [show xs.length - 1 - k = k by omega]
  · rw [List.getElem?_eq_none (by rw [h.1]; omega), List.getElem?_eq_none (by simp; omega)]
theorem rev_i {xs : List Int} (hm : xs.length ≤ 1000000) : Fun Try.prog 178 [.res 0] [(0, .obj (ownS 3 intE xs))] (.tup []) [(0, .obj (ownS 3 intE xs.reverse))] := by
  refine fun_intro 28 Try.func178 rfl rfl rfl (fun ι F S w => ?_)
  (repeat (first | (apply v_move; exact rfl; exact rfl) | (apply v_assign; exact rfl; exact rfl) | refine run_seq ?_ | refine run_region ?_ | refine runL_nil ?_ | refine run_block ?_ | (apply v_lenO; exact slA rfl; exact rfl; exact rfl; exact rfl) | (apply v_sub; exact rfl; exact rfl; exact rfl; exact (by omega))))
  refine v_loop (fun q : Nat × List Int => ⟨[(0, .res 0), (2, .v (.int .i64 q.1)), (3, .v (.int .i64 ((xs.length : Int) - 1 - q.1)))], [(0, .obj (ownS 3 intE q.2))]⟩) (fun q => HalfR xs q.2 q.1 ∧ q.1 ≤ xs.length) (fun q => xs.length - q.1) (0, xs) idN ⟨rfl, trivial⟩ ⟨rfl, rfl, by simp only [Int.natCast_zero, Int.sub_zero]; rfl, trivial⟩ (by repeat (first | exact trivial | refine ⟨rfl, ?_⟩)) rfl ⟨HalfR.start xs, by simp⟩ fun ⟨i, B⟩ ⟨hB, hi⟩ ih => ?_
  dsimp only at hB hi ⊢
  have hBl := hB.1
  (repeat (first | (apply v_move; exact rfl; exact rfl) | refine run_seq ?_ | refine run_region ?_ | refine runL_nil ?_ | (apply v_lss; exact rfl; exact rfl; exact rfl)))
  refine run_cond rfl (fun hb => ?_) (fun hb => ?_)
  · have hlt : i < xs.length - 1 - i := by have := of_decide_eq_true hb; omega
    obtain ⟨a, ha⟩ : ∃ a, xs[i]? = some a := ⟨_, List.getElem?_eq_getElem (by omega)⟩
    obtain ⟨b, hb2⟩ : ∃ b, xs[xs.length - 1 - i]? = some b := ⟨_, List.getElem?_eq_getElem (by omega)⟩
    have hBa := (hB.at (k := i) (by omega) (by omega) (by omega)).trans ha
    have hBb := (hB.at (k := xs.length - 1 - i) (by omega) (by omega) (by omega)).trans hb2
    have hnx := hB.next hlt ha hb2
    have hoff : ((xs.length : Int) - 1 - (i : Int)).toNat = xs.length - 1 - i := by omega
    have hBa2 : B[((i : Int)).toNat]? = some a := hBa
    have hBb2 : B[((xs.length : Int) - 1 - (i : Int)).toNat]? = some b := by rw [hoff]; exact hBb
    (repeat (first | refine run_seq ?_ | refine run_skip ?_ | refine run_block ?_))
    refine run_draws (by kernel_rfl) (by kernel_rfl) ?_
    (repeat (first | (apply p_idxO; exact slA rfl; exact tyA rfl; exact rfl; exact rfl; exact rfl; exact rfl; exact (by omega); exact (by omega); exact rfl; exact rfl) | (apply p_move; exact rfl; exact rfl; exact rfl)))
    refine p_loadO (f := 0) (j := ((xs.length : Int) - 1 - (i : Int)).toNat) (tyA rfl) rfl rfl rfl rfl hBb2 (by decide) rfl rfl rfl ?_
    (repeat (first | (apply p_idxO; exact slA rfl; exact tyA rfl; exact rfl; exact rfl; exact rfl; exact rfl; exact (by omega); exact (by omega); exact rfl; exact rfl) | (apply p_move; exact rfl; exact rfl; exact rfl)))
    refine p_loadO (f := 0) (j := ((i : Int)).toNat) (tyA rfl) rfl rfl rfl rfl hBa2 (by decide) rfl rfl rfl ?_
    (repeat (first | (apply p_idxO; exact slA rfl; exact tyA rfl; exact rfl; exact rfl; exact rfl; exact rfl; exact (by omega); exact (by omega); exact rfl; exact rfl)))
    refine p_storeO (f := 0) (j := ((i : Int)).toNat) b (tyA rfl) rfl rfl rfl rfl hBa2 rfl rfl (by decide) rfl rfl rfl ?_
    have hBs : (B.set ((i : Int)).toNat b)[((xs.length : Int) - 1 - (i : Int)).toNat]? = some b := by rw [List.getElem?_set, if_neg (by omega)]; exact hBb2
    (repeat (first | (apply p_idxO; exact slA rfl; exact tyA rfl; exact rfl; exact rfl; exact rfl; exact rfl; exact (by omega); exact (by rw [List.length_set]; omega); exact rfl; exact rfl)))
    refine p_storeO (f := 0) (j := ((xs.length : Int) - 1 - (i : Int)).toNat) a (tyA rfl) rfl rfl rfl rfl hBs rfl rfl (by decide) rfl rfl rfl ?_
    skip
    refine planL_nil (by kernel_rfl) ?_
    (repeat (first | (apply v_move; exact rfl; exact rfl) | (apply v_assign; exact rfl; exact rfl) | refine run_region ?_ | refine runL_nil ?_ | refine run_inBlock ?_ | (apply v_add; exact rfl; exact rfl; exact rfl; exact (by omega)) | (apply v_sub; exact rfl; exact rfl; exact rfl; exact (by omega))))
    have hset : (B.set ((i : Int)).toNat b).set ((xs.length : Int) - 1 - (i : Int)).toNat a = (B.set i b).set (xs.length - 1 - i) a := by rw [hoff]; rfl
    exact v_again ih (i + 1, (B.set i b).set (xs.length - 1 - i) a) idN ⟨rfl, trivial⟩ ⟨rfl, rfl, by dsimp only; rw [show (xs.length : Int) - 1 - (i : Int) - 1 = (xs.length : Int) - 1 - ((i + 1 : Nat) : Int) by omega]; rfl, trivial⟩ ⟨by rw [← hset]; rfl, trivial⟩ rfl ⟨hnx, by dsimp only; omega⟩ (by dsimp only; omega)
  · have hn : ¬ i < xs.length - 1 - i := by have := of_decide_eq_false hb; omega
    rw [hB.done hn]
    (repeat (first | (apply run_exit; exact rfl)))
    exact run_end idN _ Try.func178 rfl rfl ⟨rfl, trivial⟩ ⟨rfl, trivial⟩ rfl
theorem rev_st {xs : List St} (hm : xs.length ≤ 1000000) : Fun Try.prog 174 [.res 0] [(0, .obj (ownS 94 stE xs))] (.tup []) [(0, .obj (ownS 94 stE xs.reverse))] := by
  refine fun_intro 28 Try.func174 rfl rfl rfl (fun ι F S w => ?_)
  (repeat (first | (apply v_move; exact rfl; exact rfl) | (apply v_assign; exact rfl; exact rfl) | refine run_seq ?_ | refine run_region ?_ | refine runL_nil ?_ | refine run_block ?_ | (apply v_lenO; exact slA rfl; exact rfl; exact rfl; exact rfl) | (apply v_sub; exact rfl; exact rfl; exact rfl; exact (by omega))))
  refine v_loop (fun q : Nat × List St => ⟨[(0, .res 0), (2, .v (.int .i64 q.1)), (3, .v (.int .i64 ((xs.length : Int) - 1 - q.1)))], [(0, .obj (ownS 94 stE q.2))]⟩) (fun q => HalfR xs q.2 q.1 ∧ q.1 ≤ xs.length) (fun q => xs.length - q.1) (0, xs) idN ⟨rfl, trivial⟩ ⟨rfl, rfl, by simp only [Int.natCast_zero, Int.sub_zero]; rfl, trivial⟩ (by repeat (first | exact trivial | refine ⟨rfl, ?_⟩)) rfl ⟨HalfR.start xs, by simp⟩ fun ⟨i, B⟩ ⟨hB, hi⟩ ih => ?_
  dsimp only at hB hi ⊢
  have hBl := hB.1
  (repeat (first | (apply v_move; exact rfl; exact rfl) | refine run_seq ?_ | refine run_region ?_ | refine runL_nil ?_ | (apply v_lss; exact rfl; exact rfl; exact rfl)))
  refine run_cond rfl (fun hb => ?_) (fun hb => ?_)
  · have hlt : i < xs.length - 1 - i := by have := of_decide_eq_true hb; omega
    obtain ⟨a, ha⟩ : ∃ a, xs[i]? = some a := ⟨_, List.getElem?_eq_getElem (by omega)⟩
    obtain ⟨b, hb2⟩ : ∃ b, xs[xs.length - 1 - i]? = some b := ⟨_, List.getElem?_eq_getElem (by omega)⟩
    have hBa := (hB.at (k := i) (by omega) (by omega) (by omega)).trans ha
    have hBb := (hB.at (k := xs.length - 1 - i) (by omega) (by omega) (by omega)).trans hb2
    have hnx := hB.next hlt ha hb2
    have hoff : ((xs.length : Int) - 1 - (i : Int)).toNat = xs.length - 1 - i := by omega
    have hBa2 : B[((i : Int)).toNat]? = some a := hBa
    have hBb2 : B[((xs.length : Int) - 1 - (i : Int)).toNat]? = some b := by rw [hoff]; exact hBb
    (repeat (first | refine run_seq ?_ | refine run_skip ?_ | refine run_block ?_))
    refine run_draws (by kernel_rfl) (by kernel_rfl) ?_
    (repeat (first | (apply p_idxO; exact slA rfl; exact tyA rfl; exact rfl; exact rfl; exact rfl; exact rfl; exact (by omega); exact (by omega); exact rfl; exact rfl) | (apply p_move; exact rfl; exact rfl; exact rfl)))
    refine p_loadO (f := 0) (j := ((xs.length : Int) - 1 - (i : Int)).toNat) (tyA rfl) rfl rfl rfl rfl hBb2 (by decide) rfl rfl rfl ?_
    (repeat (first | (apply p_idxO; exact slA rfl; exact tyA rfl; exact rfl; exact rfl; exact rfl; exact rfl; exact (by omega); exact (by omega); exact rfl; exact rfl) | (apply p_move; exact rfl; exact rfl; exact rfl)))
    refine p_loadO (f := 0) (j := ((i : Int)).toNat) (tyA rfl) rfl rfl rfl rfl hBa2 (by decide) rfl rfl rfl ?_
    (repeat (first | (apply p_idxO; exact slA rfl; exact tyA rfl; exact rfl; exact rfl; exact rfl; exact rfl; exact (by omega); exact (by omega); exact rfl; exact rfl)))
    refine p_storeO (f := 0) (j := ((i : Int)).toNat) b (tyA rfl) rfl rfl rfl rfl hBa2 rfl rfl (by decide) rfl rfl rfl ?_
    have hBs : (B.set ((i : Int)).toNat b)[((xs.length : Int) - 1 - (i : Int)).toNat]? = some b := by rw [List.getElem?_set, if_neg (by omega)]; exact hBb2
    (repeat (first | (apply p_idxO; exact slA rfl; exact tyA rfl; exact rfl; exact rfl; exact rfl; exact rfl; exact (by omega); exact (by rw [List.length_set]; omega); exact rfl; exact rfl)))
    refine p_storeO (f := 0) (j := ((xs.length : Int) - 1 - (i : Int)).toNat) a (tyA rfl) rfl rfl rfl rfl hBs rfl rfl (by decide) rfl rfl rfl ?_
    skip
    refine planL_nil (by kernel_rfl) ?_
    (repeat (first | (apply v_move; exact rfl; exact rfl) | (apply v_assign; exact rfl; exact rfl) | refine run_region ?_ | refine runL_nil ?_ | refine run_inBlock ?_ | (apply v_add; exact rfl; exact rfl; exact rfl; exact (by omega)) | (apply v_sub; exact rfl; exact rfl; exact rfl; exact (by omega))))
    have hset : (B.set ((i : Int)).toNat b).set ((xs.length : Int) - 1 - (i : Int)).toNat a = (B.set i b).set (xs.length - 1 - i) a := by rw [hoff]; rfl
    exact v_again ih (i + 1, (B.set i b).set (xs.length - 1 - i) a) idN ⟨rfl, trivial⟩ ⟨rfl, rfl, by dsimp only; rw [show (xs.length : Int) - 1 - (i : Int) - 1 = (xs.length : Int) - 1 - ((i + 1 : Nat) : Int) by omega]; rfl, trivial⟩ ⟨by rw [← hset]; rfl, trivial⟩ rfl ⟨hnx, by dsimp only; omega⟩ (by dsimp only; omega)
  · have hn : ¬ i < xs.length - 1 - i := by have := of_decide_eq_false hb; omega
    rw [hB.done hn]
    (repeat (first | (apply run_exit; exact rfl)))
    exact run_end idN _ Try.func174 rfl rfl ⟨rfl, trivial⟩ ⟨rfl, trivial⟩ rfl
end Go.Proofs.Ytjkidecaciomgaa
