/- The forest: Name, Want, Tie. -/
import Derived.Test.YtjkidecaciomgaaFo5
namespace Go.Proofs.Ytjkidecaciomgaa
set_option linter.unusedVariables false
set_option linter.unusedSimpArgs false
set_option maxRecDepth 100000
open Go.RowKit

def setN (l : List Nd) (id : Int) (x : Nd) : List Nd := l.set (id - 1).toNat x
def nameM (l : List Nd) (id : Int) (s : ByteArray) : List Nd × Int :=
  match nodeAt l id with
  | none => (l, 1)
  | some x => if namedB s = false then (l, 1) else if x.slot = false then (l, 2) else (setN l id { x with name := s }, 0)
def wantM (l : List Nd) (id : Int) (s : ByteArray) : List Nd × Int :=
  match nodeAt l id with
  | none => (l, 1)
  | some x => if namedB s = false then (l, 1) else if x.kind ≠ 2 then (l, 2) else (setN l id { x with want := s }, 0)
noncomputable def tieM (l : List Nd) (host root : Int) : List Nd × Int :=
  match nodeAt l host, nodeAt l root with
  | some h, some r => if h.kind ≠ 2 ∨ r.kind ≠ 3 then (l, 2) else if h.shadow ≠ 0 ∨ r.host ≠ 0 then (l, 6) else if aboveB l root host = true then (l, 3) else (setN (setN l host { h with shadow := root }) root { r with host := host }, 0)
  | _, _ => (l, 1)
theorem name_f {l : List Nd} (id : Int) {s : ByteArray} (hs : s.size ≤ 9223372036854775807) (hm : l.length ≤ 1000000) : Fun Try.prog 48 [.ptr 0 0, .v (.int .i64 id), .v (.string s)] (forR 1 l) (.v (.int .i64 (nameM l id s).2)) (forR 2 (nameM l id s).1) := by
  cases hx : nodeAt l id with
  | none =>
    have hr : nameM l id s = (l, 1) := by simp [nameM, hx]
    rw [hr]
    refine fun_intro 29 Try.func48 rfl rfl rfl (fun ι F S w => ?_)
    (repeat (first | (apply v_cSx; exact rfl; exact cbA rfl; (first | exact at_mn hx hm); (repeat (first | exact trivial | refine ⟨rfl, ?_⟩)); exact rfl; exact rfl; exact rfl; exact rfl; exact rfl) | (apply v_move; exact rfl; exact rfl) | (apply v_assign; exact rfl; exact rfl) | refine run_seq ?_ | refine run_region ?_ | refine runL_nil ?_ | refine run_block ?_ | (apply v_off; exact rfl; exact rfl) | (apply v_pick_t; exact rfl; exact rfl; exact rfl) | (apply run_cond; exact rfl; rotate_left; (focus (intro hb; cases hb; done)); intro hb; clear hb) | (apply v_nilEql; exact ptA rfl; exact rfl; exact rfl)))
    exact run_ret (mp [(2, 1)]) _ Try.func48 ⟨_, _, rfl, rfl, rfl⟩ rfl ⟨rfl, rfl, trivial⟩ ⟨rfl, rfl, trivial⟩ rfl
  | some x =>
    have hj := (nodeAt_some hx).2.2
    have hr : nameM l id s = if namedB s = false then (l, 1) else if x.slot = false then (l, 2) else (setN l id { x with name := s }, 0) := by simp [nameM, hx]
    rw [hr]
    refine fun_intro 29 Try.func48 rfl rfl rfl (fun ι F S w => ?_)
    (repeat (first | (apply v_cSx; exact rfl; exact cbA rfl; (first | exact at_m hx hm); (repeat (first | exact trivial | refine ⟨rfl, ?_⟩)); exact rfl; exact rfl; exact rfl; exact rfl; exact rfl) | (apply v_cx; exact rfl; exact cbA rfl; (first | exact named_f hs); exact rfl; exact rfl) | (apply v_move; exact rfl; exact rfl) | (apply v_assign; exact rfl; exact rfl) | refine run_seq ?_ | refine run_region ?_ | refine runL_nil ?_ | refine run_block ?_ | (apply v_on; exact rfl) | (apply v_pick_f; exact rfl; exact rfl; exact rfl) | (apply v_not; exact rfl; exact rfl) | (apply v_eqlNil; exact ptA rfl; exact rfl; exact NN.ptr; exact rfl)))
    refine run_cond rfl (fun h => ?_) (fun h => ?_)
    · have h' : namedB s = false := by simpa using h
      rw [if_pos h']
      (repeat (first | (apply v_assign; exact rfl; exact rfl) | refine run_seq ?_ | refine run_region ?_ | refine runL_nil ?_))
      exact run_ret (mp [(2, 1)]) _ Try.func48 ⟨_, _, rfl, rfl, rfl⟩ rfl ⟨rfl, rfl, trivial⟩ ⟨rfl, rfl, trivial⟩ rfl
    · have h' : ¬ namedB s = false := by simpa using h
      rw [if_neg h']
      (repeat (first | (apply v_loadO; exact tyA rfl; exact rfl; exact rfl; exact rfl; exact rfl; (first | exact hj); exact (by decide); exact rfl; exact rfl) | (apply v_move; exact rfl; exact rfl) | (apply v_assign; exact rfl; exact rfl) | refine run_seq ?_ | refine run_region ?_ | refine runL_nil ?_ | (apply v_fldP; exact flA rfl; exact rfl; exact rfl; exact rfl) | (apply v_not; exact rfl; exact rfl) | (apply v_nilCheck; exact rfl; exact NN.ptr; exact rfl)))
      refine run_cond rfl (fun h => ?_) (fun h => ?_)
      · have h' : x.slot = false := by simpa using h
        rw [if_pos h']
        (repeat (first | (apply v_assign; exact rfl; exact rfl) | refine run_seq ?_ | refine run_region ?_ | refine runL_nil ?_))
        exact run_ret (mp [(2, 1)]) _ Try.func48 ⟨_, _, rfl, rfl, rfl⟩ rfl ⟨rfl, rfl, trivial⟩ ⟨rfl, rfl, trivial⟩ rfl
      · have h' : ¬ x.slot = false := by simpa using h
        rw [if_neg h']
        (repeat (first | (apply v_move; exact rfl; exact rfl) | refine run_seq ?_ | refine run_region ?_ | refine run_skip ?_ | refine run_inBlock ?_ | (apply v_fldP; exact flA rfl; exact rfl; exact rfl; exact rfl) | (apply v_nilCheck; exact rfl; exact NN.ptr; exact rfl)))
        refine v_storeO { x with name := s } (tyA rfl) rfl rfl rfl rfl hj rfl rfl (by decide) rfl rfl ?_
        (repeat (first | (apply v_assign; exact rfl; exact rfl) | refine run_seq ?_ | refine run_region ?_ | refine runL_nil ?_))
        exact run_ret (mp [(2, 1)]) _ Try.func48 ⟨_, _, rfl, rfl, rfl⟩ rfl ⟨rfl, rfl, trivial⟩ ⟨rfl, rfl, trivial⟩ rfl
theorem want_f {l : List Nd} (id : Int) {s : ByteArray} (hs : s.size ≤ 9223372036854775807) (hm : l.length ≤ 1000000) : Fun Try.prog 49 [.ptr 0 0, .v (.int .i64 id), .v (.string s)] (forR 1 l) (.v (.int .i64 (wantM l id s).2)) (forR 2 (wantM l id s).1) := by
  cases hx : nodeAt l id with
  | none =>
    have hr : wantM l id s = (l, 1) := by simp [wantM, hx]
    rw [hr]
    refine fun_intro 29 Try.func49 rfl rfl rfl (fun ι F S w => ?_)
    (repeat (first | (apply v_cSx; exact rfl; exact cbA rfl; (first | exact at_mn hx hm); (repeat (first | exact trivial | refine ⟨rfl, ?_⟩)); exact rfl; exact rfl; exact rfl; exact rfl; exact rfl) | (apply v_move; exact rfl; exact rfl) | (apply v_assign; exact rfl; exact rfl) | refine run_seq ?_ | refine run_region ?_ | refine runL_nil ?_ | refine run_block ?_ | (apply v_off; exact rfl; exact rfl) | (apply v_pick_t; exact rfl; exact rfl; exact rfl) | (apply run_cond; exact rfl; rotate_left; (focus (intro hb; cases hb; done)); intro hb; clear hb) | (apply v_nilEql; exact ptA rfl; exact rfl; exact rfl)))
    exact run_ret (mp [(2, 1)]) _ Try.func49 ⟨_, _, rfl, rfl, rfl⟩ rfl ⟨rfl, rfl, trivial⟩ ⟨rfl, rfl, trivial⟩ rfl
  | some x =>
    have hj := (nodeAt_some hx).2.2
    have hr : wantM l id s = if namedB s = false then (l, 1) else if x.kind ≠ 2 then (l, 2) else (setN l id { x with want := s }, 0) := by simp [wantM, hx]
    rw [hr]
    refine fun_intro 29 Try.func49 rfl rfl rfl (fun ι F S w => ?_)
    (repeat (first | (apply v_cSx; exact rfl; exact cbA rfl; (first | exact at_m hx hm); (repeat (first | exact trivial | refine ⟨rfl, ?_⟩)); exact rfl; exact rfl; exact rfl; exact rfl; exact rfl) | (apply v_cx; exact rfl; exact cbA rfl; (first | exact named_f hs); exact rfl; exact rfl) | (apply v_move; exact rfl; exact rfl) | (apply v_assign; exact rfl; exact rfl) | refine run_seq ?_ | refine run_region ?_ | refine runL_nil ?_ | refine run_block ?_ | (apply v_on; exact rfl) | (apply v_pick_f; exact rfl; exact rfl; exact rfl) | (apply v_not; exact rfl; exact rfl) | (apply v_eqlNil; exact ptA rfl; exact rfl; exact NN.ptr; exact rfl)))
    refine run_cond rfl (fun h => ?_) (fun h => ?_)
    · have h' : namedB s = false := by simpa using h
      rw [if_pos h']
      (repeat (first | (apply v_assign; exact rfl; exact rfl) | refine run_seq ?_ | refine run_region ?_ | refine runL_nil ?_))
      exact run_ret (mp [(2, 1)]) _ Try.func49 ⟨_, _, rfl, rfl, rfl⟩ rfl ⟨rfl, rfl, trivial⟩ ⟨rfl, rfl, trivial⟩ rfl
    · have h' : ¬ namedB s = false := by simpa using h
      rw [if_neg h']
      (repeat (first | (apply v_loadO; exact tyA rfl; exact rfl; exact rfl; exact rfl; exact rfl; (first | exact hj); exact (by decide); exact rfl; exact rfl) | (apply v_move; exact rfl; exact rfl) | (apply v_assign; exact rfl; exact rfl) | refine run_seq ?_ | refine run_region ?_ | refine runL_nil ?_ | (apply v_fldP; exact flA rfl; exact rfl; exact rfl; exact rfl) | (apply v_neq; exact rfl; exact rfl; exact rfl) | (apply v_nilCheck; exact rfl; exact NN.ptr; exact rfl)))
      refine run_cond rfl (fun h => ?_) (fun h => ?_)
      · have h' : x.kind ≠ 2 := by simpa using h
        rw [if_pos h']
        (repeat (first | (apply v_assign; exact rfl; exact rfl) | refine run_seq ?_ | refine run_region ?_ | refine runL_nil ?_))
        exact run_ret (mp [(2, 1)]) _ Try.func49 ⟨_, _, rfl, rfl, rfl⟩ rfl ⟨rfl, rfl, trivial⟩ ⟨rfl, rfl, trivial⟩ rfl
      · have h' : ¬ x.kind ≠ 2 := by simpa using h
        rw [if_neg h']
        (repeat (first | (apply v_move; exact rfl; exact rfl) | refine run_seq ?_ | refine run_region ?_ | refine run_skip ?_ | refine run_inBlock ?_ | (apply v_fldP; exact flA rfl; exact rfl; exact rfl; exact rfl) | (apply v_nilCheck; exact rfl; exact NN.ptr; exact rfl)))
        refine v_storeO { x with want := s } (tyA rfl) rfl rfl rfl rfl hj rfl rfl (by decide) rfl rfl ?_
        (repeat (first | (apply v_assign; exact rfl; exact rfl) | refine run_seq ?_ | refine run_region ?_ | refine runL_nil ?_))
        exact run_ret (mp [(2, 1)]) _ Try.func49 ⟨_, _, rfl, rfl, rfl⟩ rfl ⟨rfl, rfl, trivial⟩ ⟨rfl, rfl, trivial⟩ rfl
theorem via {p G : Prop} (h : p) (k : p → G) : G := k h
theorem setN_ne {l : List Nd} {a b : Int} {x y : Nd} (hx : nodeAt l a = some x) (hy : nodeAt l b = some y) (hne : a ≠ b) (z : Nd) : (setN l a z)[(b - 1).toNat]? = some y := by
  have h1 := nodeAt_some hx
  have h2 := nodeAt_some hy
  rw [setN, List.getElem?_set, if_neg (by omega)]
  exact h2.2.2
theorem tie_f {l : List Nd} (hu : Ups l) (host root : Int) (hm : l.length ≤ 1000000) : Fun Try.prog 47 [.ptr 0 0, .v (.int .i64 host), .v (.int .i64 root)] (forR 1 l) (.v (.int .i64 (tieM l host root).2)) (forR 2 (tieM l host root).1) := by
  generalize hT : tieM l host root = T
  cases hx : nodeAt l host with
  | none =>
    obtain rfl : T = (l, 1) := by rw [← hT]; simp [tieM, hx]
    cases hy : nodeAt l root with
    | none =>
      refine fun_intro 61 Try.func47 rfl rfl rfl (fun ι F S w => ?_)
      (repeat (first | (apply v_cSx; exact rfl; exact cbA rfl; (first | exact at_mn hx hm | exact at_mn hy hm); (repeat (first | exact trivial | refine ⟨rfl, ?_⟩)); exact rfl; exact rfl; exact rfl; exact rfl; exact rfl) | (apply v_move; exact rfl; exact rfl) | (apply v_assign; exact rfl; exact rfl) | refine run_seq ?_ | refine run_region ?_ | refine runL_nil ?_ | refine run_block ?_ | (apply v_off; exact rfl; exact rfl) | (apply v_pick_t; exact rfl; exact rfl; exact rfl) | (apply run_cond; exact rfl; rotate_left; (focus (intro hb; cases hb; done)); intro hb; clear hb) | (apply v_nilEql; exact ptA rfl; exact rfl; exact rfl)))
      exact run_ret (mp [(2, 1)]) _ Try.func47 ⟨_, _, rfl, rfl, rfl⟩ rfl ⟨rfl, rfl, trivial⟩ ⟨rfl, rfl, trivial⟩ rfl
    | some y =>
      refine fun_intro 61 Try.func47 rfl rfl rfl (fun ι F S w => ?_)
      (repeat (first | (apply v_cSx; exact rfl; exact cbA rfl; (first | exact at_mn hx hm | exact at_m hy hm); (repeat (first | exact trivial | refine ⟨rfl, ?_⟩)); exact rfl; exact rfl; exact rfl; exact rfl; exact rfl) | (apply v_move; exact rfl; exact rfl) | (apply v_assign; exact rfl; exact rfl) | refine run_seq ?_ | refine run_region ?_ | refine runL_nil ?_ | refine run_block ?_ | (apply v_off; exact rfl; exact rfl) | (apply v_pick_t; exact rfl; exact rfl; exact rfl) | (apply run_cond; exact rfl; rotate_left; (focus (intro hb; cases hb; done)); intro hb; clear hb) | (apply v_nilEql; exact ptA rfl; exact rfl; exact rfl)))
      exact run_ret (mp [(2, 1)]) _ Try.func47 ⟨_, _, rfl, rfl, rfl⟩ rfl ⟨rfl, rfl, trivial⟩ ⟨rfl, rfl, trivial⟩ rfl
  | some x =>
    cases hy : nodeAt l root with
    | none =>
      obtain rfl : T = (l, 1) := by rw [← hT]; simp [tieM, hx, hy]
      refine fun_intro 61 Try.func47 rfl rfl rfl (fun ι F S w => ?_)
      (repeat (first | (apply v_cSx; exact rfl; exact cbA rfl; (first | exact at_m hx hm | exact at_mn hy hm); (repeat (first | exact trivial | refine ⟨rfl, ?_⟩)); exact rfl; exact rfl; exact rfl; exact rfl; exact rfl) | (apply v_move; exact rfl; exact rfl) | (apply v_assign; exact rfl; exact rfl) | refine run_seq ?_ | refine run_region ?_ | refine runL_nil ?_ | refine run_block ?_ | (apply v_on; exact rfl) | (apply v_pick_f; exact rfl; exact rfl; exact rfl) | (apply run_cond; exact rfl; rotate_left; (focus (intro hb; cases hb; done)); intro hb; clear hb) | (apply v_nilEql; exact ptA rfl; exact rfl; exact rfl) | (apply v_eqlNil; exact ptA rfl; exact rfl; exact NN.ptr; exact rfl)))
      exact run_ret (mp [(2, 1)]) _ Try.func47 ⟨_, _, rfl, rfl, rfl⟩ rfl ⟨rfl, rfl, trivial⟩ ⟨rfl, rfl, trivial⟩ rfl
    | some y =>
      have hj := (nodeAt_some hx).2.2
      have hi := (nodeAt_some hy).2.2
      have hT' : T = if x.kind ≠ 2 ∨ y.kind ≠ 3 then (l, 2) else if x.shadow ≠ 0 ∨ y.host ≠ 0 then (l, 6) else if aboveB l root host = true then (l, 3) else (setN (setN l host { x with shadow := root }) root { y with host := host }, 0) := by
        rw [← hT]; simp [tieM, hx, hy]
      clear hT
      have hA := lend 1 rfl rfl (above_f hu root host hm (.inr ⟨x, hx⟩))
      refine fun_intro 61 Try.func47 rfl rfl rfl (fun ι F S w => ?_)
      (repeat' (first | (apply v_cSx; exact rfl; exact cbA rfl; (first | exact at_m hx hm | exact at_m hy hm | exact hA); (repeat (first | exact trivial | refine ⟨rfl, ?_⟩)); exact rfl; exact rfl; exact rfl; exact rfl; exact rfl) | (apply v_loadO; exact tyA rfl; exact rfl; exact rfl; exact rfl; exact rfl; (first | exact hj | exact hi); exact (by decide); exact rfl; exact rfl) | (apply v_move; exact rfl; exact rfl) | (apply v_assign; exact rfl; exact rfl) | refine run_seq ?_ | refine run_region ?_ | refine runL_nil ?_ | refine run_skip ?_ | refine run_block ?_ | refine run_inBlock ?_ | (apply v_fldP; exact flA rfl; exact rfl; exact rfl; exact rfl) | (apply v_on; exact rfl) | (apply v_off; exact rfl; exact rfl) | (apply v_pick_t; exact rfl; exact rfl; exact rfl) | (apply v_pick_f; exact rfl; exact rfl; exact rfl) | (apply run_cond; exact rfl; rotate_left; (focus (intro hb; cases hb; done)); intro hb; clear hb) | (apply run_cond; exact rfl; (focus (intro hb; cases hb; done)); intro hb; clear hb) | (apply v_neq; exact rfl; exact rfl; exact rfl) | (apply v_eqlNil; exact ptA rfl; exact rfl; exact NN.ptr; exact rfl) | (apply v_nilCheck; exact rfl; exact NN.ptr; exact rfl) | (apply v_gsplit; exact rfl; exact rfl; exact rfl; all_goals intro hb) | (apply run_cond; exact rfl; all_goals intro hb)))
      all_goals first
        | (refine via (p := T = (l, 2)) ?_ ?_; (focus (rw [hT']; simp_all; done)); intro hT2; clear hT'; subst hT2; exact run_ret (mp [(2, 1)]) _ Try.func47 ⟨_, _, rfl, rfl, rfl⟩ rfl ⟨rfl, rfl, trivial⟩ ⟨rfl, rfl, trivial⟩ rfl)
        | (refine via (p := T = (l, 6)) ?_ ?_; (focus (rw [hT']; simp_all; done)); intro hT2; clear hT'; subst hT2; exact run_ret (mp [(2, 1)]) _ Try.func47 ⟨_, _, rfl, rfl, rfl⟩ rfl ⟨rfl, rfl, trivial⟩ ⟨rfl, rfl, trivial⟩ rfl)
        | (refine via (p := T = (l, 3)) ?_ ?_; (focus (rw [hT']; simp_all; done)); intro hT2; clear hT'; subst hT2; exact run_ret (mp [(2, 1)]) _ Try.func47 ⟨_, _, rfl, rfl, rfl⟩ rfl ⟨rfl, rfl, trivial⟩ ⟨rfl, rfl, trivial⟩ rfl)
        | skip
      have hne : host ≠ root := fun e => by
        subst e
        rw [hx] at hy
        cases hy
        simp_all
      have hT2 : T = (setN (setN l host { x with shadow := root }) root { y with host := host }, 0) := by rw [hT']; simp_all
      clear hT'
      subst hT2
      refine v_storeO { x with shadow := root } (tyA rfl) rfl rfl rfl rfl hj rfl rfl (by decide) rfl rfl ?_
      (repeat (first | (apply v_fldP; exact flA rfl; exact rfl; exact rfl; exact rfl) | (apply v_nilCheck; exact rfl; exact NN.ptr; exact rfl)))
      refine v_storeO { y with host := host } (tyA rfl) rfl rfl rfl rfl (setN_ne hx hy hne _) rfl rfl (by decide) rfl rfl ?_
      (repeat (first | (apply v_assign; exact rfl; exact rfl) | refine run_seq ?_ | refine run_region ?_ | refine runL_nil ?_))
      exact run_ret (mp [(2, 1)]) _ Try.func47 ⟨_, _, rfl, rfl, rfl⟩ rfl ⟨rfl, rfl, trivial⟩ ⟨rfl, rfl, trivial⟩ rfl
end Go.Proofs.Ytjkidecaciomgaa
