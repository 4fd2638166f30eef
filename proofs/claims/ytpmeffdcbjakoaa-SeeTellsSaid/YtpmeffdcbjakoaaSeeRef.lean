/- towncrierref15: place, Level. -/
import Derived.Test.YtpmeffdcbjakoaaSee
namespace Go.Proofs.Ytpmeffdcbjakoaa
set_option linter.unusedVariables false
set_option linter.unusedSimpArgs false
open Go.RowKit

theorem placeP_at (xs : List St) (node : Int) (k : Nat) (hk : k < xs.length) (hall : ∀ j, j < k → (backF xs j).2.node ≠ node) (he : (backF xs k).2.node = node) :
    placeP xs node = (((xs.length - 1 - k : Nat) : Int), net (upto (backF xs) k) + b2i (backF xs k).2.croot) := by
  obtain ⟨r, hr⟩ := upto_prefix (backF xs) (k := k + 1) (n := xs.length) hk
  unfold placeP
  rw [hr, upto_succ, List.append_assoc, plL_append node (upto (backF xs) k) _ 0 (fun p hp => by
    simp only [upto, List.mem_map, List.mem_range] at hp
    obtain ⟨j, hj, rfl⟩ := hp
    exact hall j hj)]
  simp only [List.cons_append, List.nil_append, plL]
  rw [if_pos he, Int.zero_add]; rfl
theorem placeP_no (xs : List St) (node : Int) (hall : ∀ j, j < xs.length → (backF xs j).2.node ≠ node) : placeP xs node = (-1, 0) := by
  unfold placeP
  have := plL_append node (upto (backF xs) xs.length) [] 0 (fun p hp => by
    simp only [upto, List.mem_map, List.mem_range] at hp
    obtain ⟨j, hj, rfl⟩ := hp
    exact hall j hj)
  rw [List.append_nil] at this
  rw [this]; rfl

set_option maxRecDepth 100000 in
set_option maxHeartbeats 2000000 in
theorem refplace_calls (A : Option Addr) (cap : Nat) (xs : List St) (node : Int) (hlen : xs.length ≤ 1000) (w : World) (hI : StAt w A xs) :
    Calls Try.prog 64 #[.slice A xs.length cap, .int .i64 node] w fun e w' => e = .returned (.tuple #[.int .i64 (placeP xs node).1, .int .i64 (placeP xs node).2]) ∧ w' = w := by
  have HI := Lib.hid hI
  clear hI
  go_enter Try.func64, Try.ntmps64
  go_wp2
  go_loop [6, 7] (fun lv iv => ∃ k : Nat, k ≤ xs.length ∧ lv = .int .i64 (net (upto (backF xs) k)) ∧ iv = .int .i64 ((xs.length : Int) - 1 - k) ∧ ∀ j, j < k → (backF xs j).2.node ≠ node) (fun _ iv => (intOf iv + 1).toNat)
  case atStart => exact ⟨0, by omega, rfl, by go_num, fun j hj => by omega⟩
  case round =>
    obtain ⟨k, hk, rfl, rfl, hall⟩ := hrel
    have hb := net_bound (upto (backF xs) k)
    rw [upto_length] at hb
    by_cases hlt : k < xs.length
    · have hP := placeP_at xs node k hlt hall
      have hn : net (upto (backF xs) (k + 1)) = net (upto (backF xs) k) + (b2i (backF xs k).2.croot - b2i (backF xs k).2.cslot) := by
        rw [upto_succ, net_append]; simp [net]
      have hall' : ¬ (backF xs k).2.node = node → ∀ j, j < k + 1 → (backF xs j).2.node ≠ node := fun h j hj => by
        by_cases e : j = k
        · subst e; exact h
        · exact hall j (by omega)
      obtain ⟨i, hi⟩ : ∃ i : Nat, i = xs.length - 1 - k := ⟨_, rfl⟩
      have hb2 : (backF xs k).2 = xs.getD i default := by unfold backF; rw [hi]
      have hiv : (xs.length : Int) - 1 - (k : Int) = (i : Int) := by omega
      rw [hb2, ← hi] at hP
      rw [hb2] at hn hall'
      rw [hiv]
      have hil : i < xs.length := by omega
      obtain ⟨b, off, rfl, a0, a1, a2, a3, a4⟩ := HI.out.get hil
      generalize net (upto (backF xs) k) = nk at *
      generalize xs.getD i default = x at *
      obtain ⟨xn, xt, xr, xc, xs'⟩ := x
      simp only at a0 a1 a2 a3 a4 hP hn hall'
      have HP := Lib.hid hP
      have HN := Lib.hid hn
      have HA := Lib.hid hall'
      have HIV := Lib.hid hiv
      have HIE := Lib.hid hi
      clear hP hn hall' hall hb2 hiv hi
      by_cases he : xn = node
      · have HP2 := Lib.hid (HP.out he)
        have HE := Lib.hid he
        have he' : (xn == node) = true := by simp [he]
        clear HP HA HN he
        cases xc
        · go_wp2
          go_ret2
          refine ⟨?_, rfl⟩
          rw [HP2.out]
          simp [b2i]
        · go_wp2
          go_ret2
          refine ⟨?_, rfl⟩
          rw [HP2.out]
          simp [b2i]
      · have HA2 := Lib.hid (HA.out he)
        have HE := Lib.hid he
        have he' : (xn == node) = false := by simp [he]
        clear HP HA he
        cases xc <;> cases xs'
        all_goals
          go_wp2
          go_round
          case rel =>
            have e1 := HN.out
            have e2 := HIV.out
            exact ⟨k + 1, by omega, by rw [e1]; simp [b2i]; try omega, by go_num, HA2.out⟩
          case measure => simp [intOf] <;> omega
    · obtain rfl : k = xs.length := by omega
      have HP := Lib.hid (placeP_no xs node hall)
      clear hall
      go_wp2
      go_ret2
      exact ⟨by rw [HP.out]; rfl, rfl⟩

theorem reflevel_calls (A : Option Addr) (cap : Nat) (xs : List St) (node : Int) (hlen : xs.length ≤ 1000) (w : World) (hI : StAt w A xs) :
    Calls Try.prog 42 #[.slice A xs.length cap, .int .i64 node] w fun e w' => e = .returned (.int .i64 (placeP xs node).2) ∧ w' = w := by
  go_enter Try.func42, Try.ntmps42
  go_wp2_with (go_at_call 64; refine (refplace_calls A cap xs node hlen w hI).mono ?_; rintro e w1 ⟨rfl, rfl⟩)
  go_ret
  exact ⟨rfl, rfl⟩

/-- The levels of a walk, reckoned by index. -/
def stF (more less : Nat → Bool) (lv lim : Int) : Nat → Int × Int
  | 0 => (lv, lim)
  | j + 1 => if less j = true then ((stF more less lv lim j).1 + b2i (more j) - 1, min (stF more less lv lim j).2 ((stF more less lv lim j).1 + b2i (more j) - 1))
    else ((stF more less lv lim j).1 + b2i (more j), (stF more less lv lim j).2)
def mkF (more less : Nat → Bool) (lv lim : Int) (j : Nat) : Bool := decide ((stF more less lv lim j).1 + b2i (more j) ≤ (stF more less lv lim j).2)
theorem stF_shift (more less : Nat → Bool) (lv lim : Int) (j : Nat) : stF more less lv lim (j + 1) = stF (fun k => more (k + 1)) (fun k => less (k + 1)) (stF more less lv lim 1).1 (stF more less lv lim 1).2 j := by
  induction j with
  | zero => rfl
  | succ j ih => conv => lhs; rw [stF, ih]
                 rfl
theorem stF_bound (more less : Nat → Bool) (lv lim : Int) (j : Nat) : lv - j ≤ (stF more less lv lim j).1 ∧ (stF more less lv lim j).1 ≤ lv + j := by
  induction j with
  | zero => simp [stF]
  | succ j ih =>
    have hb : 0 ≤ b2i (more j) ∧ b2i (more j) ≤ 1 := by unfold b2i; split <;> omega
    rw [stF]; split <;> simp only <;> omega
theorem seeL_filter (more less : St → Bool) (xs : List St) : ∀ lv lim : Int, seeL more less xs lv lim =
    ((List.range xs.length).filter (mkF (fun k => more (xs.getD k default)) (fun k => less (xs.getD k default)) lv lim)).map (fun k => (xs.getD k default).node) := by
  induction xs with
  | nil => intro lv lim; rfl
  | cons x r ih =>
    intro lv lim
    have e : ∀ k, mkF (fun k => more ((x :: r).getD k default)) (fun k => less ((x :: r).getD k default)) lv lim (k + 1) =
        mkF (fun k => more (r.getD k default)) (fun k => less (r.getD k default)) (if less x = true then lv + b2i (more x) - 1 else lv + b2i (more x)) (if less x = true then min lim (lv + b2i (more x) - 1) else lim) k := fun k => by
      unfold mkF
      rw [stF_shift]
      simp only [stF, List.getD_cons_zero, List.getD_cons_succ]
      split <;> rfl
    have e1 : (if less x = true then seeL more less r (lv + b2i (more x) - 1) (min lim (lv + b2i (more x) - 1)) else seeL more less r (lv + b2i (more x)) lim) =
        seeL more less r (if less x = true then lv + b2i (more x) - 1 else lv + b2i (more x)) (if less x = true then min lim (lv + b2i (more x) - 1) else lim) := by split <;> rfl
    have e2 : mkF (fun k => more ((x :: r).getD k default)) (fun k => less ((x :: r).getD k default)) lv lim 0 = decide (lv + b2i (more x) ≤ lim) := rfl
    rw [seeL_cons, e1, ih, List.length_cons, List.range_succ_eq_map, List.filter_cons, List.filter_map, e2]
    rw [show (mkF (fun k => more ((x :: r).getD k default)) (fun k => less ((x :: r).getD k default)) lv lim ∘ Nat.succ) = _ from funext e]
    by_cases h : lv + b2i (more x) ≤ lim
    · rw [if_pos h, decide_eq_true h]; simp only [if_true, List.map_cons, List.map_map]; rfl
    · rw [if_neg h, decide_eq_false h]; simp only [Bool.false_eq_true, if_false, List.map_map]; rfl

/-- Which entries are seen, by index. -/
def marks (xs : List St) (a : Nat) (lv : Int) (k : Nat) : Bool :=
  if k = a then true
  else if k < a then mkF (fun j => (xs.getD (a - 1 - j) default).croot) (fun j => (xs.getD (a - 1 - j) default).cslot) lv lv (a - 1 - k)
  else mkF (fun j => (xs.getD (a + 1 + j) default).cslot) (fun j => (xs.getD (a + 1 + j) default).croot) lv lv (k - (a + 1))
theorem mkF_congr {m1 m2 l1 l2 : Nat → Bool} {lv lim : Int} {j : Nat} (h1 : ∀ k, k ≤ j → m1 k = m2 k) (h2 : ∀ k, k < j → l1 k = l2 k) : mkF m1 l1 lv lim j = mkF m2 l2 lv lim j := by
  have : ∀ i, i ≤ j → stF m1 l1 lv lim i = stF m2 l2 lv lim i := by
    intro i
    induction i with
    | zero => intro _; rfl
    | succ i ih => intro hi; rw [stF, stF, ih (by omega), h1 i (by omega), h2 i (by omega)]
  unfold mkF
  rw [this j (Nat.le_refl _), h1 j (Nat.le_refl _)]
theorem range_reverse (n : Nat) : (List.range n).reverse = (List.range n).map (fun k => n - 1 - k) := by
  apply List.ext_getElem
  · simp
  · intro i h1 h2
    simp at h1 h2 ⊢
theorem seen_marks (xs : List St) (a : Nat) (lv : Int) (node : Int) (ha : a < xs.length) (hp : placeP xs node = ((a : Int), lv)) (hn : (xs.getD a default).node = node) :
    seenP xs node = ((List.range xs.length).filter (marks xs a lv)).map (fun k => (xs.getD k default).node) := by
  have hr : ∀ j, j < a → (xs.take a).reverse.getD j default = xs.getD (a - 1 - j) default := fun j hj => by
    rw [List.getD_eq_getElem?_getD, List.getD_eq_getElem?_getD, List.getElem?_reverse (by rw [List.length_take]; omega), List.length_take, Nat.min_eq_left (by omega), List.getElem?_take, if_pos (by omega)]
  have hd : ∀ j, (xs.drop (a + 1)).getD j default = xs.getD (a + 1 + j) default := fun j => by
    rw [List.getD_eq_getElem?_getD, List.getD_eq_getElem?_getD, List.getElem?_drop]
  have e0 : List.range xs.length = List.range a ++ ([a] ++ (List.range (xs.length - (a + 1))).map (fun j => a + 1 + j)) := by
    conv => lhs; rw [show xs.length = a + 1 + (xs.length - (a + 1)) by omega, List.range_add, List.range_succ, List.append_assoc]
  unfold seenP
  rw [hp, if_neg (by simp), Int.toNat_natCast, e0, List.filter_append, List.filter_append, List.map_append, List.map_append, List.append_assoc]
  congr 1
  · rw [seeL_filter, ← List.map_reverse, ← List.filter_reverse, List.length_reverse, List.length_take, Nat.min_eq_left (by omega), range_reverse, List.filter_map, List.map_map]
    have e1 : (List.range a).filter (mkF (fun k => ((xs.take a).reverse.getD k default).croot) (fun k => ((xs.take a).reverse.getD k default).cslot) lv lv ∘ fun k => a - 1 - k) = (List.range a).filter (marks xs a lv) := by
      refine List.filter_congr fun k hk => ?_
      have hk := List.mem_range.1 hk
      unfold marks
      rw [if_neg (by omega), if_pos hk]
      show mkF _ _ lv lv (a - 1 - k) = _
      exact mkF_congr (fun j hj => by rw [hr j (by omega)]) (fun j hj => by rw [hr j (by omega)])
    rw [e1]
    refine List.map_congr_left fun k hk => ?_
    have hk := List.mem_range.1 (List.mem_filter.1 hk).1
    show ((xs.take a).reverse.getD (a - 1 - k) default).node = _
    rw [hr _ (by omega), show a - 1 - (a - 1 - k) = k by omega]
  · congr 1
    · have : marks xs a lv a = true := by unfold marks; rw [if_pos rfl]
      rw [List.filter_cons, this, if_pos rfl, List.filter_nil, List.map_cons, List.map_nil, hn]
    · rw [seeL_filter, List.length_drop, List.filter_map, List.map_map]
      have e1 : (List.range (xs.length - (a + 1))).filter (mkF (fun k => ((xs.drop (a + 1)).getD k default).cslot) (fun k => ((xs.drop (a + 1)).getD k default).croot) lv lv) = (List.range (xs.length - (a + 1))).filter (marks xs a lv ∘ fun j => a + 1 + j) := by
        refine List.filter_congr fun k hk => ?_
        show _ = marks xs a lv (a + 1 + k)
        unfold marks
        rw [if_neg (by omega), if_neg (by omega), show a + 1 + k - (a + 1) = k by omega]
        exact mkF_congr (fun j hj => by rw [hd j]) (fun j hj => by rw [hd j])
      rw [e1]
      refine List.map_congr_left fun k hk => ?_
      show ((xs.drop (a + 1)).getD k default).node = _
      rw [hd]; rfl
end Go.Proofs.Ytpmeffdcbjakoaa
