/- towncrierref15.From. -/
import Derived.Test.YtpmeffdcbjakoaaSeeRef
import Derived.Test.YtpmeffdcbjakoaaSeePart
namespace Go.Proofs.Ytpmeffdcbjakoaa
set_option linter.unusedVariables false
set_option linter.unusedSimpArgs false
open Go.RowKit

theorem info_bool : (Try.prog.info? 4).map (fun i => (i.zero, i.size, i.bytes)) = some (some (.bool false), 1, 1) := by kernel_rfl
/-- A row of marks. -/
def MarksAt (w : World) (g n : Nat) (M : Nat → Bool) : Prop := ∃ cr, Blk w g 4 cr ∧ cr.size = n ∧ ∀ k, k < n → cr[k]? = some (.bool (M k))
theorem MarksAt.set {w : World} {g n : Nat} {M : Nat → Bool} (h : MarksAt w g n M) (i : Nat) (hi : i < n) (b : Bool) (M' : Nat → Bool) (hM : ∀ k, k < n → M' k = if k = i then b else M k) : MarksAt (w.setCell ⟨g, i, none⟩ (.bool b)) g n M' := by
  obtain ⟨cr, h1, h2, h3⟩ := h
  refine ⟨_, h1.set_ i (.bool b), by simp [h2], fun k hk => ?_⟩
  rw [Array.getElem?_setIfInBounds, hM k hk]
  by_cases e : k = i
  · subst e; rw [if_pos rfl, if_pos rfl, if_pos (by omega)]
  · rw [if_neg (Ne.symm e), if_neg e, h3 k hk]
theorem MarksAt.cell {w : World} {g n : Nat} {M : Nat → Bool} (h : MarksAt w g n M) {k : Nat} (hk : k < n) : w.cell? ⟨g, k, none⟩ = some (.bool (M k)) := by
  obtain ⟨cr, h1, h2, h3⟩ := h
  rw [h1.cell, h3 k hk]
theorem MarksAt.alloc {w : World} {g n : Nat} {M : Nat → Bool} (h : MarksAt w g n M) (o : Obj) : MarksAt (w.alloc o) g n M := by
  obtain ⟨cr, h1, h2, h3⟩ := h
  exact ⟨cr, h1.alloc o, h2, h3⟩
theorem MarksAt.grown {w w' : World} {g n : Nat} {M : Nat → Bool} (h : MarksAt w g n M) {B : Nat} {v : Value} {xs : List Int} (ho : OwnI w B v xs) (hg : w.grownBy w' v.ownBlock) : MarksAt w' g n M := by
  obtain ⟨cr, h1, h2, h3⟩ := h
  exact ⟨cr, h1.grown hg (blk_ne_own h1 ho (by decide)), h2, h3⟩
theorem MarksAt.frozen {w : World} {g n : Nat} {M : Nat → Bool} (h : MarksAt w g n M) (k : Nat) : w.frozen? ⟨g, k, none⟩ = false := by
  obtain ⟨cr, h1, h2, h3⟩ := h
  exact h1.frozen k
theorem MarksAt.congr {w : World} {g n : Nat} {M M' : Nat → Bool} (h : MarksAt w g n M) (hM : ∀ k, k < n → M' k = M k) : MarksAt w g n M' := by
  obtain ⟨cr, h1, h2, h3⟩ := h
  exact ⟨cr, h1, h2, fun k hk => by rw [hM k hk, h3 k hk]⟩
theorem made_get (k n : Nat) (hk : k < n) : (madeCells (Value.bool false).cells (n * 1)).toList[k]? = some (.bool false) := by
  rw [Array.getElem?_toList]
  unfold madeCells
  rw [Array.getElem?_map, Array.getElem?_range, if_pos (by omega)]
  show some ((#[Value.bool false] : Array Value)[k % 1]!) = _
  rw [Nat.mod_one]; rfl
theorem MarksAt.made {w : World} {B g n : Nat} (h : w.ownsRow B 4 1 (.slice (some ⟨g, 0, none⟩) n n) n (madeCells (Value.bool false).cells (n * 1)).toList) (hn : 0 < n) : MarksAt w g n (fun _ => false) := by
  rcases h.2 with ⟨h, _⟩ | ⟨g', cap, cur, hv, _, hh, hnc, hcm, hsz, ht⟩
  · cases h
  · cases hv
    refine ⟨cur, hh, by simpa using hsz, fun k hk => ?_⟩
    have : (cur.toList.take (n * 1))[k]? = (madeCells (Value.bool false).cells (n * 1)).toList[k]? := by rw [ht]
    rw [List.getElem?_take, if_pos (by omega), Array.getElem?_toList] at this
    rw [this]
    exact made_get k n hk

def upB (xs : List St) (a j : Nat) : Bool := (xs.getD (a - 1 - j) default).croot
def dnB (xs : List St) (a j : Nat) : Bool := (xs.getD (a - 1 - j) default).cslot
def upF (xs : List St) (a j : Nat) : Bool := (xs.getD (a + 1 + j) default).cslot
def dnF (xs : List St) (a j : Nat) : Bool := (xs.getD (a + 1 + j) default).croot
def M1 (xs : List St) (a : Nat) (lv : Int) (j k : Nat) : Bool := if k = a then true else if k < a ∧ a - 1 - k < j then mkF (upB xs a) (dnB xs a) lv lv (a - 1 - k) else false
def M2 (xs : List St) (a : Nat) (lv : Int) (j k : Nat) : Bool := if k ≤ a then M1 xs a lv a k else if k - (a + 1) < j then mkF (upF xs a) (dnF xs a) lv lv (k - (a + 1)) else false
theorem M1_zero (xs : List St) (a : Nat) (lv : Int) (k : Nat) : M1 xs a lv 0 k = if k = a then true else false := by
  unfold M1; by_cases h : k = a
  · rw [if_pos h, if_pos h]
  · rw [if_neg h, if_neg h, if_neg (by omega)]
theorem M1_step (xs : List St) (a : Nat) (lv : Int) (j : Nat) (hj : j < a) (k : Nat) : M1 xs a lv (j + 1) k = if k = a - 1 - j then mkF (upB xs a) (dnB xs a) lv lv j else M1 xs a lv j k := by
  unfold M1
  by_cases h : k = a - 1 - j
  · rw [if_pos h, if_neg (by omega), if_pos (by omega), show a - 1 - k = j by omega]
  · rw [if_neg h]
    by_cases h2 : k = a
    · rw [if_pos h2, if_pos h2]
    · rw [if_neg h2, if_neg h2]
      by_cases h3 : k < a ∧ a - 1 - k < j
      · rw [if_pos h3, if_pos (by omega)]
      · rw [if_neg h3, if_neg (by omega)]
theorem M2_zero (xs : List St) (a : Nat) (lv : Int) (k : Nat) : M2 xs a lv 0 k = M1 xs a lv a k := by
  unfold M2
  by_cases h : k ≤ a
  · rw [if_pos h]
  · rw [if_neg h, if_neg (by omega)]; unfold M1; rw [if_neg (by omega), if_neg (by omega)]
theorem M2_step (xs : List St) (a : Nat) (lv : Int) (j : Nat) (_ : j < xs.length) (k : Nat) : M2 xs a lv (j + 1) k = if k = a + 1 + j then mkF (upF xs a) (dnF xs a) lv lv j else M2 xs a lv j k := by
  unfold M2
  by_cases h : k = a + 1 + j
  · rw [if_pos h, if_neg (by omega), if_pos (by omega), show k - (a + 1) = j by omega]
  · rw [if_neg h]
    by_cases h2 : k ≤ a
    · rw [if_pos h2, if_pos h2]
    · rw [if_neg h2, if_neg h2]
      by_cases h3 : k - (a + 1) < j
      · rw [if_pos h3, if_pos (by omega)]
      · rw [if_neg h3, if_neg (by omega)]
theorem M2_marks (xs : List St) (a : Nat) (lv : Int) (k : Nat) (hk : k < xs.length) : M2 xs a lv (xs.length - (a + 1)) k = marks xs a lv k := by
  unfold M2 marks
  by_cases h : k = a
  · rw [if_pos (by omega), if_pos h]; unfold M1; rw [if_pos h]
  · rw [if_neg h]
    by_cases h2 : k < a
    · rw [if_pos (by omega), if_pos h2]; unfold M1; rw [if_neg h, if_pos (by omega)]; rfl
    · rw [if_neg (by omega), if_neg h2, if_pos (by omega)]; rfl
theorem stF_succ (more less : Nat → Bool) (lv : Int) (j : Nat) : stF more less lv lv (j + 1) = if less j = true then ((stF more less lv lv j).1 + b2i (more j) - 1, min (stF more less lv lv j).2 ((stF more less lv lv j).1 + b2i (more j) - 1)) else ((stF more less lv lv j).1 + b2i (more j), (stF more less lv lv j).2) := rfl

set_option maxRecDepth 100000 in
set_option maxHeartbeats 4000000 in
theorem reffrom_calls (A : Option Addr) (cap : Nat) (xs : List St) (node : Int) (hlen : xs.length ≤ 1000) (w : World) (hI : StAt w A xs) :
    Calls Try.prog 41 #[.slice A xs.length cap, .int .i64 node] w fun e w' => ∃ v, e = .returned v ∧ OwnI w' w.heap.size v (seenP xs node) ∧ Below w.heap.size w w' := by
  rcases placeP_spec xs node with ⟨h, h2⟩ | ⟨a, ha, hn, h⟩
  · have H := refplace_calls A cap xs node hlen w hI
    have e1 : seenP xs node = [] := by unfold seenP; rw [h]; rfl
    rw [h] at H
    rw [e1]
    have H1 := Lib.hid H
    clear H h e1 h2
    go_enter Try.func41, Try.ntmps41
    go_wp2_with (go_at_call 64; refine H1.out.mono ?_; rintro e w1 ⟨rfl, hw1⟩; subst hw1)
    go_ret
    exact ⟨_, rfl, OwnI.nil _ _, Below.refl _ _⟩
  · obtain ⟨lv, hlv⟩ : ∃ lv, lv = (placeP xs node).2 := ⟨_, rfl⟩
    have hp : placeP xs node = ((a : Int), lv) := by rw [hlv, ← h]
    have hb : -(xs.length : Int) ≤ lv ∧ lv ≤ xs.length := by
      rcases placeP_cases xs node with h1 | ⟨m, z, _, h1, h2, h3⟩
      · rw [h1] at h; simp at h <;> omega
      · rw [h1] at hp; cases hp; exact ⟨h2, h3⟩
    have H := refplace_calls A cap xs node hlen w hI
    rw [hp] at H
    have hM := seen_marks xs a lv node ha hp hn
    rw [hM]
    obtain ⟨i0, hi, hz0, hz1, hz2⟩ := info_parts info_bool
    have H1 := Lib.hid H
    have HI := Lib.hid hI
    have HLV := Lib.hid hlv
    clear H hM hp h hlv hI
    go_enter Try.func41, Try.ntmps41
    go_wp2_with (first
      | (go_at_call 64; refine H1.out.mono ?_; rintro e w1 ⟨rfl, hw1⟩; subst hw1)
      | (at_make; refine wpList_make_full _ rfl _ _ 96 rfl w1.heap.size 4 i0 (.bool false) 1 Try.underlying96 hi hz0 hz1 .i64 .i64 _ _ xs.length rfl rfl rfl rfl (by rw [hz2]; omega) (by unfold maxLen; omega) (Nat.le_refl _) ?_; intro w2 hown hgr; have hm2 := MarksAt.made hown (by omega); have hmf := fun k => hm2.frozen k; have hmc := hm2.cell ha; have hB2 : Below w1.heap.size w1 w2 := (Below.refl _ _).grown hgr (Nat.le_refl _) (fun q hq => by cases hq); have hM2 := Lib.hid hm2; have HB2 := Lib.hid hB2; clear hown hgr hm2 hB2))
    have HS1 := Lib.hid (hM2.out.set a ha true (M1 xs a lv 0) (fun k _ => M1_zero xs a lv k))
    have HB1 := Lib.hid (HB2.out.setCell (p := ⟨w1.heap.size, a, none⟩) (Nat.le_refl _) (.bool true))
    clear hmf hmc hM2 HB2
    go_loopw [8, 9, 10] (fun l8 l9 iv wr => ∃ j : Nat, j ≤ a ∧ l8 = .int .i64 (stF (upB xs a) (dnB xs a) lv lv j).1 ∧ l9 = .int .i64 (stF (upB xs a) (dnB xs a) lv lv j).2 ∧ iv = .int .i64 ((a : Int) - 1 - j) ∧ MarksAt wr w1.heap.size xs.length (M1 xs a lv j) ∧ Below w1.heap.size w1 wr) (fun _ _ iv _ => (intOf iv + 1).toNat)
    case atStart => exact ⟨0, by omega, rfl, rfl, by go_num, HS1.out, HB1.out⟩
    case round =>
      obtain ⟨j, hj, rfl, rfl, rfl, hMk, hBr⟩ := hrel
      by_cases hlt : j < a
      · obtain ⟨i, hie⟩ : ∃ i : Nat, i = a - 1 - j := ⟨_, rfl⟩
        have hiv : ((a : Int) - 1 - j) = (i : Int) := by omega
        rw [hiv]
        have hil : i < xs.length := by omega
        obtain ⟨b, off, rfl, a0, a1, a2, a3, a4⟩ := (HI.out.below hBr).get hil
        have hstep := stF_succ (upB xs a) (dnB xs a) lv j
        have hmk : mkF (upB xs a) (dnB xs a) lv lv j = decide ((stF (upB xs a) (dnB xs a) lv lv j).1 + b2i (upB xs a j) ≤ (stF (upB xs a) (dnB xs a) lv lv j).2) := rfl
        have hbd := stF_bound (upB xs a) (dnB xs a) lv lv j
        have hM' := M1_step xs a lv j (by omega)
        have hup : upB xs a j = (xs.getD i default).croot := by rw [hie]; rfl
        have hdn : dnB xs a j = (xs.getD i default).cslot := by rw [hie]; rfl
        rw [hup] at hstep hmk
        rw [hdn] at hstep
        rw [hmk, ← hie] at hM'
        have hz := hMk.frozen i
        have hy := hMk.cell hil
        generalize (xs.getD i default).croot = p at *
        generalize (xs.getD i default).cslot = q at *
        generalize (stF (upB xs a) (dnB xs a) lv lv j).1 = lev at *
        generalize (stF (upB xs a) (dnB xs a) lv lv j).2 = lm at *
        generalize M1 xs a lv j i = old at hy
        have hset := hMk.set i hil (decide (lev + b2i p ≤ lm)) _ (fun k _ => hM' k)
        have HSET := Lib.hid hset
        have HBR := Lib.hid (hBr.setCell (p := ⟨w1.heap.size, i, none⟩) (Nat.le_refl _) (.bool (decide (lev + b2i p ≤ lm))))
        have HST := Lib.hid hstep
        have HIV := Lib.hid hiv
        clear hstep hmk hM' hup hdn hMk hset hBr hiv hie
        rcases p with _ | _ <;> rcases q with _ | _ <;> simp only [b2i, if_true, Bool.false_eq_true, if_false, Int.add_zero] at HST HSET HBR
        · go_wp2
          go_roundw
          case rel => exact ⟨j + 1, by omega, by rw [HST.out], by rw [HST.out], by have := HIV.out; go_num, HSET.out, HBR.out⟩
          case measure => simp [intOf] <;> omega
        · by_cases hmin : lev - 1 < lm
          · have e1 : min lm (lev - 1) = lev - 1 := by omega
            rw [e1] at HST
            go_wp2
            go_roundw
            case rel => exact ⟨j + 1, by omega, by rw [HST.out], by rw [HST.out], by have := HIV.out; go_num, HSET.out, HBR.out⟩
            case measure => simp [intOf] <;> omega
          · have e1 : min lm (lev - 1) = lm := by omega
            rw [e1] at HST
            go_wp2
            go_roundw
            case rel => exact ⟨j + 1, by omega, by rw [HST.out], by rw [HST.out], by have := HIV.out; go_num, HSET.out, HBR.out⟩
            case measure => simp [intOf] <;> omega
        · go_wp2
          go_roundw
          case rel => exact ⟨j + 1, by omega, by rw [HST.out], by rw [HST.out], by have := HIV.out; go_num, HSET.out, HBR.out⟩
          case measure => simp [intOf] <;> omega
        · rw [Int.add_sub_cancel] at HST
          by_cases hmin : lev < lm
          · have e1 : min lm lev = lev := by omega
            rw [e1] at HST
            go_wp2
            go_roundw
            case rel => exact ⟨j + 1, by omega, by rw [HST.out], by rw [HST.out], by have := HIV.out; go_num, HSET.out, HBR.out⟩
            case measure => simp [intOf] <;> omega
          · have e1 : min lm lev = lm := by omega
            rw [e1] at HST
            go_wp2
            go_roundw
            case rel => exact ⟨j + 1, by omega, by rw [HST.out], by rw [HST.out], by have := HIV.out; go_num, HSET.out, HBR.out⟩
            case measure => simp [intOf] <;> omega
      · obtain rfl : a = j := by omega
        have HS2 := Lib.hid (hMk.congr (M' := M2 xs a lv 0) (fun k _ => M2_zero xs a lv k))
        have HB2x := Lib.hid hBr
        clear hMk hBr
        go_wp2
        go_loopw [8, 9, 11] (fun l8 l9 iv wr => ∃ j : Nat, j ≤ xs.length - (a + 1) ∧ l8 = .int .i64 (stF (upF xs a) (dnF xs a) lv lv j).1 ∧ l9 = .int .i64 (stF (upF xs a) (dnF xs a) lv lv j).2 ∧ iv = .int .i64 ((a : Int) + 1 + j) ∧ MarksAt wr w1.heap.size xs.length (M2 xs a lv j) ∧ Below w1.heap.size w1 wr) (fun _ _ iv _ => 1000 - (intOf iv).toNat)
        case atStart => exact ⟨0, by omega, rfl, rfl, by go_num, HS2.out, HB2x.out⟩
        case round =>
          obtain ⟨j, hj, rfl, rfl, rfl, hMk, hBr⟩ := hrel
          by_cases hlt : j < xs.length - (a + 1)
          · obtain ⟨i, hie⟩ : ∃ i : Nat, i = a + 1 + j := ⟨_, rfl⟩
            have hiv : ((a : Int) + 1 + j) = (i : Int) := by omega
            rw [hiv]
            have hil : i < xs.length := by omega
            obtain ⟨b, off, rfl, a0, a1, a2, a3, a4⟩ := (HI.out.below hBr).get hil
            have hstep := stF_succ (upF xs a) (dnF xs a) lv j
            have hmk : mkF (upF xs a) (dnF xs a) lv lv j = decide ((stF (upF xs a) (dnF xs a) lv lv j).1 + b2i (upF xs a j) ≤ (stF (upF xs a) (dnF xs a) lv lv j).2) := rfl
            have hbd := stF_bound (upF xs a) (dnF xs a) lv lv j
            have hM' := M2_step xs a lv j (by omega)
            have hup : upF xs a j = (xs.getD i default).cslot := by rw [hie]; rfl
            have hdn : dnF xs a j = (xs.getD i default).croot := by rw [hie]; rfl
            rw [hup] at hstep hmk
            rw [hdn] at hstep
            rw [hmk, ← hie] at hM'
            have hz := hMk.frozen i
            have hy := hMk.cell hil
            generalize (xs.getD i default).cslot = p at *
            generalize (xs.getD i default).croot = q at *
            generalize (stF (upF xs a) (dnF xs a) lv lv j).1 = lev at *
            generalize (stF (upF xs a) (dnF xs a) lv lv j).2 = lm at *
            generalize M2 xs a lv j i = old at hy
            have hset := hMk.set i hil (decide (lev + b2i p ≤ lm)) _ (fun k _ => hM' k)
            have HSET := Lib.hid hset
            have HBR := Lib.hid (hBr.setCell (p := ⟨w1.heap.size, i, none⟩) (Nat.le_refl _) (.bool (decide (lev + b2i p ≤ lm))))
            have HST := Lib.hid hstep
            have HIV := Lib.hid hiv
            clear hstep hmk hM' hup hdn hMk hset hBr hiv hie
            rcases p with _ | _ <;> rcases q with _ | _ <;> simp only [b2i, if_true, Bool.false_eq_true, if_false, Int.add_zero] at HST HSET HBR
            · go_wp2
              go_roundw
              case rel => exact ⟨j + 1, by omega, by rw [HST.out], by rw [HST.out], by have := HIV.out; go_num, HSET.out, HBR.out⟩
              case measure => simp [intOf] <;> omega
            · by_cases hmin : lev - 1 < lm
              · have e1 : min lm (lev - 1) = lev - 1 := by omega
                rw [e1] at HST
                go_wp2
                go_roundw
                case rel => exact ⟨j + 1, by omega, by rw [HST.out], by rw [HST.out], by have := HIV.out; go_num, HSET.out, HBR.out⟩
                case measure => simp [intOf] <;> omega
              · have e1 : min lm (lev - 1) = lm := by omega
                rw [e1] at HST
                go_wp2
                go_roundw
                case rel => exact ⟨j + 1, by omega, by rw [HST.out], by rw [HST.out], by have := HIV.out; go_num, HSET.out, HBR.out⟩
                case measure => simp [intOf] <;> omega
            · go_wp2
              go_roundw
              case rel => exact ⟨j + 1, by omega, by rw [HST.out], by rw [HST.out], by have := HIV.out; go_num, HSET.out, HBR.out⟩
              case measure => simp [intOf] <;> omega
            · rw [Int.add_sub_cancel] at HST
              by_cases hmin : lev < lm
              · have e1 : min lm lev = lev := by omega
                rw [e1] at HST
                go_wp2
                go_roundw
                case rel => exact ⟨j + 1, by omega, by rw [HST.out], by rw [HST.out], by have := HIV.out; go_num, HSET.out, HBR.out⟩
                case measure => simp [intOf] <;> omega
              · have e1 : min lm lev = lm := by omega
                rw [e1] at HST
                go_wp2
                go_roundw
                case rel => exact ⟨j + 1, by omega, by rw [HST.out], by rw [HST.out], by have := HIV.out; go_num, HSET.out, HBR.out⟩
                case measure => simp [intOf] <;> omega
          · have hje : j = xs.length - (a + 1) := by omega
            rw [hje] at hMk
            have HS3 := Lib.hid (hMk.congr (M' := marks xs a lv) (fun k hk => (M2_marks xs a lv k hk).symm))
            have HB3 := Lib.hid hBr
            clear hMk hBr hje
            go_wp2
            go_loopw [12, 13] (fun ov iv wr => ∃ k : Nat, k ≤ xs.length ∧ OwnI wr w1.heap.size ov (((List.range k).filter (marks xs a lv)).map (fun k => (xs.getD k default).node)) ∧ iv = .int .i64 k ∧ MarksAt wr w1.heap.size xs.length (marks xs a lv) ∧ Below w1.heap.size w1 wr) (fun _ iv _ => 1000 - (intOf iv).toNat)
            case atStart => exact ⟨0, by omega, OwnI.nil _ _, rfl, HS3.out, HB3.out⟩
            case round =>
              obtain ⟨k, hk, hO, rfl, hMk, hBr⟩ := hrel
              by_cases hlt : k < xs.length
              · obtain ⟨b, off, rfl, a0, _⟩ := (HI.out.below hBr).get hlt
                have hy := hMk.cell hlt
                have hstep : ((List.range (k + 1)).filter (marks xs a lv)).map (fun k => (xs.getD k default).node) = ((List.range k).filter (marks xs a lv)).map (fun k => (xs.getD k default).node) ++ (if marks xs a lv k = true then [(xs.getD k default).node] else []) := by
                  rw [List.range_succ, List.filter_append, List.map_append, List.filter_cons]
                  split <;> rfl
                have hlen := (List.filter_sublist (p := marks xs a lv) (l := List.range k)).length_le
                rw [List.length_range] at hlen
                have hol : (((List.range k).filter (marks xs a lv)).map (fun k => (xs.getD k default).node)).length ≤ 1000 := by rw [List.length_map]; omega
                generalize ((List.range k).filter (marks xs a lv)).map (fun k => (xs.getD k default).node) = os at *
                generalize hx : (xs.getD k default).node = x at *
                generalize marks xs a lv k = p at *
                have HST := Lib.hid hstep
                have HX := Lib.hid hx
                have HMK := Lib.hid hMk
                have HBR := Lib.hid hBr
                have HO := Lib.hid hO
                have hszr := hBr.size
                have hol1 : os.length + 1 ≤ 1000000 := by omega
                clear hstep hx hMk hBr hO
                rcases p with _ | _
                · go_wp2
                  go_roundw
                  case rel => exact ⟨k + 1, by omega, by rw [HST.out]; simp only [Bool.false_eq_true, if_false, List.append_nil]; exact HO.out, by go_num, HMK.out, HBR.out⟩
                  case measure => simp [intOf] <;> omega
                · go_wp2_with (at_builtin; go_must (refine wpList_append_ints rfl _ _ rfl rfl (HO.out.alloc _) rfl rfl (cell_one x _) hol1 (HBR.out.alloc hszr _) (by simp; omega) ?_); intro v6 w3 O7 hb7 hg7; have K1 := Lib.hid ((HMK.out.alloc _).grown (HO.out.alloc _) hg7); have K2 := Lib.hid O7; have K3 := Lib.hid hb7; clear O7 hb7 hg7)
                  go_roundw
                  case rel => exact ⟨k + 1, by omega, by rw [HST.out]; exact K2.out, by go_num, K1.out, K3.out⟩
                  case measure => simp [intOf] <;> omega
              · obtain rfl : k = xs.length := by omega
                go_wp2
                go_ret
                exact ⟨_, rfl, hO, hBr⟩
end Go.Proofs.Ytpmeffdcbjakoaa
