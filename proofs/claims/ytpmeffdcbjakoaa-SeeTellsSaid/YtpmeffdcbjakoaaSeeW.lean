/- see.walk: what is seen of entries, one behind the other. -/
import Derived.Test.YtpmeffdcbjakoaaPlace
import Derived.Test.YtpmeffdcbjakoaaOwnI
namespace Go.Proofs.Ytpmeffdcbjakoaa
set_option linter.unusedVariables false
set_option linter.unusedSimpArgs false
open Go.RowKit

theorem root_calls (n t r : Int) (p q : Bool) (w : World) : Calls Try.prog 61 #[.agg #[.int .i64 n, .int .i64 t, .int .i64 r, .bool p, .bool q]] w fun e w' => e = .returned (.bool p) ∧ Below w.heap.size w w' := by
  go_enter Try.func61, Try.ntmps61
  go_wp2
  go_ret
  exact ⟨rfl, (Below.refl _ _).alloc (Nat.le_refl _) _⟩
theorem slot_calls (n t r : Int) (p q : Bool) (w : World) : Calls Try.prog 62 #[.agg #[.int .i64 n, .int .i64 t, .int .i64 r, .bool p, .bool q]] w fun e w' => e = .returned (.bool q) ∧ Below w.heap.size w w' := by
  go_enter Try.func62, Try.ntmps62
  go_wp2
  go_ret
  exact ⟨rfl, (Below.refl _ _).alloc (Nat.le_refl _) _⟩

/-- What is seen of entries: 'more' raises the level ahead of an entry, 'less' lowers it behind. -/
def seeL (more less : St → Bool) : List St → Int → Int → List Int
  | [], _, _ => []
  | s :: r, lv, lim =>
    (if lv + b2i (more s) ≤ lim then [s.node] else []) ++
    (if less s = true then seeL more less r (lv + b2i (more s) - 1) (min lim (lv + b2i (more s) - 1)) else seeL more less r (lv + b2i (more s)) lim)

theorem seeL_cons (more less : St → Bool) (s : St) (r : List St) (lv lim : Int) : seeL more less (s :: r) lv lim = (if lv + b2i (more s) ≤ lim then [s.node] else []) ++
    (if less s = true then seeL more less r (lv + b2i (more s) - 1) (min lim (lv + b2i (more s) - 1)) else seeL more less r (lv + b2i (more s)) lim) := rfl
theorem drop_getD (xs : List St) {k : Nat} (h : k < xs.length) : xs.drop k = xs.getD k default :: xs.drop (k + 1) := by
  rw [List.drop_eq_getElem_cons h]; congr 1; rw [List.getD_eq_getElem?_getD, List.getElem?_eq_getElem h]; rfl

set_option maxRecDepth 100000 in
set_option maxHeartbeats 4000000 in
theorem walk_rs (A : Option Addr) (cap : Nat) (xs : List St) (lv0 : Int) (hlen : xs.length ≤ 1000) (h0 : -1000 ≤ lv0) (h1 : lv0 ≤ 1000) (w : World) (hI : StAt w A xs) :
    Calls Try.prog 60 #[.slice A xs.length cap, .int .i64 lv0, .func (.func 61) #[] #[], .func (.func 62) #[] #[]] w fun e w' =>
      ∃ v, e = .returned v ∧ OwnI w' w.heap.size v (seeL St.croot St.cslot xs lv0 lv0) ∧ Below w.heap.size w w' := by
  obtain ⟨i0, hi, hz0, hz1, hz2⟩ := info_parts info_int
  have HI := Lib.hid hI
  clear hI
  go_enter Try.func60, Try.ntmps60
  go_wp2
  go_loopw [1, 9, 10, 16] (fun lvV limV outV iV wr => ∃ (k : Nat) (lv lim : Int) (acc : List Int), k ≤ xs.length ∧ lvV = .int .i64 lv ∧ limV = .int .i64 lim ∧ iV = .int .i64 k ∧ OwnI wr w.heap.size outV acc ∧ acc.length ≤ k ∧ -1000 - (k : Int) ≤ lv ∧ lv ≤ 1000 + (k : Int) ∧
      Hid (seeL St.croot St.cslot xs lv0 lv0 = acc ++ seeL St.croot St.cslot (xs.drop k) lv lim) ∧ Below w.heap.size w wr) (fun _ _ _ i _ => xs.length - (intOf i).toNat)
  case atStart => exact ⟨0, lv0, lv0, [], by omega, rfl, rfl, rfl, OwnI.nil _ _, by simp, by omega, by omega, rfl, Below.refl _ _⟩
  case round =>
    obtain ⟨k, lv, lim, acc, hk, rfl, rfl, rfl, hO, hal, hl1, hl2, HS, hB⟩ := hrel
    by_cases hlt : k < xs.length
    · obtain ⟨b, off, rfl, c0, c1, c2, c3, c4⟩ := (HI.out.below hB).get hlt
      have HD := Lib.hid (drop_getD xs hlt)
      generalize xs.getD k default = x at c0 c1 c2 c3 c4 HD
      have hx := Blk.new wr 46 #[.int .i64 x.node, .int .i64 x.target, .int .i64 x.related, .bool x.croot, .bool x.cslot]
      have HX := Lib.hid hx
      have HO := Lib.hid hO
      have HB := Lib.hid hB
      clear hx hO hB
      go_wp2_with fail
      refine (root_calls _ _ _ _ _ _).mono ?_
      rintro e w1 ⟨rfl, hb1⟩
      have hO1 : OwnI w1 _ _ _ := (HO.out.below ((Below.refl _ _).alloc (Nat.le_refl _) _)).below hb1
      have hx1 := HX.out.below hb1 HX.out.lt
      have hB1 := (HB.out.alloc HB.out.size (.cells #[.int .i64 x.node, .int .i64 x.target, .int .i64 x.related, .bool x.croot, .bool x.cslot] 46)).trans (hb1.mono (by have := HB.out.size; simp; omega))
      clear c0 c1 c2 c3 c4 HX HO HB hb1
      have y0 := hx1.cell 0; have y1 := hx1.cell 1; have y2 := hx1.cell 2; have y3 := hx1.cell 3; have y4 := hx1.cell 4
      simp at y0 y1 y2 y3 y4
      have HX := Lib.hid hx1
      have HO := Lib.hid hO1
      have HB := Lib.hid hB1
      clear hx1 hO1 hB1
      obtain ⟨lv1, hlv⟩ : ∃ z, z = lv + b2i (St.croot x) := ⟨_, rfl⟩
      have HL := Lib.hid hlv
      have g1 : -1000 - (k : Int) ≤ lv1 + 1 := by rw [hlv]; unfold b2i; split <;> omega
      have g2 : lv1 ≤ 1000 + (k : Int) + 1 := by rw [hlv]; unfold b2i; split <;> omega
      have g3 : (if St.croot x = true then lv + 1 else lv) = lv1 := by rw [hlv]; unfold b2i; split <;> simp
      clear hlv
      by_cases hm : St.croot x = true
      · rw [if_pos hm] at g3
        by_cases hle : lv1 ≤ lim
        · go_wp2_with (at_builtin; go_must (refine wpList_append_ints rfl _ _ rfl rfl (HO.out.alloc _) rfl rfl (cell_one x.node _) (by simp; omega) (HB.out.alloc HB.out.size _) (by have := HB.out.size; simp; omega) ?_); intro v' w2 hO2 hB2 hg2; have hx2 := ((show Blk w1 _ _ _ from HX.out).alloc _).grown hg2 (blk_ne_own (show Blk w1 _ _ _ from HX.out) HO.out (by decide)); have z0 := hx2.cell 0; have z1 := hx2.cell 1; have z2 := hx2.cell 2; have z3 := hx2.cell 3; have z4 := hx2.cell 4; simp at z0 z1 z2 z3 z4; have HO2 := Lib.hid hO2; have HB2 := Lib.hid hB2; clear hx2 hO2 hB2 hg2)
          refine (slot_calls _ _ _ _ _ _).mono ?_
          rintro e w3 ⟨rfl, hb3⟩
          have hO3 := HO2.out.below hb3
          have hB3 := HB2.out.trans (hb3.mono (HB2.out).size)
          have HO3 := Lib.hid hO3
          have HB3 := Lib.hid hB3
          clear hO3 hB3 hb3
          by_cases hs : St.cslot x = true
          · have HT : Hid (seeL St.croot St.cslot xs lv0 lv0 = (acc ++ [x.node]) ++ seeL St.croot St.cslot (xs.drop (k + 1)) (lv1 - 1) (min lim (lv1 - 1))) := by
              show _ = _
              rw [HS.out, HD.out, seeL_cons, ← HL.out, if_pos hs]; simp [hle]
            by_cases hmin : lim ≤ lv1 - 1
            · exfalso; omega
            · have hmm : min lim (lv1 - 1) = lv1 - 1 := by omega
              rw [hmm] at HT
              clear hmm
              go_wp2
              go_roundw
              case rel => exact ⟨k + 1, lv1 - 1, lv1 - 1, (acc ++ [x.node]), by omega, rfl, rfl, by go_num, HO3.out, by simp; omega, by omega, by omega, HT, HB3.out⟩
              case measure => simp [intOf]; omega
          · have HT : Hid (seeL St.croot St.cslot xs lv0 lv0 = (acc ++ [x.node]) ++ seeL St.croot St.cslot (xs.drop (k + 1)) lv1 lim) := by
              show _ = _
              rw [HS.out, HD.out, seeL_cons, ← HL.out, if_neg hs]; simp [hle]
            have hs : St.cslot x = false := by simpa using hs
            go_wp2
            go_roundw
            case rel => exact ⟨k + 1, lv1, lim, (acc ++ [x.node]), by omega, rfl, rfl, by go_num, HO3.out, by simp; omega, by omega, by omega, HT, HB3.out⟩
            case measure => simp [intOf]; omega
        · go_wp2_with fail
          refine (slot_calls _ _ _ _ _ _).mono ?_
          rintro e w3 ⟨rfl, hb3⟩
          have hO3 := HO.out.below hb3
          have hB3 := HB.out.trans (hb3.mono (HB.out).size)
          have HO3 := Lib.hid hO3
          have HB3 := Lib.hid hB3
          clear hO3 hB3 hb3
          by_cases hs : St.cslot x = true
          · have HT : Hid (seeL St.croot St.cslot xs lv0 lv0 = acc ++ seeL St.croot St.cslot (xs.drop (k + 1)) (lv1 - 1) (min lim (lv1 - 1))) := by
              show _ = _
              rw [HS.out, HD.out, seeL_cons, ← HL.out, if_pos hs]; simp; omega
            by_cases hmin : lim ≤ lv1 - 1
            · have hmm : min lim (lv1 - 1) = lim := by omega
              rw [hmm] at HT
              clear hmm
              go_wp2
              go_roundw
              case rel => exact ⟨k + 1, lv1 - 1, lim, acc, by omega, rfl, rfl, by go_num, HO3.out, by omega, by omega, by omega, HT, HB3.out⟩
              case measure => simp [intOf]; omega
            · have hmm : min lim (lv1 - 1) = lv1 - 1 := by omega
              rw [hmm] at HT
              clear hmm
              go_wp2
              go_roundw
              case rel => exact ⟨k + 1, lv1 - 1, lv1 - 1, acc, by omega, rfl, rfl, by go_num, HO3.out, by omega, by omega, by omega, HT, HB3.out⟩
              case measure => simp [intOf]; omega
          · have HT : Hid (seeL St.croot St.cslot xs lv0 lv0 = acc ++ seeL St.croot St.cslot (xs.drop (k + 1)) lv1 lim) := by
              show _ = _
              rw [HS.out, HD.out, seeL_cons, ← HL.out, if_neg hs]; simp; omega
            have hs : St.cslot x = false := by simpa using hs
            go_wp2
            go_roundw
            case rel => exact ⟨k + 1, lv1, lim, acc, by omega, rfl, rfl, by go_num, HO3.out, by omega, by omega, by omega, HT, HB3.out⟩
            case measure => simp [intOf]; omega
      · rw [if_neg hm] at g3
        have hm : St.croot x = false := by simpa using hm
        by_cases hle : lv1 ≤ lim
        · go_wp2_with (at_builtin; go_must (refine wpList_append_ints rfl _ _ rfl rfl (HO.out.alloc _) rfl rfl (cell_one x.node _) (by simp; omega) (HB.out.alloc HB.out.size _) (by have := HB.out.size; simp; omega) ?_); intro v' w2 hO2 hB2 hg2; have hx2 := ((show Blk w1 _ _ _ from HX.out).alloc _).grown hg2 (blk_ne_own (show Blk w1 _ _ _ from HX.out) HO.out (by decide)); have z0 := hx2.cell 0; have z1 := hx2.cell 1; have z2 := hx2.cell 2; have z3 := hx2.cell 3; have z4 := hx2.cell 4; simp at z0 z1 z2 z3 z4; have HO2 := Lib.hid hO2; have HB2 := Lib.hid hB2; clear hx2 hO2 hB2 hg2)
          refine (slot_calls _ _ _ _ _ _).mono ?_
          rintro e w3 ⟨rfl, hb3⟩
          have hO3 := HO2.out.below hb3
          have hB3 := HB2.out.trans (hb3.mono (HB2.out).size)
          have HO3 := Lib.hid hO3
          have HB3 := Lib.hid hB3
          clear hO3 hB3 hb3
          by_cases hs : St.cslot x = true
          · have HT : Hid (seeL St.croot St.cslot xs lv0 lv0 = (acc ++ [x.node]) ++ seeL St.croot St.cslot (xs.drop (k + 1)) (lv1 - 1) (min lim (lv1 - 1))) := by
              show _ = _
              rw [HS.out, HD.out, seeL_cons, ← HL.out, if_pos hs]; simp [hle]
            by_cases hmin : lim ≤ lv1 - 1
            · exfalso; omega
            · have hmm : min lim (lv1 - 1) = lv1 - 1 := by omega
              rw [hmm] at HT
              clear hmm
              go_wp2
              go_roundw
              case rel => exact ⟨k + 1, lv1 - 1, lv1 - 1, (acc ++ [x.node]), by omega, rfl, rfl, by go_num, HO3.out, by simp; omega, by omega, by omega, HT, HB3.out⟩
              case measure => simp [intOf]; omega
          · have HT : Hid (seeL St.croot St.cslot xs lv0 lv0 = (acc ++ [x.node]) ++ seeL St.croot St.cslot (xs.drop (k + 1)) lv1 lim) := by
              show _ = _
              rw [HS.out, HD.out, seeL_cons, ← HL.out, if_neg hs]; simp [hle]
            have hs : St.cslot x = false := by simpa using hs
            go_wp2
            go_roundw
            case rel => exact ⟨k + 1, lv1, lim, (acc ++ [x.node]), by omega, rfl, rfl, by go_num, HO3.out, by simp; omega, by omega, by omega, HT, HB3.out⟩
            case measure => simp [intOf]; omega
        · go_wp2_with fail
          refine (slot_calls _ _ _ _ _ _).mono ?_
          rintro e w3 ⟨rfl, hb3⟩
          have hO3 := HO.out.below hb3
          have hB3 := HB.out.trans (hb3.mono (HB.out).size)
          have HO3 := Lib.hid hO3
          have HB3 := Lib.hid hB3
          clear hO3 hB3 hb3
          by_cases hs : St.cslot x = true
          · have HT : Hid (seeL St.croot St.cslot xs lv0 lv0 = acc ++ seeL St.croot St.cslot (xs.drop (k + 1)) (lv1 - 1) (min lim (lv1 - 1))) := by
              show _ = _
              rw [HS.out, HD.out, seeL_cons, ← HL.out, if_pos hs]; simp; omega
            by_cases hmin : lim ≤ lv1 - 1
            · have hmm : min lim (lv1 - 1) = lim := by omega
              rw [hmm] at HT
              clear hmm
              go_wp2
              go_roundw
              case rel => exact ⟨k + 1, lv1 - 1, lim, acc, by omega, rfl, rfl, by go_num, HO3.out, by omega, by omega, by omega, HT, HB3.out⟩
              case measure => simp [intOf]; omega
            · have hmm : min lim (lv1 - 1) = lv1 - 1 := by omega
              rw [hmm] at HT
              clear hmm
              go_wp2
              go_roundw
              case rel => exact ⟨k + 1, lv1 - 1, lv1 - 1, acc, by omega, rfl, rfl, by go_num, HO3.out, by omega, by omega, by omega, HT, HB3.out⟩
              case measure => simp [intOf]; omega
          · have HT : Hid (seeL St.croot St.cslot xs lv0 lv0 = acc ++ seeL St.croot St.cslot (xs.drop (k + 1)) lv1 lim) := by
              show _ = _
              rw [HS.out, HD.out, seeL_cons, ← HL.out, if_neg hs]; simp; omega
            have hs : St.cslot x = false := by simpa using hs
            go_wp2
            go_roundw
            case rel => exact ⟨k + 1, lv1, lim, acc, by omega, rfl, rfl, by go_num, HO3.out, by omega, by omega, by omega, HT, HB3.out⟩
            case measure => simp [intOf]; omega
    · have HT : seeL St.croot St.cslot xs lv0 lv0 = acc := by rw [HS.out, List.drop_eq_nil_of_le (by omega)]; simp [seeL]
      have HR := Lib.hid HT
      have HO := Lib.hid hO
      have HB := Lib.hid hB
      clear HT hO hB
      go_wp2
      go_ret
      exact ⟨_, rfl, by rw [HR.out]; exact HO.out, HB.out⟩

set_option maxRecDepth 100000 in
set_option maxHeartbeats 4000000 in
theorem walk_sr (A : Option Addr) (cap : Nat) (xs : List St) (lv0 : Int) (hlen : xs.length ≤ 1000) (h0 : -1000 ≤ lv0) (h1 : lv0 ≤ 1000) (w : World) (hI : StAt w A xs) :
    Calls Try.prog 60 #[.slice A xs.length cap, .int .i64 lv0, .func (.func 62) #[] #[], .func (.func 61) #[] #[]] w fun e w' =>
      ∃ v, e = .returned v ∧ OwnI w' w.heap.size v (seeL St.cslot St.croot xs lv0 lv0) ∧ Below w.heap.size w w' := by
  obtain ⟨i0, hi, hz0, hz1, hz2⟩ := info_parts info_int
  have HI := Lib.hid hI
  clear hI
  go_enter Try.func60, Try.ntmps60
  go_wp2
  go_loopw [1, 9, 10, 16] (fun lvV limV outV iV wr => ∃ (k : Nat) (lv lim : Int) (acc : List Int), k ≤ xs.length ∧ lvV = .int .i64 lv ∧ limV = .int .i64 lim ∧ iV = .int .i64 k ∧ OwnI wr w.heap.size outV acc ∧ acc.length ≤ k ∧ -1000 - (k : Int) ≤ lv ∧ lv ≤ 1000 + (k : Int) ∧
      Hid (seeL St.cslot St.croot xs lv0 lv0 = acc ++ seeL St.cslot St.croot (xs.drop k) lv lim) ∧ Below w.heap.size w wr) (fun _ _ _ i _ => xs.length - (intOf i).toNat)
  case atStart => exact ⟨0, lv0, lv0, [], by omega, rfl, rfl, rfl, OwnI.nil _ _, by simp, by omega, by omega, rfl, Below.refl _ _⟩
  case round =>
    obtain ⟨k, lv, lim, acc, hk, rfl, rfl, rfl, hO, hal, hl1, hl2, HS, hB⟩ := hrel
    by_cases hlt : k < xs.length
    · obtain ⟨b, off, rfl, c0, c1, c2, c3, c4⟩ := (HI.out.below hB).get hlt
      have HD := Lib.hid (drop_getD xs hlt)
      generalize xs.getD k default = x at c0 c1 c2 c3 c4 HD
      have hx := Blk.new wr 46 #[.int .i64 x.node, .int .i64 x.target, .int .i64 x.related, .bool x.croot, .bool x.cslot]
      have HX := Lib.hid hx
      have HO := Lib.hid hO
      have HB := Lib.hid hB
      clear hx hO hB
      go_wp2_with fail
      refine (slot_calls _ _ _ _ _ _).mono ?_
      rintro e w1 ⟨rfl, hb1⟩
      have hO1 : OwnI w1 _ _ _ := (HO.out.below ((Below.refl _ _).alloc (Nat.le_refl _) _)).below hb1
      have hx1 := HX.out.below hb1 HX.out.lt
      have hB1 := (HB.out.alloc HB.out.size (.cells #[.int .i64 x.node, .int .i64 x.target, .int .i64 x.related, .bool x.croot, .bool x.cslot] 46)).trans (hb1.mono (by have := HB.out.size; simp; omega))
      clear c0 c1 c2 c3 c4 HX HO HB hb1
      have y0 := hx1.cell 0; have y1 := hx1.cell 1; have y2 := hx1.cell 2; have y3 := hx1.cell 3; have y4 := hx1.cell 4
      simp at y0 y1 y2 y3 y4
      have HX := Lib.hid hx1
      have HO := Lib.hid hO1
      have HB := Lib.hid hB1
      clear hx1 hO1 hB1
      obtain ⟨lv1, hlv⟩ : ∃ z, z = lv + b2i (St.cslot x) := ⟨_, rfl⟩
      have HL := Lib.hid hlv
      have g1 : -1000 - (k : Int) ≤ lv1 + 1 := by rw [hlv]; unfold b2i; split <;> omega
      have g2 : lv1 ≤ 1000 + (k : Int) + 1 := by rw [hlv]; unfold b2i; split <;> omega
      have g3 : (if St.cslot x = true then lv + 1 else lv) = lv1 := by rw [hlv]; unfold b2i; split <;> simp
      clear hlv
      by_cases hm : St.cslot x = true
      · rw [if_pos hm] at g3
        by_cases hle : lv1 ≤ lim
        · go_wp2_with (at_builtin; go_must (refine wpList_append_ints rfl _ _ rfl rfl (HO.out.alloc _) rfl rfl (cell_one x.node _) (by simp; omega) (HB.out.alloc HB.out.size _) (by have := HB.out.size; simp; omega) ?_); intro v' w2 hO2 hB2 hg2; have hx2 := ((show Blk w1 _ _ _ from HX.out).alloc _).grown hg2 (blk_ne_own (show Blk w1 _ _ _ from HX.out) HO.out (by decide)); have z0 := hx2.cell 0; have z1 := hx2.cell 1; have z2 := hx2.cell 2; have z3 := hx2.cell 3; have z4 := hx2.cell 4; simp at z0 z1 z2 z3 z4; have HO2 := Lib.hid hO2; have HB2 := Lib.hid hB2; clear hx2 hO2 hB2 hg2)
          refine (root_calls _ _ _ _ _ _).mono ?_
          rintro e w3 ⟨rfl, hb3⟩
          have hO3 := HO2.out.below hb3
          have hB3 := HB2.out.trans (hb3.mono (HB2.out).size)
          have HO3 := Lib.hid hO3
          have HB3 := Lib.hid hB3
          clear hO3 hB3 hb3
          by_cases hs : St.croot x = true
          · have HT : Hid (seeL St.cslot St.croot xs lv0 lv0 = (acc ++ [x.node]) ++ seeL St.cslot St.croot (xs.drop (k + 1)) (lv1 - 1) (min lim (lv1 - 1))) := by
              show _ = _
              rw [HS.out, HD.out, seeL_cons, ← HL.out, if_pos hs]; simp [hle]
            by_cases hmin : lim ≤ lv1 - 1
            · exfalso; omega
            · have hmm : min lim (lv1 - 1) = lv1 - 1 := by omega
              rw [hmm] at HT
              clear hmm
              go_wp2
              go_roundw
              case rel => exact ⟨k + 1, lv1 - 1, lv1 - 1, (acc ++ [x.node]), by omega, rfl, rfl, by go_num, HO3.out, by simp; omega, by omega, by omega, HT, HB3.out⟩
              case measure => simp [intOf]; omega
          · have HT : Hid (seeL St.cslot St.croot xs lv0 lv0 = (acc ++ [x.node]) ++ seeL St.cslot St.croot (xs.drop (k + 1)) lv1 lim) := by
              show _ = _
              rw [HS.out, HD.out, seeL_cons, ← HL.out, if_neg hs]; simp [hle]
            have hs : St.croot x = false := by simpa using hs
            go_wp2
            go_roundw
            case rel => exact ⟨k + 1, lv1, lim, (acc ++ [x.node]), by omega, rfl, rfl, by go_num, HO3.out, by simp; omega, by omega, by omega, HT, HB3.out⟩
            case measure => simp [intOf]; omega
        · go_wp2_with fail
          refine (root_calls _ _ _ _ _ _).mono ?_
          rintro e w3 ⟨rfl, hb3⟩
          have hO3 := HO.out.below hb3
          have hB3 := HB.out.trans (hb3.mono (HB.out).size)
          have HO3 := Lib.hid hO3
          have HB3 := Lib.hid hB3
          clear hO3 hB3 hb3
          by_cases hs : St.croot x = true
          · have HT : Hid (seeL St.cslot St.croot xs lv0 lv0 = acc ++ seeL St.cslot St.croot (xs.drop (k + 1)) (lv1 - 1) (min lim (lv1 - 1))) := by
              show _ = _
              rw [HS.out, HD.out, seeL_cons, ← HL.out, if_pos hs]; simp; omega
            by_cases hmin : lim ≤ lv1 - 1
            · have hmm : min lim (lv1 - 1) = lim := by omega
              rw [hmm] at HT
              clear hmm
              go_wp2
              go_roundw
              case rel => exact ⟨k + 1, lv1 - 1, lim, acc, by omega, rfl, rfl, by go_num, HO3.out, by omega, by omega, by omega, HT, HB3.out⟩
              case measure => simp [intOf]; omega
            · have hmm : min lim (lv1 - 1) = lv1 - 1 := by omega
              rw [hmm] at HT
              clear hmm
              go_wp2
              go_roundw
              case rel => exact ⟨k + 1, lv1 - 1, lv1 - 1, acc, by omega, rfl, rfl, by go_num, HO3.out, by omega, by omega, by omega, HT, HB3.out⟩
              case measure => simp [intOf]; omega
          · have HT : Hid (seeL St.cslot St.croot xs lv0 lv0 = acc ++ seeL St.cslot St.croot (xs.drop (k + 1)) lv1 lim) := by
              show _ = _
              rw [HS.out, HD.out, seeL_cons, ← HL.out, if_neg hs]; simp; omega
            have hs : St.croot x = false := by simpa using hs
            go_wp2
            go_roundw
            case rel => exact ⟨k + 1, lv1, lim, acc, by omega, rfl, rfl, by go_num, HO3.out, by omega, by omega, by omega, HT, HB3.out⟩
            case measure => simp [intOf]; omega
      · rw [if_neg hm] at g3
        have hm : St.cslot x = false := by simpa using hm
        by_cases hle : lv1 ≤ lim
        · go_wp2_with (at_builtin; go_must (refine wpList_append_ints rfl _ _ rfl rfl (HO.out.alloc _) rfl rfl (cell_one x.node _) (by simp; omega) (HB.out.alloc HB.out.size _) (by have := HB.out.size; simp; omega) ?_); intro v' w2 hO2 hB2 hg2; have hx2 := ((show Blk w1 _ _ _ from HX.out).alloc _).grown hg2 (blk_ne_own (show Blk w1 _ _ _ from HX.out) HO.out (by decide)); have z0 := hx2.cell 0; have z1 := hx2.cell 1; have z2 := hx2.cell 2; have z3 := hx2.cell 3; have z4 := hx2.cell 4; simp at z0 z1 z2 z3 z4; have HO2 := Lib.hid hO2; have HB2 := Lib.hid hB2; clear hx2 hO2 hB2 hg2)
          refine (root_calls _ _ _ _ _ _).mono ?_
          rintro e w3 ⟨rfl, hb3⟩
          have hO3 := HO2.out.below hb3
          have hB3 := HB2.out.trans (hb3.mono (HB2.out).size)
          have HO3 := Lib.hid hO3
          have HB3 := Lib.hid hB3
          clear hO3 hB3 hb3
          by_cases hs : St.croot x = true
          · have HT : Hid (seeL St.cslot St.croot xs lv0 lv0 = (acc ++ [x.node]) ++ seeL St.cslot St.croot (xs.drop (k + 1)) (lv1 - 1) (min lim (lv1 - 1))) := by
              show _ = _
              rw [HS.out, HD.out, seeL_cons, ← HL.out, if_pos hs]; simp [hle]
            by_cases hmin : lim ≤ lv1 - 1
            · exfalso; omega
            · have hmm : min lim (lv1 - 1) = lv1 - 1 := by omega
              rw [hmm] at HT
              clear hmm
              go_wp2
              go_roundw
              case rel => exact ⟨k + 1, lv1 - 1, lv1 - 1, (acc ++ [x.node]), by omega, rfl, rfl, by go_num, HO3.out, by simp; omega, by omega, by omega, HT, HB3.out⟩
              case measure => simp [intOf]; omega
          · have HT : Hid (seeL St.cslot St.croot xs lv0 lv0 = (acc ++ [x.node]) ++ seeL St.cslot St.croot (xs.drop (k + 1)) lv1 lim) := by
              show _ = _
              rw [HS.out, HD.out, seeL_cons, ← HL.out, if_neg hs]; simp [hle]
            have hs : St.croot x = false := by simpa using hs
            go_wp2
            go_roundw
            case rel => exact ⟨k + 1, lv1, lim, (acc ++ [x.node]), by omega, rfl, rfl, by go_num, HO3.out, by simp; omega, by omega, by omega, HT, HB3.out⟩
            case measure => simp [intOf]; omega
        · go_wp2_with fail
          refine (root_calls _ _ _ _ _ _).mono ?_
          rintro e w3 ⟨rfl, hb3⟩
          have hO3 := HO.out.below hb3
          have hB3 := HB.out.trans (hb3.mono (HB.out).size)
          have HO3 := Lib.hid hO3
          have HB3 := Lib.hid hB3
          clear hO3 hB3 hb3
          by_cases hs : St.croot x = true
          · have HT : Hid (seeL St.cslot St.croot xs lv0 lv0 = acc ++ seeL St.cslot St.croot (xs.drop (k + 1)) (lv1 - 1) (min lim (lv1 - 1))) := by
              show _ = _
              rw [HS.out, HD.out, seeL_cons, ← HL.out, if_pos hs]; simp; omega
            by_cases hmin : lim ≤ lv1 - 1
            · have hmm : min lim (lv1 - 1) = lim := by omega
              rw [hmm] at HT
              clear hmm
              go_wp2
              go_roundw
              case rel => exact ⟨k + 1, lv1 - 1, lim, acc, by omega, rfl, rfl, by go_num, HO3.out, by omega, by omega, by omega, HT, HB3.out⟩
              case measure => simp [intOf]; omega
            · have hmm : min lim (lv1 - 1) = lv1 - 1 := by omega
              rw [hmm] at HT
              clear hmm
              go_wp2
              go_roundw
              case rel => exact ⟨k + 1, lv1 - 1, lv1 - 1, acc, by omega, rfl, rfl, by go_num, HO3.out, by omega, by omega, by omega, HT, HB3.out⟩
              case measure => simp [intOf]; omega
          · have HT : Hid (seeL St.cslot St.croot xs lv0 lv0 = acc ++ seeL St.cslot St.croot (xs.drop (k + 1)) lv1 lim) := by
              show _ = _
              rw [HS.out, HD.out, seeL_cons, ← HL.out, if_neg hs]; simp; omega
            have hs : St.croot x = false := by simpa using hs
            go_wp2
            go_roundw
            case rel => exact ⟨k + 1, lv1, lim, acc, by omega, rfl, rfl, by go_num, HO3.out, by omega, by omega, by omega, HT, HB3.out⟩
            case measure => simp [intOf]; omega
    · have HT : seeL St.cslot St.croot xs lv0 lv0 = acc := by rw [HS.out, List.drop_eq_nil_of_le (by omega)]; simp [seeL]
      have HR := Lib.hid HT
      have HO := Lib.hid hO
      have HB := Lib.hid hB
      clear HT hO hB
      go_wp2
      go_ret
      exact ⟨_, rfl, by rw [HR.out]; exact HO.out, HB.out⟩

end Go.Proofs.Ytpmeffdcbjakoaa
