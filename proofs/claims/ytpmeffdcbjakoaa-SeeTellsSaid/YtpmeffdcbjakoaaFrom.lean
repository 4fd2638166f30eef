/- see.From and see.Level. -/
import Derived.Test.YtpmeffdcbjakoaaSeeW
import Derived.Test.YtpmeffdcbjakoaaStOwn
import Derived.Test.YtpmeffdcbjakoaaRevI
namespace Go.Proofs.Ytpmeffdcbjakoaa
set_option linter.unusedVariables false
set_option linter.unusedSimpArgs false
open Go.RowKit

theorem plL_cases (node : Int) (l : List (Nat × St)) : ∀ lv : Int, plL node l lv = (-1, 0) ∨ ∃ x ∈ l, ∃ z : Int, plL node l lv = ((x.1 : Int), z) ∧ lv - l.length ≤ z ∧ z ≤ lv + l.length := by
  induction l with
  | nil => intro lv; exact .inl rfl
  | cons x r ih =>
    intro lv
    have hb : 0 ≤ b2i x.2.croot ∧ b2i x.2.croot ≤ 1 := by unfold b2i; split <;> omega
    have hs : 0 ≤ b2i x.2.cslot ∧ b2i x.2.cslot ≤ 1 := by unfold b2i; split <;> omega
    unfold plL
    by_cases h : x.2.node = node
    · rw [if_pos h]
      exact .inr ⟨x, by simp, _, rfl, by simp only [List.length_cons]; omega, by simp only [List.length_cons]; omega⟩
    · rw [if_neg h]
      rcases ih (lv + b2i x.2.croot - b2i x.2.cslot) with h1 | ⟨y, hy, z, h1, h2, h3⟩
      · exact .inl h1
      · exact .inr ⟨y, by simp [hy], z, h1, by simp only [List.length_cons]; omega, by simp only [List.length_cons]; omega⟩
theorem placeP_cases (xs : List St) (node : Int) : placeP xs node = (-1, 0) ∨ ∃ (m : Nat) (lv : Int), m < xs.length ∧ placeP xs node = ((m : Int), lv) ∧ -(xs.length : Int) ≤ lv ∧ lv ≤ xs.length := by
  rcases plL_cases node (upto (backF xs) xs.length) 0 with h | ⟨x, hx, z, h, h2, h3⟩
  · exact .inl h
  · right
    simp only [upto, List.mem_map, List.mem_range] at hx
    obtain ⟨k, hk, rfl⟩ := hx
    rw [upto_length] at h2 h3
    exact ⟨xs.length - 1 - k, z, by omega, h, by omega, by omega⟩

/-- What is seen from a node. -/
def seenP (xs : List St) (node : Int) : List Int :=
  if (placeP xs node).1 < 0 then [] else
    (seeL St.croot St.cslot ((xs.take (placeP xs node).1.toNat).reverse) (placeP xs node).2 (placeP xs node).2).reverse ++ [node] ++
      seeL St.cslot St.croot (xs.drop ((placeP xs node).1.toNat + 1)) (placeP xs node).2 (placeP xs node).2

theorem seeL_length (more less : St → Bool) (xs : List St) : ∀ lv lim : Int, (seeL more less xs lv lim).length ≤ xs.length := by
  induction xs with
  | nil => intro lv lim; simp [seeL]
  | cons x r ih =>
    intro lv lim
    rw [seeL_cons, List.length_append, List.length_cons]
    have h1 : (if lv + b2i (more x) ≤ lim then [x.node] else ([] : List Int)).length ≤ 1 := by split <;> simp
    have h2 : (if less x = true then seeL more less r (lv + b2i (more x) - 1) (min lim (lv + b2i (more x) - 1)) else seeL more less r (lv + b2i (more x)) lim).length ≤ r.length := by
      split
      · exact ih _ _
      · exact ih _ _
    omega

theorem level_calls (A : Option Addr) (cap : Nat) (xs : List St) (node : Int) (hlen : xs.length ≤ 1000) (w : World) (hI : StAt w A xs) :
    Calls Try.prog 39 #[.slice A xs.length cap, .int .i64 node] w fun e w' => e = .returned (.int .i64 (placeP xs node).2) ∧ Below w.heap.size w w' := by
  go_enter Try.func39, Try.ntmps39
  go_wp2_with (go_at_call 57; refine (place_calls A cap xs node hlen w hI).mono ?_; rintro e w1 ⟨rfl, hb⟩)
  go_ret
  exact ⟨rfl, hb⟩

theorem StAt.take {w : World} {A : Option Addr} {xs : List St} (h : StAt w A xs) {m : Nat} (hm : m ≤ xs.length) : StAt w A (xs.take m) := fun hn => by
  have hl : (xs.take m).length = m := by rw [List.length_take]; omega
  rw [hl] at hn ⊢
  obtain ⟨b, off, rfl, hc⟩ := h (by omega)
  refine ⟨b, off, rfl, fun i j hi hj => ?_⟩
  refine (hc i j (by omega) hj).trans ?_
  show some (St.cell (xs.getD i default) j) = some (St.cell ((xs.take m).getD i default) j)
  rw [List.getD_eq_getElem?_getD, List.getD_eq_getElem?_getD, List.getElem?_take, if_pos hi]
theorem StAt.drop {w : World} {A : Option Addr} {xs : List St} (h : StAt w A xs) {m : Nat} {A' : Option Addr} (hA : ∀ b off, m < xs.length → A = some ⟨b, off, none⟩ → A' = some ⟨b, off + m * 5, none⟩) : StAt w A' (xs.drop m) := fun hn => by
  rw [List.length_drop] at hn ⊢
  obtain ⟨b, off, rfl, hc⟩ := h (by omega)
  refine ⟨b, off + m * 5, hA b off (by omega) rfl, fun i j hi hj => ?_⟩
  have := hc (m + i) j (by omega) hj
  rw [show off + m * 5 + i * 5 + j = off + (m + i) * 5 + j by omega]
  refine this.trans ?_
  show some (St.cell (xs.getD (m + i) default) j) = some (St.cell ((xs.drop m).getD i default) j)
  rw [List.getD_eq_getElem?_getD, List.getD_eq_getElem?_getD, List.getElem?_drop]

theorem reverse_own (B : Nat) (v : Value) (xs : List St) (hl : xs.length ≤ 1000) (w w0 : World) (hO : OwnS w B v xs) (hB : Below B w0 w) (hBw : B ≤ w.heap.size) :
    Calls Try.prog 59 #[v] w fun e w' => e = .returned (.tuple #[]) ∧ OwnS w' B v xs.reverse ∧ Below B w0 w' := by
  rcases hO with ⟨rfl, rfl⟩ | ⟨g, cap, cs, rfl, hg, hh, hi⟩
  · go_enter Try.func59, Try.ntmps59
    go_wp2
    go_loop [2, 3] (fun iv jv => iv = .int .i64 0 ∧ jv = .int .i64 (-1)) (fun _ _ => 0)
    case atStart => exact ⟨rfl, rfl⟩
    case round =>
      obtain ⟨rfl, rfl⟩ := hrel
      go_wp2
      go_end0
      exact ⟨rfl, .inl ⟨rfl, rfl⟩, hB⟩
  · have hsz : xs.length * 5 ≤ cs.size := by
      rcases Nat.eq_zero_or_pos xs.length with h | h
      · omega
      · have := hi (xs.length - 1) 4 (by omega) (by decide)
        obtain ⟨h2, _⟩ := Array.getElem?_eq_some_iff.1 this
        omega
    refine (reverse_steps g cap cs xs hl w hh hi hsz).mono ?_
    rintro e w' ⟨rfl, ⟨cs', h1, h2⟩, hb⟩
    exact ⟨rfl, .inr ⟨g, cap, cs', by rw [List.length_reverse], hg, h1, h2⟩, hb.below (by rintro k rfl; exact hg) hBw hB⟩

theorem from_tail (b off : Nat) (xs : List St) (m : Nat) (lv : Int) (hlen : xs.length ≤ 1000) (h1 : -1000 ≤ lv) (h2 : lv ≤ 1000) (w : World) (hI : StAt w (some ⟨b, off, none⟩) xs) (off' c' : Nat) (ho : m + 1 < xs.length → off' = off + (m + 1) * 5) :
    Calls Try.prog 60 #[.slice (some ⟨b, off', none⟩) (xs.length - (m + 1)) c', .int .i64 lv, .func (.func 62) #[] #[], .func (.func 61) #[] #[]] w fun e w' =>
      ∃ v, e = .returned v ∧ OwnI w' w.heap.size v (seeL St.cslot St.croot (xs.drop (m + 1)) lv lv) ∧ Below w.heap.size w w' := by
  have h := walk_sr (some ⟨b, off', none⟩) c' (xs.drop (m + 1)) lv (by simp; omega) h1 h2 w (hI.drop (m := m + 1) fun b' o' hm he => by cases he; rw [ho hm])
  rw [List.length_drop] at h
  exact h

set_option maxRecDepth 100000 in
set_option maxHeartbeats 2000000 in
theorem from_calls (A : Option Addr) (cap : Nat) (xs : List St) (node : Int) (hlen : xs.length ≤ 1000) (hcap : xs.length ≤ cap) (hc63 : cap ≤ maxLen) (w : World) (hI : StAt w A xs) :
    Calls Try.prog 38 #[.slice A xs.length cap, .int .i64 node] w fun e w' => ∃ v, e = .returned v ∧ OwnI w' w.heap.size v (seenP xs node) ∧ Below w.heap.size w w' := by
  unfold maxLen at hc63
  rcases placeP_cases xs node with h | ⟨m, lv, hm, h, h1, h2⟩
  · have H := place_calls A cap xs node hlen w hI
    have e1 : seenP xs node = [] := by unfold seenP; rw [h]; rfl
    rw [h] at H
    rw [e1]
    have H1 := Lib.hid H
    clear H h e1
    go_enter Try.func38, Try.ntmps38
    go_wp2_with (go_at_call 57; refine H1.out.mono ?_; rintro e w1 ⟨rfl, hb⟩)
    go_ret
    exact ⟨_, rfl, OwnI.nil _ _, hb⟩
  · obtain ⟨b, off, rfl, hc⟩ := hI (by omega)
    have H := place_calls (some ⟨b, off, none⟩) cap xs node hlen w hI
    rw [h] at H
    have H1 := Lib.hid H
    have HI := Lib.hid hI
    have HP := Lib.hid h
    clear H h hI hc
    go_enter Try.func38, Try.ntmps38
    go_wp2_with (go_at_call 57; refine H1.out.mono ?_; rintro e w1 ⟨rfl, hb⟩)
    have HI1 : StAt w1 (some ⟨b, off, none⟩) xs := HI.out.below hb
    have HT := HI1.take (m := m) (by omega)
    have HCl := clone_steps (some ⟨b, off, none⟩) cap (xs.take m) (by simp) (by simp; omega) w1 HT
    rw [List.length_take, Nat.min_eq_left (by omega)] at HCl
    have H2 := Lib.hid HCl
    clear HCl HT
    go_wp2_with (go_at_call 58; refine H2.out.mono ?_; rintro e w2 ⟨v2, rfl, O2, hb2⟩)
    go_at_call 59
    have hs1 : w.heap.size ≤ w1.heap.size := hb.size
    have hs2 : w1.heap.size ≤ w2.heap.size := hb2.size
    refine (reverse_own w1.heap.size v2 (xs.take m) (by simp; omega) w2 w1 O2 hb2 hs2).mono ?_
    rintro e w3 ⟨rfl, O3, hb3⟩
    obtain ⟨ys, hys⟩ : ∃ ys, ys = (xs.take m).reverse := ⟨_, rfl⟩
    have hyl : ys.length ≤ 1000 := by rw [hys]; simp; omega
    rw [← hys] at O3
    obtain ⟨A3, c3, rfl, I3⟩ := O3.st
    have HY := Lib.hid hys
    clear hys
    have hs3 : w1.heap.size ≤ w3.heap.size := hb3.size
    have HW1 := walk_rs A3 c3 ys lv hyl (by omega) (by omega) w3 I3
    have H3 := Lib.hid HW1
    clear HW1 O3 I3 O2
    go_wp2_with (go_at_call 60; refine H3.out.mono ?_; rintro e w4 ⟨v4, rfl, O4, hb4⟩)
    have hs4 : w3.heap.size ≤ w4.heap.size := hb4.size
    have hln := seeL_length St.croot St.cslot ys lv lv
    generalize hu : seeL St.croot St.cslot ys lv lv = u at *
    have HU := Lib.hid hu
    clear hu
    go_at_call 63
    refine (reverse_ints w3.heap.size v4 u (by omega) w4 w3 O4 hb4 hs4).mono ?_
    rintro e w5 ⟨rfl, O5, hb5, _⟩
    have hs5 : w3.heap.size ≤ w5.heap.size := hb5.size
    have O5a := Lib.hid (fun t => O5.alloc (.cells #[.int .i64 node] t))
    have hb5a := Lib.hid (fun t => hb5.alloc hs5 (.cells #[.int .i64 node] t))
    have hl5 : u.reverse.length + 1 ≤ 1000000 := by simp; omega
    have hs5a : ∀ o, w3.heap.size ≤ (w5.alloc o).heap.size := fun o => by simp; omega
    clear O5 O4
    go_wp2_with (at_builtin; go_must (refine wpList_append_ints rfl _ _ rfl rfl (O5a.out _) rfl rfl (cell_one node _) hl5 (hb5a.out _) (hs5a _) ?_); intro v6 w6 O6 hb6 hg6; have hw6 := hb6; have O6h := Lib.hid O6; clear O6 hg6)
    all_goals
      have hs6 : w3.heap.size ≤ w6.heap.size := hb6.size
      have B6 : Below w.heap.size w w6 := (hb.trans (hb3.mono hs1)).trans (hb6.mono (by omega))
      go_at_call 60
      refine (from_tail b off xs m lv hlen (by omega) (by omega) w6 (HI.out.below B6) _ _ (by omega)).mono ?_
      rintro e w7 ⟨v7, rfl, O7, hb7⟩
      have hs7 : w6.heap.size ≤ w7.heap.size := hb7.size
      have hl7 := seeL_length St.cslot St.croot (xs.drop (m + 1)) lv lv
      have hfin : seenP xs node = (u.reverse ++ [node]) ++ seeL St.cslot St.croot (xs.drop (m + 1)) lv lv := by
        unfold seenP
        rw [HP.out, if_neg (by simp), ← HU.out, HY.out, Int.toNat_natCast]
      generalize seeL St.cslot St.croot (xs.drop (m + 1)) lv lv = t7 at *
      have hl7' : (u.reverse ++ [node]).length + t7.length ≤ 1000000 := by simp at *; omega
      have O6w := Lib.hid (O6h.out.below hb7)
      have HF := Lib.hid hfin
      obtain ⟨A7, c7, rfl, I7⟩ := O7.ints
      clear O6h hfin O7
      go_wp2_with (at_builtin; go_must (refine wpList_append_ints rfl _ _ rfl rfl O6w.out rfl rfl I7 hl7' (hb6.trans (hb7.mono hs6)) (by omega) ?_); intro v8 w8 O8 hb8 hg8; have O8h := Lib.hid O8; clear O8 hg8)
      go_ret
      rw [HF.out]
      exact ⟨_, rfl, ownsRow_base O8h.out (by omega), (hb.trans (hb3.mono hs1)).trans (hb8.mono (by omega))⟩
end Go.Proofs.Ytpmeffdcbjakoaa
