/- The law SeePart. -/
import Derived.Test.YtpmeffdcbjakoaaSee
namespace Go.Proofs.Ytpmeffdcbjakoaa
set_option linter.unusedVariables false
set_option linter.unusedSimpArgs false
open Go.RowKit

theorem plL_spec (node : Int) (l : List (Nat × St)) : ∀ lv : Int, (plL node l lv = (-1, 0) ∧ ∀ x ∈ l, x.2.node ≠ node) ∨ ∃ x ∈ l, x.2.node = node ∧ (plL node l lv).1 = (x.1 : Int) := by
  induction l with
  | nil => intro lv; exact .inl ⟨rfl, fun x hx => by simp at hx⟩
  | cons x r ih =>
    intro lv
    unfold plL
    by_cases h : x.2.node = node
    · rw [if_pos h]; exact .inr ⟨x, by simp, h, rfl⟩
    · rw [if_neg h]
      rcases ih (lv + b2i x.2.croot - b2i x.2.cslot) with ⟨h1, h2⟩ | ⟨y, hy, h1, h2⟩
      · refine .inl ⟨h1, fun z hz => ?_⟩
        rcases List.mem_cons.1 hz with rfl | hz
        · exact h
        · exact h2 z hz
      · exact .inr ⟨y, by simp [hy], h1, h2⟩
theorem placeP_spec (xs : List St) (node : Int) : (placeP xs node = (-1, 0) ∧ ∀ k, k < xs.length → (xs.getD k default).node ≠ node) ∨ ∃ m, m < xs.length ∧ (xs.getD m default).node = node ∧ (placeP xs node).1 = (m : Int) := by
  rcases plL_spec node (upto (backF xs) xs.length) 0 with ⟨h, h2⟩ | ⟨x, hx, h, h2⟩
  · refine .inl ⟨h, fun k hk => ?_⟩
    have := h2 (backF xs (xs.length - 1 - k)) (by simp only [upto, List.mem_map, List.mem_range]; exact ⟨_, by omega, rfl⟩)
    simp only [backF] at this
    rwa [show xs.length - 1 - (xs.length - 1 - k) = k by omega] at this
  · right
    simp only [upto, List.mem_map, List.mem_range] at hx
    obtain ⟨k, hk, rfl⟩ := hx
    exact ⟨xs.length - 1 - k, by omega, h, h2⟩
theorem seeL_sub (more less : St → Bool) (xs : List St) : ∀ lv lim : Int, List.Sublist (seeL more less xs lv lim) (xs.map St.node) := by
  induction xs with
  | nil => intro lv lim; exact List.Sublist.refl _
  | cons x r ih =>
    intro lv lim
    rw [seeL_cons, List.map_cons]
    have h2 : List.Sublist (if less x = true then seeL more less r (lv + b2i (more x) - 1) (min lim (lv + b2i (more x) - 1)) else seeL more less r (lv + b2i (more x)) lim) (r.map St.node) := by
      split
      · exact ih _ _
      · exact ih _ _
    split
    · exact h2.cons_cons _
    · exact h2.cons _
theorem split_at (xs : List St) (m : Nat) (h : m < xs.length) : xs = xs.take m ++ xs.getD m default :: xs.drop (m + 1) := by
  rw [← drop_getD xs h, List.take_append_drop]
theorem seenP_sub (xs : List St) (node : Int) : List.Sublist (seenP xs node) (xs.map St.node) ∧ (node ∈ seenP xs node ↔ node ∈ xs.map St.node) ∧ (node ∉ xs.map St.node → seenP xs node = []) := by
  rcases placeP_spec xs node with ⟨h, h2⟩ | ⟨m, hm, hn, h⟩
  · have e : seenP xs node = [] := by unfold seenP; rw [h]; rfl
    have hno : node ∉ xs.map St.node := fun hx => by
      obtain ⟨x, hx, he⟩ := List.mem_map.1 hx
      obtain ⟨k, hk, rfl⟩ := List.getElem_of_mem hx
      refine h2 k hk ?_
      rw [List.getD_eq_getElem?_getD, List.getElem?_eq_getElem hk]
      exact he
    rw [e]
    exact ⟨List.nil_sublist _, ⟨fun h => by simp at h, fun h => absurd h hno⟩, fun _ => rfl⟩
  · have e : seenP xs node = (seeL St.croot St.cslot ((xs.take m).reverse) (placeP xs node).2 (placeP xs node).2).reverse ++ [node] ++ seeL St.cslot St.croot (xs.drop (m + 1)) (placeP xs node).2 (placeP xs node).2 := by
      unfold seenP
      rw [h, if_neg (by omega), Int.toNat_natCast]
    have hs : xs.map St.node = (xs.take m).map St.node ++ [node] ++ (xs.drop (m + 1)).map St.node := by
      conv => lhs; rw [split_at xs m hm]
      rw [List.map_append, List.map_cons, hn]; simp
    refine ⟨?_, ⟨fun _ => by rw [hs]; simp, fun _ => by rw [e]; simp⟩, fun hno => absurd (by rw [hs]; simp) hno⟩
    rw [e, hs]
    refine List.Sublist.append (List.Sublist.append ?_ (List.Sublist.refl _)) (seeL_sub _ _ _ _ _)
    have := (seeL_sub St.croot St.cslot ((xs.take m).reverse) (placeP xs node).2 (placeP xs node).2).reverse
    rwa [← List.map_reverse, List.reverse_reverse] at this

theorem greedy_eq {l xs : List Int} {k i : Nat} (h : List.Sublist (l.drop k) (xs.drop i)) (hk : k < l.length) (hi : i < xs.length) (he : xs.getD i 0 = l.getD k 0) : List.Sublist (l.drop (k + 1)) (xs.drop (i + 1)) := by
  rw [List.drop_eq_getElem_cons hk, List.drop_eq_getElem_cons hi] at h
  rw [List.getD_eq_getElem?_getD, List.getD_eq_getElem?_getD, List.getElem?_eq_getElem hk, List.getElem?_eq_getElem hi] at he
  simp only [Option.getD_some] at he
  rw [he] at h
  exact List.cons_sublist_cons.1 h
theorem sub_ne {a b : Int} {l r : List Int} (h : List.Sublist (a :: l) (b :: r)) (hne : ¬ b = a) : List.Sublist (a :: l) r := by
  cases h with
  | cons _ h => exact h
  | cons_cons _ _ => exact absurd rfl hne
theorem greedy_ne {l xs : List Int} {k i : Nat} (h : List.Sublist (l.drop k) (xs.drop i)) (hk : k < l.length) (hi : i < xs.length) (he : ¬ xs.getD i 0 = l.getD k 0) : List.Sublist (l.drop k) (xs.drop (i + 1)) := by
  rw [List.drop_eq_getElem_cons hi] at h
  rw [List.getD_eq_getElem?_getD, List.getD_eq_getElem?_getD, List.getElem?_eq_getElem hk, List.getElem?_eq_getElem hi] at he
  simp only [Option.getD_some] at he
  rw [List.drop_eq_getElem_cons hk] at h ⊢
  exact sub_ne h he
theorem take_succ_mem (l : List Int) (k : Nat) (hk : k < l.length) (n : Int) : decide (n ∈ l.take (k + 1)) = (decide (n ∈ l.take k) || decide (l.getD k 0 = n)) := by
  rw [List.take_add_one, List.getElem?_eq_getElem hk, List.getD_eq_getElem?_getD, List.getElem?_eq_getElem hk, Option.toList_some, ← Bool.decide_or]
  refine decide_eq_decide.2 ?_
  simp only [List.mem_append, List.mem_singleton, Option.getD_some]
  exact or_congr Iff.rfl eq_comm
theorem nodes_getD (xs : List St) (k : Nat) (hk : k < xs.length) : (xs.map St.node).getD k 0 = (xs.getD k default).node := by
  rw [List.getD_eq_getElem?_getD, List.getD_eq_getElem?_getD, List.getElem?_map, List.getElem?_eq_getElem hk]; rfl

set_option maxRecDepth 100000 in
set_option maxHeartbeats 4000000 in
theorem seePart_walk (A : Option Addr) (c : Nat) (xs : List St) (node : Int) (w : World) (hI : StAt w A xs) (hlc : xs.length ≤ c) (hcm : c ≤ maxLen) (hw : (Lit.int .i64 node).wf = true) :
    Calls Try.prog 10 #[.slice A xs.length c, .int .i64 node] w fun e w' => e = .returned (.bool true) ∧ Below w.heap.size w w' := by
  have hl63 : xs.length ≤ 2 ^ 63 - 1 := by unfold maxLen at hcm; omega
  have HA := Lib.hid (awake15 w)
  by_cases hbig : 300 < xs.length
  · clear hI hlc hcm
    go_enter Try.func10, Try.ntmps10
    go_wp2_with (go_at_call 37; refine HA.out.mono ?_; rintro e w1 ⟨rfl, hb⟩)
    go_ret
    exact ⟨rfl, hb⟩
  · have HF := fun w1 (h : StAt w1 A xs) => from_calls A c xs node (by omega) hlc hcm w1 h
    obtain ⟨p1, p2, p3⟩ := seenP_sub xs node
    have hll := p1.length_le
    rw [List.length_map] at hll
    generalize seenP xs node = l at *
    have HI := Lib.hid hI
    have HF' := Lib.hid HF
    clear hI HF hcm
    go_enter Try.func10, Try.ntmps10
    go_wp2_with (go_at_call 37; refine HA.out.mono ?_; rintro e w1 ⟨rfl, hb⟩)
    have I1 := HI.out.below hb
    go_at_call 38
    refine (HF'.out w1 I1).mono ?_
    rintro e w2 ⟨v2, rfl, O2, hb2⟩
    have I2 := I1.below hb2
    obtain ⟨A2, c2, rfl, J2⟩ := O2.ints
    have B2 : Below w.heap.size w w2 := hb.trans (hb2.mono hb.size)
    have P1 := Lib.hid p1
    have P2 := Lib.hid p2
    have P3 := Lib.hid p3
    have HI2 := Lib.hid I2
    have HJ2 := Lib.hid J2
    clear O2 HF' I1 I2 J2 hb hb2 p1 p2 p3
    go_wp2
    go_loopw [6, 7, 8] (fun kv hv iv wr => ∃ k i n : Nat, k ≤ l.length ∧ i ≤ xs.length ∧ kv = .int .i64 k ∧ hv = .bool (decide (node ∈ l.take k)) ∧ iv = .int .i64 i ∧ wr = w2.drewN n ∧ List.Sublist (l.drop k) ((xs.map St.node).drop i)) (fun _ _ iv _ => 300 - (intOf iv).toNat)
    case atStart => exact ⟨0, 0, 0, by omega, by omega, rfl, by simp, rfl, rfl, P1.out⟩
    case round =>
      obtain ⟨k, i, n, hk, hi, rfl, rfl, rfl, rfl, hsub⟩ := hrel
      by_cases h12 : i < xs.length ∧ k < l.length
      · obtain ⟨h1, h2⟩ := h12
        obtain ⟨b, off, rfl, a0, _⟩ := HI2.out.get h1
        obtain ⟨b', off', rfl, b0⟩ := HJ2.out.get h2
        have t1 := nodes_getD xs i h1
        have t2 := take_succ_mem l k h2 node
        have g1 := Lib.hid (fun e => greedy_eq hsub h2 (by rw [List.length_map]; exact h1) e)
        have g2 := Lib.hid (fun e => greedy_ne hsub h2 (by rw [List.length_map]; exact h1) e)
        rw [t1] at g1 g2
        generalize (xs.getD i default).node = x at *
        generalize l.getD k 0 = y at *
        generalize hhd : decide (node ∈ l.take k) = hd at *
        have HD := Lib.hid hhd
        clear hhd
        have T2 := Lib.hid t2
        clear t2 t1 hsub
        go_wp2_with fail
        by_cases he : x = y
        · subst he
          have g1' := Lib.hid (g1.out rfl)
          clear g1 g2
          go_quiet (fail)
          cases hd
          · go_wp2
            go_roundw
            case rel => exact ⟨k + 1, i + 1, _, by omega, by omega, by go_num, by rw [T2.out]; simp; rfl, by go_num, rfl, g1'.out⟩
            case measure => simp [intOf]; omega
          · go_wp2
            go_roundw
            case rel => exact ⟨k + 1, i + 1, _, by omega, by omega, by go_num, by rw [T2.out]; simp, by go_num, rfl, g1'.out⟩
            case measure => simp [intOf]; omega
        · have g2' := Lib.hid (g2.out he)
          have he' : (x == y) = false := by simp [he]
          clear g1 g2 T2
          go_quiet (fail)
          go_wp2
          go_roundw
          case rel => exact ⟨k, i + 1, _, by omega, by omega, rfl, by rw [HD.out], by go_num, rfl, g2'.out⟩
          case measure => simp [intOf]; omega
      · have hk2 : k = l.length := by
          by_cases h1 : i < xs.length
          · have : ¬ k < l.length := fun h => h12 ⟨h1, h⟩
            omega
          · rw [@List.drop_eq_nil_of_le _ (xs.map St.node) _ (by rw [List.length_map]; omega)] at hsub
            have := List.eq_nil_of_sublist_nil hsub
            have := congrArg List.length this
            rw [List.length_drop, List.length_nil] at this
            omega
        subst hk2
        rw [List.take_length]
        have p2 := P2.out
        have p3 := P3.out
        have e : decide (node ∈ l) = decide (node ∈ xs.map St.node) := decide_eq_decide.2 p2
        rw [e]
        have HP3 := Lib.hid p3
        clear p2 p3 e hsub h12
        generalize hT : decide (node ∈ xs.map St.node) = T
        have HT := Lib.hid hT
        clear hT
        rcases Nat.lt_or_ge i xs.length with hi' | hi'
        all_goals
          go_wp2
          go_loopw [9, 10] (fun tv jv wr => ∃ j n' : Nat, j ≤ xs.length ∧ tv = .bool (decide (node ∈ (xs.map St.node).take j)) ∧ jv = .int .i64 j ∧ wr = w2.drewN n') (fun _ jv _ => 300 - (intOf jv).toNat)
          case atStart => exact ⟨0, _, by omega, by simp, rfl, rfl⟩
          case round =>
            obtain ⟨j, n', hj, rfl, rfl, rfl⟩ := hrel
            by_cases h1 : j < xs.length
            · obtain ⟨b, off, rfl, a0, _⟩ := HI2.out.get h1
              have t1 := nodes_getD xs j h1
              have t2 := take_succ_mem (xs.map St.node) j (by rw [List.length_map]; exact h1) node
              rw [t1] at t2
              generalize (xs.getD j default).node = x at *
              generalize hhd : decide (node ∈ (xs.map St.node).take j) = hd at *
              have HD := Lib.hid hhd
              have T2 := Lib.hid t2
              clear hhd t1 t2
              cases hd
              · go_wp2
                go_roundw
                case rel => exact ⟨j + 1, _, by omega, by rw [T2.out]; simp; rfl, by go_num, rfl⟩
                case measure => simp [intOf]; omega
              · go_wp2
                go_roundw
                case rel => exact ⟨j + 1, _, by omega, by rw [T2.out]; simp, by go_num, rfl⟩
                case measure => simp [intOf]; omega
            · rw [List.take_of_length_le (by rw [List.length_map]; omega), HT.out]
              cases T
              · have hnil : l = [] := HP3.out (of_decide_eq_false HT.out)
                clear HP3 HT
                subst hnil
                go_wp2
                go_ret
                exact ⟨rfl, below_drewN B2 _⟩
              · go_wp2
                go_ret
                exact ⟨rfl, below_drewN B2 _⟩
end Go.Proofs.Ytpmeffdcbjakoaa
