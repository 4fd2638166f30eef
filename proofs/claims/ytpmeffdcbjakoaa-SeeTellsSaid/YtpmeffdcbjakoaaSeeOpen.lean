/- The law SeeOpen. -/
import Derived.Test.YtpmeffdcbjakoaaSeePart
import Derived.Deep.RegionLaw
namespace Go.Proofs.Ytpmeffdcbjakoaa
set_option linter.unusedVariables false
set_option linter.unusedSimpArgs false
open Go.RowKit

/-- An entry without its closed trees. -/
def St.opn (x : St) : St := ⟨x.node, x.target, x.related, false, false⟩
theorem plL_open (node : Int) (l : List (Nat × St)) (h : ∀ x ∈ l, x.2.croot = false ∧ x.2.cslot = false) : (plL node l 0).2 = 0 := by
  induction l with
  | nil => rfl
  | cons x r ih =>
    obtain ⟨h1, h2⟩ := h x (by simp)
    unfold plL
    rw [h1, h2]
    split
    · rfl
    · exact ih fun y hy => h y (by simp [hy])
theorem seeL_open (more less : St → Bool) (xs : List St) (h : ∀ x ∈ xs, more x = false ∧ less x = false) : ∀ lv : Int, seeL more less xs lv lv = xs.map St.node := by
  induction xs with
  | nil => intro lv; rfl
  | cons x r ih =>
    intro lv
    obtain ⟨h1, h2⟩ := h x (by simp)
    rw [seeL_cons, h1, h2]
    have e : lv + b2i false = lv := by unfold b2i; simp
    rw [e, if_pos (Int.le_refl _), if_neg (by simp), ih fun y hy => h y (by simp [hy])]
    rfl
theorem opn_mem {xs : List St} {x : St} (h : x ∈ xs.map St.opn) : x.croot = false ∧ x.cslot = false := by
  obtain ⟨y, _, rfl⟩ := List.mem_map.1 h
  exact ⟨rfl, rfl⟩
theorem placeP_open (xs : List St) (node : Int) : (placeP (xs.map St.opn) node).2 = 0 := plL_open _ _ fun x hx => by
  simp only [upto, List.mem_map, List.mem_range] at hx
  obtain ⟨k, hk, rfl⟩ := hx
  refine opn_mem (xs := xs) ?_
  simp only [backF]
  rw [List.getD_eq_getElem?_getD, List.getElem?_eq_getElem (by omega)]
  exact List.getElem_mem _
theorem seenP_open (xs : List St) (k : Nat) (hk : k < xs.length) : seenP (xs.map St.opn) ((xs.map St.opn).getD k default).node = xs.map St.node := by
  have hn : (xs.map St.opn).map St.node = xs.map St.node := by rw [List.map_map]; rfl
  rcases placeP_spec (xs.map St.opn) ((xs.map St.opn).getD k default).node with ⟨h, h2⟩ | ⟨m, hm, hn2, h⟩
  · exact absurd rfl (h2 k (by rw [List.length_map]; exact hk))
  · unfold seenP
    rw [h, if_neg (by omega), Int.toNat_natCast, placeP_open, seeL_open, seeL_open, List.map_reverse, List.reverse_reverse, ← hn]
    · conv => rhs; rw [split_at _ m hm]
      rw [List.map_append, List.map_cons, hn2]; simp
    · intro x hx; have := opn_mem (List.mem_of_mem_drop hx); exact ⟨this.2, this.1⟩
    · intro x hx; exact opn_mem (List.mem_of_mem_take (List.mem_reverse.1 hx))
theorem flatS_append (xs ys : List St) : flatS (xs ++ ys) = flatS xs ++ flatS ys := by unfold flatS; rw [List.flatMap_append]
theorem flatS_snoc (xs : List St) (x : St) : flatS (xs ++ [x]) = flatS xs ++ [.int .i64 x.node, .int .i64 x.target, .int .i64 x.related, .bool x.croot, .bool x.cslot] := by
  unfold flatS; rw [List.flatMap_append]; simp [St.cells]
theorem owns_da {w : World} {B : Nat} {e : TypeId} {size : Nat} {v : Value} {n : Nat} {xs : List Value} (h : w.ownsRow B e size v n xs) (o : Obj) : (w.drew.alloc o).ownsRow B e size v n xs :=
  ownsRow_below h (((Below.refl _ w).drew).alloc (Nat.le_refl _) _)
theorem take_snoc_map {α β : Type} [Inhabited α] (f : α → β) (xs : List α) (k : Nat) (h : k < xs.length) : (xs.take (k + 1)).map f = (xs.take k).map f ++ [f (xs.getD k default)] := by
  rw [List.take_add_one, List.getElem?_eq_getElem h, List.getD_eq_getElem?_getD, List.getElem?_eq_getElem h, List.map_append]; rfl

theorem owns_grown {w w' : World} {B B5 : Nat} {e e5 : TypeId} {size size5 : Nat} {v v5 : Value} {n n5 : Nat} {xs xs5 : List Value} (h : w.ownsRow B e size v n xs) (h5 : w.ownsRow B5 e5 size5 v5 n5 xs5) (hg : w.grownBy w' v5.ownBlock) (hne : e ≠ e5) : w'.ownsRow B e size v n xs := by
  obtain ⟨h1, h2⟩ := h
  refine ⟨h1, ?_⟩
  rcases h2 with h2 | ⟨g, cap, cur, hv, hgB, hh, r⟩
  · exact .inl h2
  · refine .inr ⟨g, cap, cur, hv, hgB, (hg.block g (Array.getElem?_eq_some_iff.1 hh).1 ?_).trans hh, r⟩
    rcases h5.2 with ⟨rfl, _⟩ | ⟨g5, cap5, cur5, rfl, _, hh5, _⟩
    · simp [Value.ownBlock]
    · intro he
      have : g = g5 := by simpa [Value.ownBlock] using he
      subst this
      exact Blk.ne_ (show Blk w g e cur from hh) (show Blk w g e5 cur5 from hh5) hne rfl
theorem rem_nat (a : Int) (n : Nat) (hw : (Lit.int .u16 a).wf = true) (hn : 0 < n) : ∃ j : Nat, (wrap64 a).tmod (n : Int) = (j : Int) ∧ j < n := by
  have h : 0 ≤ a ∧ a ≤ 65535 := by
    simp [Lit.wf, IntKind.min, IntKind.max, IntKind.signed, IntKind.bits] at hw; omega
  have e : wrap64 a = a := by unfold wrap64; omega
  obtain ⟨m, rfl⟩ := Int.eq_ofNat_of_zero_le h.1
  refine ⟨m % n, ?_, Nat.mod_lt _ hn⟩
  rw [e]; rfl
theorem step_one (w : World) (x : St) (t : TypeId) : StAt (w.alloc (.cells x.cells t)) (some ⟨w.heap.size, 0, none⟩) [x] := SliceAt.cells fun i j hi hj => by
  obtain rfl : i = 0 := by simpa using hi
  rw [(Blk.new w t _).cell]
  obtain rfl | rfl | rfl | rfl | rfl : j = 0 ∨ j = 1 ∨ j = 2 ∨ j = 3 ∨ j = 4 := by omega
  all_goals rfl
theorem flatS_one (xs : List St) : ∀ u ∈ flatS xs, u.oneCell' = true := by
  intro u hu
  unfold flatS at hu
  obtain ⟨x, _, hu⟩ := List.mem_flatMap.1 hu
  simp only [St.cells, List.mem_cons, List.not_mem_nil, or_false] at hu
  rcases hu with rfl | rfl | rfl | rfl | rfl <;> rfl

set_option maxRecDepth 100000 in
set_option maxHeartbeats 4000000 in
theorem seeOpen_walk (A : Option Addr) (c : Nat) (xs : List St) (at_ : Int) (w : World) (hI : StAt w A xs) (hlc : xs.length ≤ c) (hcm : c ≤ maxLen) (hw : (Lit.int .u16 at_).wf = true) :
    Calls Try.prog 12 #[.slice A xs.length c, .int .u16 at_] w fun e w' => e = .returned (.bool true) ∧ Below w.heap.size w w' := by
  have hl63 : xs.length ≤ 2 ^ 63 - 1 := by unfold maxLen at hcm; omega
  have HA := Lib.hid (awake15 w)
  by_cases hbig : xs.length = 0 ∨ 300 < xs.length
  · clear hI hlc
    have H0 : xs.length = 0 ∨ (0 < xs.length ∧ 300 < xs.length) := by omega
    rcases H0 with h0 | ⟨h0, h1⟩
    · have e1 : (((xs.length : Nat) : Int) == 0) = true := by simp; exact List.eq_nil_of_length_eq_zero h0
      go_enter Try.func12, Try.ntmps12
      go_wp2_with (go_at_call 37; refine HA.out.mono ?_; rintro e w1 ⟨rfl, hb⟩)
      go_ret
      exact ⟨rfl, hb⟩
    · have e1 : (((xs.length : Nat) : Int) == 0) = false := by simp; rintro rfl; simp at h0
      have e2 : decide (300 < ((xs.length : Nat) : Int)) = true := by simp; omega
      go_enter Try.func12, Try.ntmps12
      go_wp2_with (go_at_call 37; refine HA.out.mono ?_; rintro e w1 ⟨rfl, hb⟩)
      go_ret
      exact ⟨rfl, hb⟩
  · obtain ⟨i0, hi, hz0, hz1, hz2⟩ := info_parts info_step
    have hn0 : 0 < xs.length := by omega
    have hn1 : xs.length ≤ 300 := by omega
    have e1 : (((xs.length : Nat) : Int) == 0) = false := by simp; rintro rfl; simp at hn0
    have e2 : decide (300 < ((xs.length : Nat) : Int)) = false := by simp; omega
    have HI := Lib.hid hI
    clear hI hcm
    go_enter Try.func12, Try.ntmps12
    go_wp2_with (go_at_call 37; refine HA.out.mono ?_; rintro e w1 ⟨rfl, hb⟩)
    clear e1 e2
    go_loopw [5, 6, 7] (fun qv av iv wr => ∃ k : Nat, k ≤ xs.length ∧ wr.ownsRow w.heap.size 46 5 qv k (flatS ((xs.take k).map St.opn)) ∧ OwnI wr w.heap.size av ((xs.take k).map St.node) ∧ iv = .int .i64 k ∧ Below w.heap.size w wr) (fun _ _ iv _ => 300 - (intOf iv).toNat)
    case atStart => exact ⟨0, by omega, World.ownsRow_nil _ _ _ _, OwnI.nil _ _, rfl, hb⟩
    case round =>
      obtain ⟨k, hk, O5, O6, rfl, B⟩ := hrel
      by_cases hlt : k < xs.length
      · have IR := HI.out.below B
        obtain ⟨b, off, rfl, a0, a1, a2, _⟩ := IR.get hlt
        have s1 := take_snoc_map St.opn xs k hlt
        have s2 := take_snoc_map St.node xs k hlt
        generalize hx : xs.getD k default = x at *
        have HX := Lib.hid hx
        clear hx
        have S1 := Lib.hid s1
        have S2 := Lib.hid s2
        have H5 := Lib.hid (fun o => owns_da O5 o)
        have H6 := Lib.hid O6
        have HB := Lib.hid B
        have hsz := B.size
        clear s1 s2 O5 O6 B
        have HS := Lib.hid (step_one wr.drew x.opn 46).reads
        go_wp2_with fail
        go_region_law (refine step_append_any _ rfl (.tmp 25) (.tmp 42) 40 rfl w.heap.size 46 i0 _ 5 32 Try.underlying40 hi hz0 hz1 hz2 rfl (by decide) u5 k (flatS ((xs.take k).map St.opn)) (by simp [Act.eval, Act.put]) (H5.out _) _ (some ⟨wr.heap.size, 0, none⟩) 1 1 (flatS [x.opn]) (by simp [Act.eval, Act.put]) HS.out (flatS_one _) (by unfold maxLen; omega) (by omega) (by simp; omega) ?_; intro v' w2 h1 h2 h3; have B2 : Below w.heap.size w w2 := (((HB.out.drew).alloc hsz _).grown h2 (by simp; omega) fun q hq => ((H5.out (.cells #[] 3)).lt _ hq).1); have O6 : OwnI w2 w.heap.size u6 ((xs.take k).map St.node) := owns_grown (owns_da H6.out _) (H5.out _) h2 (by decide); rw [← flatS_append, ← S1.out] at h1; have K5 := Lib.hid h1; have K6 := Lib.hid O6; have HB2 := Lib.hid B2; obtain ⟨b', off', he, c0, _⟩ := (HI.out.below B2).get hlt; cases he; rw [HX.out] at c0; have hsz2 := B2.size; have hl6 : ((xs.take k).map St.node).length + 1 ≤ 1000000 := (by simp; omega); have HB3 := Lib.hid (B2.alloc (B := w.heap.size) hsz2 (.cells #[.int .i64 x.node] 3)); clear h1 h2 h3 O6 B2)
        all_goals
          go_wp2_with (at_builtin; go_must (refine wpList_append_ints rfl _ _ rfl rfl (K6.out.alloc _) rfl rfl (cell_one x.node _) hl6 HB3.out (by simp; omega) ?_); intro v6 w3 O7 hb7 hg7; have K5a := Lib.hid (owns_grown (ownsRow_below K5.out ((Below.refl _ w2).alloc (Nat.le_refl _) _)) (K6.out.alloc _) hg7 (by decide)); have K6a := Lib.hid O7; have HB4 := Lib.hid hb7; clear O7 hb7 hg7)
          go_roundw
          case rel => exact ⟨k + 1, by omega, K5a.out, by rw [S2.out]; exact K6a.out, by go_num, HB4.out⟩
          case measure => simp [intOf]; omega
      · obtain rfl : k = xs.length := by omega
        rw [List.take_length] at O5 O6
        rcases O5.2 with ⟨_, h0⟩ | ⟨g, cap, cur, rfl, hg, hh, hnc, hcm', hsz, ht⟩
        · omega
        · have OS := OwnS.of_row (w := wr) (xs := xs.map St.opn) (by rw [List.length_map]; exact O5)
          rcases OS with ⟨h1, _⟩ | ⟨g', cap', cs', h1, _, h2, h3⟩
          · cases h1
          · rw [List.length_map] at h1
            cases h1
            have IQ : StAt wr (some ⟨g, 0, none⟩) (xs.map St.opn) := SliceAt.cells fun i j h1 h2' => by rw [Nat.zero_add, h2.cell]; exact h3 i j h1 h2'
            obtain ⟨j, hj, hjl⟩ : ∃ j : Nat, (wrap64 at_).tmod ((xs.length : Nat) : Int) = (j : Int) ∧ j < xs.length := rem_nat at_ xs.length hw hn0
            obtain ⟨b, off, he, a0, _⟩ := IQ.get (k := j) (by rw [List.length_map]; exact hjl)
            cases he
            rw [Nat.zero_add] at a0
            have hsee := seenP_open xs j hjl
            generalize ((xs.map St.opn).getD j default).node = x at *
            have HF := from_calls (some ⟨g, 0, none⟩) cap (xs.map St.opn) x (by rw [List.length_map]; omega) (by rw [List.length_map]; exact hnc) hcm' wr IQ
            have HL := fun w2 (h : StAt w2 (some ⟨g, 0, none⟩) (xs.map St.opn)) => level_calls (some ⟨g, 0, none⟩) cap (xs.map St.opn) x (by rw [List.length_map]; omega) w2 h
            rw [List.length_map, hsee] at HF
            rw [List.length_map, placeP_open] at HL
            have hnl : (xs.map St.node).length ≤ 300 := by rw [List.length_map]; exact hn1
            generalize xs.map St.node = ns at *
            obtain ⟨A6, c6, rfl, I6⟩ := OwnI.ints (show OwnI wr w.heap.size u6 ns from O6)
            have HF' := Lib.hid HF
            have HL' := Lib.hid HL
            have HQ := Lib.hid IQ
            have H6 := Lib.hid I6
            have HBw := Lib.hid B
            have hszw := B.size
            clear HF HL hsee IQ I6 O6 O5 hh ht h3 h2 B
            go_wp2_with fail
            go_at_call 38
            refine HF'.out.mono ?_
            rintro e w2 ⟨v2, rfl, O2, hb2⟩
            obtain ⟨A2, c2, rfl, J2⟩ := O2.ints
            clear O2
            go_wp2_with fail
            go_at_call 40
            refine (ints_same A2 c2 ns A6 c6 ns w2 J2 (H6.out.below hb2) (by omega) (by omega)).mono ?_
            rintro e w3 ⟨rfl, n, rfl⟩
            rw [decide_eq_true rfl]
            have hz := (hb2.cell (p := ⟨g, j * 5, none⟩) (World.block_lt_of_cell? wr _ a0)).trans a0
            go_wp2_with fail
            go_at_call 39
            refine (HL'.out (w2.drewN n) (HQ.out.below (below_drewN hb2 n))).mono ?_
            rintro e w4 ⟨rfl, hb4⟩
            go_wp2
            go_ret
            refine ⟨rfl, (HBw.out.trans (hb2.mono hszw)).trans ?_⟩
            exact (below_drawn _ w2 n).trans (hb4.mono (by have := hb2.size; show w.heap.size ≤ w2.heap.size; omega))
end Go.Proofs.Ytpmeffdcbjakoaa
