/- see: place, From. -/
import Derived.Test.YtjkidecaciomgaaFoV2
namespace Go.Proofs.Ytjkidecaciomgaa
set_option linter.unusedVariables false
set_option linter.unusedSimpArgs false
set_option maxRecDepth 100000
open Go.RowKit

theorem stL_cell (x : St) : ∀ j, j < 5 → (stL x)[j]? = some (.v (x.cell j))
  | 0, _ => rfl
  | 1, _ => rfl
  | 2, _ => rfl
  | 3, _ => rfl
  | 4, _ => rfl
  | n + 5, h => by omega
theorem list_stAt {w : World} {S : Bl} {A : Option Addr} {xs : List St} (h : RowAt w S A (stE.all xs)) : StAt w A xs := fun hn => by
  rcases h with h | ⟨b, off, hA, hb, us, h1, h2⟩
  · exfalso
    have := stE.all_len xs
    rw [h] at this
    have e : stE.sz = 5 := rfl
    rw [e] at this
    simp at this
    omega
  · refine ⟨b, off, hA, fun i j hi hj => ?_⟩
    have hx : xs[i]? = some xs[i] := by simp [hi]
    have h3 := congrArg (fun z => z[j]?) (stE.all_at hx)
    have e : stE.sz = 5 := rfl
    simp only [List.getElem?_take, List.getElem?_drop, e] at h3
    rw [if_pos hj] at h3
    obtain ⟨u, hu1, hu2⟩ := h1.get (h3.trans (stL_cell xs[i] j hj))
    simp only [AVR] at hu2
    subst hu2
    have := h2 _ _ hu1
    rw [Addr.add_lit, ← Nat.add_assoc] at this
    dsimp only
    rw [List.getD_eq_getElem?_getD, hx]
    exact this
theorem place_f {xs : List St} (node : Int) (hlen : xs.length ≤ 1000) : Fun Try.prog 172 [.sem (listS stE xs), .v (.int .i64 node)] [] (.tup [.v (.int .i64 (placeP xs node).1), .v (.int .i64 (placeP xs node).2)]) [] := fun ι F S w vals hh hv => by
  simp only [AVRs, AVR] at hv
  obtain ⟨u, r, rfl, ⟨A, c, rfl, hc, hr⟩, u2, r2, rfl, rfl, rfl⟩ := hv
  refine (place_calls A c xs node hlen w (list_stAt hr)).mono fun e w' ⟨he, hb⟩ => ?_
  exact ⟨ι, F, S, _, he, ⟨fun _ _ _ h => (by cases h), fun _ _ h => (by cases h), fun _ _ _ _ h => (by cases h), fun _ _ h => (by cases h), fun k hk => Nat.lt_of_lt_of_le (hh.bnd k hk) hb.size⟩, by simp [AVR, AVRs], ⟨fun _ h => h, fun k _ hk => hb.block k hk⟩, fun _ _ _ _ => rfl, But.of_below hb, fun k hk => .inl hk, fun _ _ h => (by cases h)⟩
theorem from_f {xs : List St} (node : Int) (hlen : xs.length ≤ 1000) : Fun Try.prog 133 [.sem (listS stE xs), .v (.int .i64 node)] [] (.res 0) [(0, .obj (ownS 3 intE (seenP xs node)))] := by
  have hp := place_f node hlen
  rcases placeP_cases xs node with ⟨_, h⟩ | ⟨m, s, lv, hs, he, h, h1, h2⟩
  · have e1 : seenP xs node = [] := by
      unfold seenP
      rw [h]
      rfl
    rw [h] at hp
    dsimp only at hp
    rw [e1]
    refine fun_intro 40 Try.func133 rfl rfl rfl (fun ι F S w => ?_)
    (repeat (first | (apply v_cx; exact rfl; exact cbA rfl; (first | exact hp); exact rfl; exact rfl) | (apply v_move; exact rfl; exact rfl) | (apply v_assign; exact rfl; exact rfl) | refine run_seq ?_ | refine run_region ?_ | refine runL_nil ?_ | (apply v_extract; exact rfl; exact rfl; exact rfl) | (apply run_cond; exact rfl; rotate_left; (focus (intro hb; cases hb; done)); intro hb; clear hb) | (apply v_lss; exact rfl; exact rfl; exact rfl)))
    refine run_own 4 4 3 intE rfl rfl rfl rfl ?_
    exact run_ret (mp [(0, 4)]) _ Try.func133 ⟨_, _, rfl, rfl, rfl⟩ rfl trivial ⟨rfl, trivial⟩ rfl
  · have hm := (List.getElem?_eq_some_iff.1 hs).1
    have e1 : seenP xs node = (seeL St.cr St.cs ((xs.take ((m : Int)).toNat).reverse) lv lv).reverse ++ [node] ++ seeL St.cs St.cr (xs.drop (((m : Int) + 1)).toNat) lv lv := by
      unfold seenP
      rw [h]
      dsimp only
      rw [if_neg (by omega), show (((m : Int) + 1)).toNat = ((m : Int)).toNat + 1 by omega]
    rw [h] at hp
    dsimp only at hp
    rw [e1]
    have hcl := clone_st (xs := xs.take ((m : Int)).toNat) (by simp; omega)
    have hrv := rev_st (xs := xs.take ((m : Int)).toNat) (by simp; omega)
    have hw1 := walk_rs (xs := (xs.take ((m : Int)).toNat).reverse) lv (by simp; omega) (by omega)
    have hl1 := seeL_length St.cr St.cs ((xs.take ((m : Int)).toNat).reverse) lv lv
    rw [List.length_reverse, List.length_take] at hl1
    have hri := rev_i (xs := seeL St.cr St.cs ((xs.take ((m : Int)).toNat).reverse) lv lv) (by omega)
    have hw2 := (walk_sr (xs := xs.drop (((m : Int) + 1)).toNat) lv (by simp; omega) (by omega)).freeze
    have hl2 := seeL_length St.cs St.cr (xs.drop (((m : Int) + 1)).toNat) lv lv
    rw [List.length_drop] at hl2
    generalize hA : seeL St.cr St.cs ((xs.take ((m : Int)).toNat).reverse) lv lv = A at *
    generalize hB : seeL St.cs St.cr (xs.drop (((m : Int) + 1)).toNat) lv lv = B at *
    refine fun_intro 40 Try.func133 rfl rfl rfl (fun ι F S w => ?_)
    (repeat (first | (apply v_cx; exact rfl; exact cbA rfl; (first | exact hp); exact rfl; exact rfl) | (apply v_cOx; exact rfl; exact cbA rfl; (first | exact hcl); exact rfl; exact rfl; exact rfl; exact rfl; exact rfl) | (apply v_move; exact rfl; exact rfl) | (apply v_assign; exact rfl; exact rfl) | refine run_seq ?_ | refine run_region ?_ | refine runL_nil ?_ | refine run_skip ?_ | (apply v_extract; exact rfl; exact rfl; exact rfl) | (apply run_cond; exact rfl; (focus (intro hb; cases hb; done)); intro hb; clear hb) | (apply v_lss; exact rfl; exact rfl; exact rfl) | (apply v_sliceH; exact slA rfl; exact tyA rfl; exact rfl; exact rfl; exact rfl; exact (by omega); exact (by omega); exact rfl)))
    refine v_cR (mp [(0, 20)]) hrv rfl (cbA rfl) ⟨rfl, trivial⟩ (by kernel_rfl) (by kernel_rfl) (by kernel_rfl) (by kernel_rfl) (by kernel_rfl) (by kernel_rfl) (by kernel_rfl) (by kernel_rfl) rfl ?_
    refine runL_freeze 7 20 rfl rfl ?_
    (repeat (first | (apply v_cOx; exact rfl; exact cbA rfl; (first | exact hw1); exact rfl; exact rfl; exact rfl; exact rfl; exact rfl) | (apply v_move; exact rfl; exact rfl) | (apply v_assign; exact rfl; exact rfl) | refine run_seq ?_ | refine run_region ?_ | refine runL_nil ?_))
    refine v_cR (mp [(0, 25)]) hri rfl (cbA rfl) ⟨rfl, trivial⟩ (by kernel_rfl) (by kernel_rfl) (by kernel_rfl) (by kernel_rfl) (by kernel_rfl) (by kernel_rfl) (by kernel_rfl) (by kernel_rfl) rfl ?_
    (repeat (first | (apply v_move; exact rfl; exact rfl) | refine run_seq ?_ | refine run_region ?_ | refine runL_nil ?_))
    refine v_l intE [node] (slA rfl) (tyA rfl) rfl rfl rfl rfl rfl rfl rfl rfl rfl rfl ?_
    refine v_appendD (slA rfl) (tyA rfl) rfl rfl rfl rfl rfl rfl rfl (by simp; omega) rfl rfl rfl rfl ?_
    (repeat (first | (apply v_cx; exact rfl; exact cbA rfl; (first | exact hw2); exact rfl; exact rfl) | (apply v_move; exact rfl; exact rfl) | (apply v_assign; exact rfl; exact rfl) | refine run_seq ?_ | refine run_region ?_ | refine runL_nil ?_ | (apply v_sliceL; exact slA rfl; exact tyA rfl; exact rfl; exact rfl; exact rfl; exact (by omega); exact (by omega); exact rfl) | (apply v_add; exact rfl; exact rfl; exact rfl; exact (by omega))))
    refine v_appendD (slA rfl) (tyA rfl) rfl rfl rfl rfl rfl rfl rfl (by simp; omega) rfl rfl rfl rfl ?_
    (repeat (first | (apply v_assign; exact rfl; exact rfl) | refine runL_nil ?_))
    exact run_ret (mp [(0, 39)]) _ Try.func133 ⟨_, _, rfl, rfl, rfl⟩ rfl trivial ⟨rfl, trivial⟩ rfl
theorem from_p {xs : List St} (node : Int) (hlen : xs.length ≤ 1000) : Fun Try.prog 133 [.sem (listS stE xs), .v (.int .i64 node)] [] (.sem (listS intE (seenP xs node))) [] := (from_f node hlen).freeze
end Go.Proofs.Ytjkidecaciomgaa
