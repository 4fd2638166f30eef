/- The law EventPlays: any event, through any calls, is what the document says. -/
import Derived.Test.YtpmeffdcbjakoaaEvRef
import Derived.OpenShut
import Derived.Test.YtpmeffdcbjakoaaMem2
namespace Go.Proofs.Ytpmeffdcbjakoaa
set_option linter.unusedVariables false
set_option linter.unusedSimpArgs false
open Go.RowKit

theorem IntsAt.below_ {q : IntKind} {w w' : World} {A : Option Addr} {xs : List Int} (h : IntsAt q w A xs) (hb : Below w.heap.size w w') {k : Nat} (hk : k < xs.length) : ∃ b off, A = some ⟨b, off, none⟩ ∧ w'.cell? ⟨b, off + k, none⟩ = some (.int q (xs.getD k 0)) := (h.below hb).get hk

/-- A path of this law: none, or one entry in a block of its own. -/
def PathB (w : World) (v : Value) (xs : List St) : Prop := (v = .slice none 0 0 ∧ xs = []) ∨ ∃ b x, v = .slice (some ⟨b, 0, none⟩) 1 1 ∧ xs = [x] ∧ Blk w b 46 x.cells
theorem PathB.pathV {w : World} {v : Value} {xs : List St} (h : PathB w v xs) : PathV w v xs := by
  rcases h with ⟨rfl, rfl⟩ | ⟨b, x, rfl, rfl, hb⟩
  · exact PathV.nil w
  · refine ⟨some ⟨b, 0, none⟩, 1, rfl, SliceAt.cells fun i j hi hj => ?_⟩
    obtain rfl : i = 0 := by simpa using hi
    have := hb.cell j
    match j, hj with
    | 0, _ => exact this
    | 1, _ => exact this
    | 2, _ => exact this
    | 3, _ => exact this
    | 4, _ => exact this
theorem PathB.but {w w' : World} {v : Value} {xs : List St} {g : Nat} {t : TypeId} {cs : Array Value} (h : PathB w v xs) (hb : But (· = g) w w') (hg : Blk w g t cs) (ht : t ≠ 46) : PathB w' v xs := by
  rcases h with h | ⟨b, x, rfl, rfl, hx⟩
  · exact .inl h
  · exact .inr ⟨b, x, rfl, rfl, hb.blk hx (hx.ne_ hg (Ne.symm ht))⟩
theorem PathB.drewN {w : World} {v : Value} {xs : List St} (h : PathB w v xs) (n : Nat) : PathB (w.drewN n) v xs := h

/-- What holds between two calls: both events are the same, and their paths read alike. -/
def EvRel (w wr : World) (g h : Nat) : Prop := ∃ (x : Ev) (p q : Value) (xs : List St),
  EvAt wr g 68 { x with path := p } ∧ EvAt wr h 67 { x with path := q } ∧ PathB wr p xs ∧ PathB wr q xs ∧ xs.length ≤ 1 ∧ Below w.heap.size w wr

/-- Behind a change of the one event, and one of the other. -/
theorem EvRel.both {w wr w4 w5 : World} {g h : Nat} {x y : Ev} {p q p' q' : Value} {xs : List St} (hgh : g < h) (hg : w.heap.size ≤ g) (hh : w.heap.size ≤ h)
    (hE : EvAt wr g 68 { x with path := p }) (hF : EvAt wr h 67 { x with path := q }) (hp : PathB wr p' xs) (hq : PathB wr q' xs) (hl : xs.length ≤ 1) (hB : Below w.heap.size w wr)
    (hE4 : EvAt w4 g 68 { y with path := p' }) (hB4 : But (· = g) wr w4) (hF5 : EvAt w5 h 67 { y with path := q' }) (hB5 : But (· = h) w4 w5) : EvRel w w5 g h := by
  have hF4 : EvAt w4 h 67 _ := hB4.blk hF (by omega)
  have hE5 : EvAt w5 g 68 _ := hB5.blk hE4 (by omega)
  refine ⟨y, p', q', xs, hE5, hF5, (hp.but hB4 hE (by decide)).but hB5 hF4 (by decide), (hq.but hB4 hE (by decide)).but hB5 hF4 (by decide), hl, ?_⟩
  have h4 := hB4.below (B := w.heap.size) (by rintro k rfl; exact hg) hB.size hB
  exact hB5.below (by rintro k rfl; exact hh) h4.size h4

theorem prevents_path (x : Ev) (p : Value) : ({ x with path := p } : Ev).prevents = x.prevents := rfl
theorem prevented_path (x : Ev) (p : Value) : ({ x with path := p } : Ev).prevented = { x.prevented with path := p } := by
  unfold Ev.prevented
  rw [prevents_path]
  split <;> rfl

/-- Two new paths of one entry. -/
theorem EvRel.news {w u : World} {g h n : Nat} {y : Ev} (hn : u.heap.size = n) (hsz : w.heap.size ≤ n) (hE : EvAt u g 68 { y with path := .slice (some ⟨n, 0, none⟩) 1 1 }) (hF : EvAt u h 67 { y with path := .slice (some ⟨n + 1, 0, none⟩) 1 1 }) (hB : Below w.heap.size w u) :
    EvRel w ((u.alloc (.cells #[.int .i64 1, .int .i64 0, .int .i64 0, .bool false, .bool false] 46)).alloc (.cells #[.int .i64 1, .int .i64 0, .int .i64 0, .bool false, .bool false] 46)) g h := by
  have b1 := Blk.new u 46 #[.int .i64 1, .int .i64 0, .int .i64 0, .bool false, .bool false]
  rw [hn] at b1
  have b2 := Blk.new (u.alloc (.cells #[.int .i64 1, .int .i64 0, .int .i64 0, .bool false, .bool false] 46)) 46 #[.int .i64 1, .int .i64 0, .int .i64 0, .bool false, .bool false]
  have hs : (u.alloc (.cells #[.int .i64 1, .int .i64 0, .int .i64 0, .bool false, .bool false] 46)).heap.size = n + 1 := by simp [hn]
  rw [hs] at b2
  refine ⟨y, _, _, [⟨1, 0, 0, false, false⟩], Blk.alloc (Blk.alloc hE _) _, Blk.alloc (Blk.alloc hF _) _, .inr ⟨n, _, rfl, rfl, Blk.alloc b1 _⟩, .inr ⟨n + 1, _, rfl, rfl, b2⟩, by simp, ?_⟩
  exact (hB.alloc (by omega) _).alloc (by rw [hs]; omega) _

theorem EvRel.same {w wr : World} {g h : Nat} (hR : EvRel w wr g h) :
    Calls Try.prog 36 #[.pointer (some ⟨g, 0, none⟩), .pointer (some ⟨h, 0, none⟩)] wr fun e w' => e = .returned (.bool true) ∧ EvRel w w' g h := by
  obtain ⟨x, p, q, xs, hE, hF, hp, hq, hl, hB⟩ := hR
  refine (same_true g h x p q xs wr hE hF hp.pathV hq.pathV (by omega)).mono ?_
  rintro e w' ⟨rfl, n, rfl⟩
  exact ⟨rfl, x, p, q, xs, hE, hF, hp, hq, hl, hB.trans ⟨rfl, rfl, rfl, Nat.le_refl _, fun _ _ => rfl⟩⟩

set_option maxRecDepth 100000 in
set_option maxHeartbeats 8000000 in
theorem eventPlays_main (a0 : ByteArray) (a1 : Int) (f0 f1 f2 : Bool) (A : Option Addr) (c : Nat) (zs : List Int) (w : World) (w0 : a0.size ≤ 140737488351232) (hI : IntsAt .u8 w A zs) (m3 : zs.length ≤ maxLen) (hz : ∀ i, 0 ≤ zs.getD i 0 ∧ zs.getD i 0 ≤ 255) :
    Calls Try.prog 8 #[.string a0, .int .i64 a1, .agg #[.bool f0, .bool f1, .bool f2], .slice A zs.length c] w fun e w' => e = .returned (.bool true) ∧ Below w.heap.size w w' := by
  unfold maxLen at m3
  by_cases hl : 200 < zs.length
  · go_enter Try.func8, Try.ntmps8
    go_wp2_with (go_at_call 26; refine (ev_awake _).mono ?_; rintro e w1 ⟨rfl, hB⟩)
    go_ret
    exact ⟨rfl, ((Below.refl _ w).alloc (Nat.le_refl _) _).trans (hB.mono (by simp))⟩
  · by_cases hw : wordB a0 = true ∧ 0 ≤ a1
    · obtain ⟨hw, hr⟩ := hw
      go_enter Try.func8, Try.ntmps8
      go_wp2_with fail
      refine (ev_awake _).mono ?_
      rintro e w1 ⟨rfl, hB⟩
      have hn := Blk.new w 55 #[.bool f0, .bool f1, .bool f2]
      replace hn := hn.below hB hn.lt
      replace hB := ((Below.refl _ w).alloc (Nat.le_refl _) _).trans (hB.mono (by simp))
      have n0 := hn.cell 0; have n1 := hn.cell 1; have n2 := hn.cell 2
      simp at n0 n1 n2
      have HW := Lib.hid hw
      clear hw
      go_wp2_with fail
      refine (new_event a0 a1 f0 f1 f2 w1 w0 HW.out hr).mono ?_
      rintro e w2 ⟨g, rfl, hg, hE, hB2⟩
      replace hn := hn.below hB2 hn.lt
      replace hB2 := hB.trans (hB2.mono hB.size)
      have hg' : w.heap.size ≤ g := Nat.le_trans hB.size hg
      clear hB n0 n1 n2
      have n0 := hn.cell 0; have n1 := hn.cell 1; have n2 := hn.cell 2
      simp at n0 n1 n2
      go_wp2_with fail
      refine (ref_new a0 a1 f0 f1 f2 w2 w0 HW.out hr).mono ?_
      rintro e w3 ⟨h, rfl, hh, hF, hB3⟩
      have hlt := hE.lt
      have hgh : g < h := by omega
      have hh' : w.heap.size ≤ h := by have := hB2.size; omega
      replace hE : EvAt w3 g 68 _ := hE.below hB3 hlt
      replace hB3 := hB2.trans (hB3.mono hB2.size)
      have hR : EvRel w w3 g h := ⟨Ev.fresh a0 a1 f0 f1 f2, .slice none 0 0, .slice none 0 0, [], hE, hF, .inl ⟨rfl, rfl⟩, .inl ⟨rfl, rfl⟩, by simp, hB3⟩
      clear hn n0 n1 n2 hE hF hB2 hB3 hlt hg hh
      go_wp2_with fail
      have HZ := Lib.hid hz
      have H3 := Lib.hid hI
      clear hz hI
      go_loopw [13] (fun i wr => ∃ k : Nat, k ≤ zs.length ∧ i = .int .i64 k ∧ EvRel w wr g h) (fun i _ => 200 - (intOf i).toNat)
      case atStart => exact ⟨0, by omega, rfl, hR⟩
      case round =>
        obtain ⟨k, hk, rfl, x, p, q, xs, hE, hF, hp, hq, hl1, hB⟩ := hrel
        by_cases hlt : k < zs.length
        · obtain ⟨b, off, rfl, hc⟩ := H3.out.below_ hB hlt
          obtain ⟨z0, z1⟩ := HZ.out k
          generalize zs.getD k 0 = z at hc z0 z1
          have h7 : z % 7 = 0 ∨ z % 7 = 1 ∨ z % 7 = 2 ∨ z % 7 = 3 ∨ z % 7 = 4 ∨ z % 7 = 5 ∨ z % 7 = 6 := by omega
          rcases h7 with h7 | h7 | h7 | h7 | h7 | h7 | h7
          · go_wp2_with fail
            have H := prevent_any g _ wr hE
            rw [prevents_path, prevented_path] at H
            refine H.mono ?_
            clear H
            rintro e w4 ⟨rfl, hE4, hB4⟩
            have hF4 : EvAt w4 h 67 _ := hB4.blk hF (by omega)
            go_wp2_with fail
            have H := ref_prevent h _ w4 hF4
            rw [prevents_path, prevented_path] at H
            refine H.mono ?_
            clear H
            rintro e w5 ⟨rfl, hF5, hB5⟩
            have hR := EvRel.both hgh hg' hh' hE hF hp hq hl1 hB hE4 hB4 hF5 hB5
            clear hE hF hp hq hB hB4 hB5 hE4 hF4 hF5
            go_wp2_with fail
            refine hR.same.mono ?_
            rintro e w6 ⟨rfl, hR6⟩
            go_wp2
            go_roundw
            case rel => exact ⟨k + 1, by omega, by go_num, hR6⟩
            case measure => simp [intOf]; omega
          · go_wp2_with fail
            refine (stop_any g _ wr hE).mono ?_
            rintro e w4 ⟨rfl, hE4, hB4⟩
            have hF4 : EvAt w4 h 67 _ := hB4.blk hF (by omega)
            obtain ⟨⟨d0, d1, d2, d3, d4, d5⟩, ⟨d6, d7, d8, d9, d10, d11, d12, d13⟩, ⟨y3, y4, y5, y9, y10, y11, y12, y13⟩⟩ := hF4.all
            have hF5 := hF4.set10 true
            have hB5 := But.set (S := (· = h)) w4 ⟨h, 10, none⟩ (.bool true) rfl
            have hR := EvRel.both (y := { x with fl := g_stop x.fl }) hgh hg' hh' hE hF hp hq hl1 hB hE4 hB4 hF5 hB5
            clear hE hF hp hq hB hB4 hB5 hE4 hF4 hF5
            revert hR
            generalize hw5 : w4.setCell ⟨h, 10, none⟩ (.bool true) = w5
            intro hR
            have HW5 := Lib.hid hw5
            clear hw5
            go_wp2_with fail
            rw [HW5.out]
            clear HW5
            refine hR.same.mono ?_
            rintro e w6 ⟨rfl, hR6⟩
            go_wp2
            go_roundw
            case rel => exact ⟨k + 1, by omega, by go_num, hR6⟩
            case measure => simp [intOf]; omega
          · go_wp2_with fail
            refine (stopNow_any g _ wr hE).mono ?_
            rintro e w4 ⟨rfl, hE4, hB4⟩
            have hF4 : EvAt w4 h 67 _ := hB4.blk hF (by omega)
            obtain ⟨⟨d0, d1, d2, d3, d4, d5⟩, ⟨d6, d7, d8, d9, d10, d11, d12, d13⟩, ⟨y3, y4, y5, y9, y10, y11, y12, y13⟩⟩ := hF4.all
            have hF5 := (hF4.set10 true).set11 true
            have hB5 := (But.set (S := (· = h)) w4 ⟨h, 10, none⟩ (.bool true) rfl).step ⟨h, 11, none⟩ (.bool true) rfl
            have hR := EvRel.both (y := { x with fl := g_stopNow x.fl }) hgh hg' hh' hE hF hp hq hl1 hB hE4 hB4 hF5 hB5
            clear hE hF hp hq hB hB4 hB5 hE4 hF4 hF5
            revert hR
            generalize hw5 : (w4.setCell ⟨h, 10, none⟩ (.bool true)).setCell ⟨h, 11, none⟩ (.bool true) = w5
            intro hR
            have HW5 := Lib.hid hw5
            clear hw5
            go_wp2_with fail
            rw [HW5.out]
            clear HW5
            refine hR.same.mono ?_
            rintro e w6 ⟨rfl, hR6⟩
            go_wp2
            go_roundw
            case rel => exact ⟨k + 1, by omega, by go_num, hR6⟩
            case measure => simp [intOf]; omega
          · go_wp2_with fail
            obtain ⟨⟨d0, d1, d2, d3, d4, d5⟩, ⟨d6, d7, d8, d9, d10, d11, d12, d13⟩, ⟨y3, y4, y5, y9, y10, y11, y12, y13⟩⟩ := hF.all
            go_region_held3 (fun wx => wx.cell? ⟨h, 13, none⟩ = some (.bool x.fl.dispatch)) (first | exact d13 | exact D13) (first | (go_at_call 33; refine (begin_any g _ _ (Blk.drew hE)).mono ?_; rintro e w4 ⟨rfl, hE4, hB4⟩; have D13 := (hB4.cell (p := ⟨h, 13, none⟩) hF.lt (by show ¬ h = g; omega)).trans d13))
            have hB4' := But.of_drew hB4
            have hF4 : EvAt w4 h 67 _ := hB4'.blk hF (by omega)
            have hF5 := hF4.set13 true
            have hB5 := But.set (S := (· = h)) w4 ⟨h, 13, none⟩ (.bool true) rfl
            have hR := EvRel.both (y := { x with fl := g_begin x.fl }) hgh hg' hh' hE hF hp hq hl1 hB hE4 hB4' hF5 hB5
            clear hE hp hq hB hB4 hB4' hB5 hE4 hF5 d0 d1 d2 d3 d4 d5 d6 d7 d8 d9 d10 d11 d12 d13 y3 y4 y5 y9 y10 y11 y12 y13 hF
            obtain ⟨⟨d0, d1, d2, d3, d4, d5⟩, ⟨d6, d7, d8, d9, d10, d11, d12, d13⟩, ⟨y3, y4, y5, y9, y10, y11, y12, y13⟩⟩ := hF4.all
            clear hF4
            revert hR
            generalize hw5 : w4.setCell ⟨h, 13, none⟩ (.bool true) = w5
            intro hR
            have HD : ((!x.fl.dispatch) == x.fl.dispatch) = false := by cases x.fl.dispatch <;> rfl
            go_wp2_with fail
            clear hw5
            refine hR.same.mono ?_
            rintro e w6 ⟨rfl, hR6⟩
            go_wp2
            go_roundw
            case rel => exact ⟨k + 1, by omega, by go_num, hR6⟩
            case measure => simp [intOf]; omega
          · go_wp2_with fail
            refine (end_any g _ wr hE).mono ?_
            rintro e w4 ⟨rfl, hE4, hB4⟩
            have hF4 : EvAt w4 h 67 _ := hB4.blk hF (by omega)
            go_wp2_with fail
            refine (ref_end h _ w4 hF4).mono ?_
            rintro e w5 ⟨rfl, hF5, hB5⟩
            have hR := EvRel.both (y := x.ended) (p' := .slice none 0 0) (q' := .slice none 0 0) (xs := []) hgh hg' hh' hE hF (.inl ⟨rfl, rfl⟩) (.inl ⟨rfl, rfl⟩) (by simp) hB hE4 hB4 hF5 hB5
            clear hE hF hp hq hB hB4 hB5 hE4 hF4 hF5
            go_wp2_with fail
            refine hR.same.mono ?_
            rintro e w6 ⟨rfl, hR6⟩
            go_wp2
            go_roundw
            case rel => exact ⟨k + 1, by omega, by go_num, hR6⟩
            case measure => simp [intOf]; omega
          · obtain ⟨⟨c0, c1, c2, c3, c4, c5⟩, ⟨c6, c7, c8, c9, c10, c11, c12, c13⟩, ⟨x3, x4, x5, x9, x10, x11, x12, x13⟩⟩ := hE.all
            obtain ⟨⟨d0, d1, d2, d3, d4, d5⟩, ⟨d6, d7, d8, d9, d10, d11, d12, d13⟩, ⟨y3, y4, y5, y9, y10, y11, y12, y13⟩⟩ := hF.all
            have hE4 := hE.set12 (!x.fl.passive)
            have hB4 := But.set (S := (· = g)) wr ⟨g, 12, none⟩ (.bool (!x.fl.passive)) rfl
            have hF4 : EvAt _ h 67 _ := hB4.blk hF (by omega)
            have hF5 := hF4.set12 (!x.fl.passive)
            have hB5 := But.set (S := (· = h)) (wr.setCell ⟨g, 12, none⟩ (.bool (!x.fl.passive))) ⟨h, 12, none⟩ (.bool (!x.fl.passive)) rfl
            have hR := EvRel.both (y := { x with fl := { x.fl with passive := !x.fl.passive } }) hgh hg' hh' hE hF hp hq hl1 hB hE4 hB4 hF5 hB5
            clear hE hF hp hq hB hB4 hB5 hE4 hF4 hF5
            have hne : ¬ g = h := by omega
            have hne2 : ¬ h = g := by omega
            revert hR
            generalize hw5 : (wr.setCell ⟨g, 12, none⟩ (.bool (!x.fl.passive))).setCell ⟨h, 12, none⟩ (.bool (!x.fl.passive)) = w5
            intro hR
            have HW5 := Lib.hid hw5
            clear hw5
            go_wp2_with fail
            rw [HW5.out]
            clear HW5
            refine hR.same.mono ?_
            rintro e w6 ⟨rfl, hR6⟩
            go_wp2
            go_roundw
            case rel => exact ⟨k + 1, by omega, by go_num, hR6⟩
            case measure => simp [intOf]; omega
          · obtain ⟨⟨c0, c1, c2, c3, c4, c5⟩, ⟨c6, c7, c8, c9, c10, c11, c12, c13⟩, ⟨x3, x4, x5, x9, x10, x11, x12, x13⟩⟩ := hE.all
            obtain ⟨⟨d0, d1, d2, d3, d4, d5⟩, ⟨d6, d7, d8, d9, d10, d11, d12, d13⟩, ⟨y3, y4, y5, y9, y10, y11, y12, y13⟩⟩ := hF.all
            have hne : ¬ g = h := by omega
            have hne2 : ¬ h = g := by omega
            have g1 := hE.lt
            have g2 := hF.lt
            have x1 := Blk.frozen hE 1
            have y1 := Blk.frozen hF 1
            have E1 := hE.set5 (.slice (some ⟨wr.heap.size, 0, none⟩) 1 1)
            have E2 : EvAt _ g 68 _ := Blk.far E1 (p := ⟨h, 5, none⟩) hne (.slice (some ⟨wr.heap.size + 1, 0, none⟩) 1 1)
            have E3 := EvAt.set3 E2 1
            have E4 : EvAt _ g 68 _ := Blk.far E3 (p := ⟨h, 3, none⟩) hne (.int .i64 1)
            have E5 := EvAt.set4 E4 2
            have E6 : EvAt _ g 68 _ := Blk.far E5 (p := ⟨h, 4, none⟩) hne (.int .i64 2)
            have E7 := EvAt.set1 E6 1
            have E8 : EvAt _ g 68 _ := Blk.far E7 (p := ⟨h, 1, none⟩) hne (.int .i64 1)
            have F1 : EvAt _ h 67 _ := Blk.far hF (p := ⟨g, 5, none⟩) hne2 (.slice (some ⟨wr.heap.size, 0, none⟩) 1 1)
            have F2 := EvAt.set5 F1 (.slice (some ⟨wr.heap.size + 1, 0, none⟩) 1 1)
            have F3 : EvAt _ h 67 _ := Blk.far F2 (p := ⟨g, 3, none⟩) hne2 (.int .i64 1)
            have F4 := EvAt.set3 F3 1
            have F5 : EvAt _ h 67 _ := Blk.far F4 (p := ⟨g, 4, none⟩) hne2 (.int .i64 2)
            have F6 := EvAt.set4 F5 2
            have F7 : EvAt _ h 67 _ := Blk.far F6 (p := ⟨g, 1, none⟩) hne2 (.int .i64 1)
            have F8 := EvAt.set1 F7 1
            have B8 := (((((((hB.setCell (p := ⟨g, 5, none⟩) hg' (.slice (some ⟨wr.heap.size, 0, none⟩) 1 1)).setCell (p := ⟨h, 5, none⟩) hh' (.slice (some ⟨wr.heap.size + 1, 0, none⟩) 1 1)).setCell (p := ⟨g, 3, none⟩) hg' (.int .i64 1)).setCell (p := ⟨h, 3, none⟩) hh' (.int .i64 1)).setCell (p := ⟨g, 4, none⟩) hg' (.int .i64 2)).setCell (p := ⟨h, 4, none⟩) hh' (.int .i64 2)).setCell (p := ⟨g, 1, none⟩) hg' (.int .i64 1)).setCell (p := ⟨h, 1, none⟩) hh' (.int .i64 1)
            have hsz := hB.size
            have hR := EvRel.news (y := { x with current := 1, phase := 2, target := 1 }) (by simp) hsz E8 F8 B8
            clear hp hq hB E1 E2 E3 E4 E5 E6 E7 E8 F1 F2 F3 F4 F5 F6 F7 F8 B8 hE hF
            revert hR
            generalize hw5 : ((((((((((wr.setCell ⟨g, 5, none⟩ (.slice (some ⟨wr.heap.size, 0, none⟩) 1 1)).setCell ⟨h, 5, none⟩ (.slice (some ⟨wr.heap.size + 1, 0, none⟩) 1 1)).setCell ⟨g, 3, none⟩ (.int .i64 1)).setCell ⟨h, 3, none⟩ (.int .i64 1)).setCell ⟨g, 4, none⟩ (.int .i64 2)).setCell ⟨h, 4, none⟩ (.int .i64 2)).setCell ⟨g, 1, none⟩ (.int .i64 1)).setCell ⟨h, 1, none⟩ (.int .i64 1)).alloc (.cells #[.int .i64 1, .int .i64 0, .int .i64 0, .bool false, .bool false] 46)).alloc (.cells #[.int .i64 1, .int .i64 0, .int .i64 0, .bool false, .bool false] 46)) = w5
            intro hR
            have HW5 := Lib.hid hw5
            clear hw5
            go_wp2_with fail
            rw [HW5.out]
            clear HW5
            refine hR.same.mono ?_
            rintro e w6 ⟨rfl, hR6⟩
            go_wp2
            go_roundw
            case rel => exact ⟨k + 1, by omega, by go_num, hR6⟩
            case measure => simp [intOf]; omega
        · go_wp2
          go_ret
          exact ⟨rfl, hB⟩
    · have hw' : wordB a0 = false ∨ a1 < 0 := by
        by_cases h1 : wordB a0 = true
        · right; have : ¬ 0 ≤ a1 := fun h2 => hw ⟨h1, h2⟩; omega
        · left; simpa using h1
      clear hw
      go_enter Try.func8, Try.ntmps8
      go_wp2_with fail
      refine (ev_awake _).mono ?_
      rintro e w1 ⟨rfl, hB⟩
      have hn := Blk.new w 55 #[.bool f0, .bool f1, .bool f2]
      replace hn := hn.below hB hn.lt
      replace hB := ((Below.refl _ w).alloc (Nat.le_refl _) _).trans (hB.mono (by simp))
      have n0 := hn.cell 0; have n1 := hn.cell 1; have n2 := hn.cell 2
      simp at n0 n1 n2
      have HW := Lib.hid hw'
      clear hw'
      go_wp2_with fail
      refine (new_event_bad a0 a1 f0 f1 f2 w1 w0 HW.out).mono ?_
      rintro e w2 ⟨rfl, hB2⟩
      replace hn := hn.below hB2 hn.lt
      replace hB2 := hB.trans (hB2.mono hB.size)
      clear hB n0 n1 n2
      have n0 := hn.cell 0; have n1 := hn.cell 1; have n2 := hn.cell 2
      simp at n0 n1 n2
      go_wp2_with fail
      refine (ref_new_bad a0 a1 f0 f1 f2 w2 w0 HW.out).mono ?_
      rintro e w3 ⟨rfl, rfl⟩
      go_wp2
      go_ret
      exact ⟨rfl, hB2⟩

theorem eventPlays_walk (a0 : ByteArray) (a1 : Int) (f0 f1 f2 : Bool) (A : Option Addr) (c : Nat) (zs : List Int) (w : World) (w0 : a0.size ≤ 140737488351232) (w1 : (Lit.int .i64 a1).wf = true) (hI : IntsAt .u8 w A zs) (m3 : zs.length ≤ maxLen) (hz : ∀ n ∈ zs, (Lit.int .u8 n).wf = true) :
    Calls Try.prog 8 #[.string a0, .int .i64 a1, .agg #[.bool f0, .bool f1, .bool f2], .slice A zs.length c] w fun e w' => e = .returned (.bool true) ∧ Below w.heap.size w w' :=
  eventPlays_main a0 a1 f0 f1 f2 A c zs w w0 hI m3 fun i => by
    by_cases hi : i < zs.length
    · rw [List.getD_eq_getElem?_getD, List.getElem?_eq_getElem hi]; exact bounds_u8 (hz _ (List.getElem_mem hi))
    · rw [List.getD_eq_getElem?_getD, List.getElem?_eq_none (by omega)]; simp
end Go.Proofs.Ytpmeffdcbjakoaa
