/- The law LatchNone. -/
import Derived.Test.YtpeppnbalmmjmaaLatchDo
namespace Go.Proofs.Ytpeppnbalmmjmaa
set_option linter.unusedVariables false
set_option linter.unusedSimpArgs false
open Go.RowKit

theorem zero_do (z c : Nat) (w : World) (HZ : LatchAt w z false) (HC : Blk w c 3 #[.int .i64 0]) :
    Calls Try.prog 18 #[.pointer (some ⟨z, 0, none⟩), .func (.func 24) #[] #[.pointer (some ⟨c, 0, none⟩)]] w fun e w' => e = .returned (.bool true) ∧ LatchAt w' z true ∧ Blk w' c 3 #[.int .i64 1] ∧ But (fun k => k = z ∨ k = c) w w' := by
  have hne : c ≠ z := fun h => by subst h; exact Blk.ne_ HC HZ (by decide) rfl
  refine (do_openNone z #[.pointer (some ⟨c, 0, none⟩)] w HZ (fun k => k = c) (fun i hi => by rw [hi]; exact HC.lt) (fun w2 => LatchAt w2 z true ∧ Blk w2 c 3 #[.int .i64 1]) ?_).mono ?_
  · intro w1 h1 h2
    refine (count1 c 0 (by decide) w1 (h2.blk HC hne)).mono ?_
    rintro e w2 ⟨rfl, rfl⟩
    exact ⟨rfl, ⟨Blk.far (p := ⟨c, 0, none⟩) h1 hne.symm _, (h2.blk HC hne).set_ 0 (.int .i64 1)⟩, But.set w1 ⟨c, 0, none⟩ _ rfl⟩
  · rintro e w' ⟨rfl, ⟨h1, h2⟩, w1, h3, h4, h5⟩
    exact ⟨rfl, h1, h2, (h4.mono fun k _ h => .inl h).trans (h5.mono fun k _ h => .inr h)⟩

set_option maxRecDepth 100000 in
set_option maxHeartbeats 2000000 in
theorem latchNone_walk (times : Int) (w : World) (hw : (Lit.int .u8 times).wf = true) :
    Calls Try.prog 4 #[.int .u8 times] w fun e w' => e = .returned (.bool true) ∧ Below w.heap.size w w' := by
  have ht : 0 ≤ times ∧ times ≤ 255 := by simp [Lit.wf, IntKind.min, IntKind.max, IntKind.signed, IntKind.bits] at hw; omega
  obtain ⟨t, rfl⟩ := Int.eq_ofNat_of_zero_le ht.1
  have ht2 : t ≤ 255 := by omega
  go_enter Try.func4, Try.ntmps4
  go_wp2_with fail
  go_at_call 16
  refine (awake03 w).mono ?_
  rintro e w1 ⟨rfl, hb⟩
  have hsz := hb.size
  have HB := Lib.hid hb
  clear hb
  go_wp2
  have hz0 : LatchAt ((w1.alloc (.cells #[.int .u32 0, .int .i32 0, .int .u32 0, .int .u32 0] 46)).alloc (.cells #[.int .i64 0] 3)) w1.heap.size false := (Blk.new w1 _ _).alloc _
  have hc0 := Blk.new (w1.alloc (.cells #[.int .u32 0, .int .i32 0, .int .u32 0, .int .u32 0] 46)) 3 #[.int .i64 0]
  rw [World.size_alloc] at hc0
  have hb0 : Below w.heap.size w ((w1.alloc (.cells #[.int .u32 0, .int .i32 0, .int .u32 0, .int .u32 0] 46)).alloc (.cells #[.int .i64 0] 3)) := (HB.out.alloc hsz _).alloc (by simp; omega) _
  have HZ0 := Lib.hid hz0
  have HC0 := Lib.hid hc0
  have HB0 := Lib.hid hb0
  clear hz0 hc0 hb0
  go_loopw [6] (fun iv wr => ∃ i : Nat, i ≤ t + 1 ∧ iv = .int .i64 i ∧ LatchAt wr w1.heap.size (decide (0 < i)) ∧ Blk wr (w1.heap.size + 1) 3 #[.int .i64 (if 0 < i then 1 else 0)] ∧ Below w.heap.size w wr) (fun iv _ => 300 - (intOf iv).toNat)
  case atStart => exact ⟨0, by omega, rfl, HZ0.out, HC0.out, HB0.out⟩
  case round =>
    obtain ⟨i, hi, rfl, hZ, hC, hB⟩ := hrel
    by_cases hlt : i ≤ t
    · have HZ := Lib.hid hZ
      have HC := Lib.hid hC
      have HBr := Lib.hid hB
      have hsr := hB.size
      clear hZ hC hB
      go_wp2_with fail
      go_at_call 18
      refine (do_none _ wr).mono ?_
      rintro e wa ⟨rfl, hba⟩
      have HZa : LatchAt wa w1.heap.size (decide (0 < i)) := Blk.below HZ.out hba HZ.out.lt
      have HCa := HC.out.below hba HC.out.lt
      have hBa := HBr.out.trans (hba.mono hsr)
      have hsa := hBa.size
      clear HZ HC HBr hba
      go_wp2_with fail
      go_at_call 20
      refine (done_none wa).mono ?_
      rintro e wb ⟨rfl, hwb⟩
      rw [hwb]
      clear hwb
      rcases Nat.eq_zero_or_pos i with rfl | hpos
      · go_wp2_with fail
        go_at_call 18
        refine (zero_do w1.heap.size (w1.heap.size + 1) wa HZa HCa).mono ?_
        rintro e wc ⟨rfl, HZc, HCc, hU⟩
        have hBc : Below w.heap.size w wc := hU.below (B := w.heap.size) (fun k hk => by rcases hk with h | h <;> omega) hsa hBa
        go_wp2_with fail
        go_at_call 20
        refine (done_calls w1.heap.size true wc HZc).mono ?_
        rintro e wd ⟨rfl, hwd⟩
        rw [hwd]
        clear hwd
        go_wp2
        go_roundw
        case rel => exact ⟨1, by omega, rfl, HZc, HCc, hBc⟩
        case measure => simp [intOf] <;> omega
      · have ed : decide (0 < i) = true := by simp; omega
        rw [ed] at HZa
        rw [if_pos hpos] at HCa
        have ei : ((i : Int) == 0) = false := by simp; omega
        clear ed
        go_wp2_with fail
        go_at_call 18
        refine (do_shut w1.heap.size _ wa HZa).mono ?_
        rintro e wc ⟨rfl, hbc⟩
        have HZc : LatchAt wc w1.heap.size true := Blk.below HZa hbc HZa.lt
        have HCc := HCa.below hbc HCa.lt
        have hBc := hBa.trans (hbc.mono hsa)
        go_wp2_with fail
        go_at_call 20
        refine (done_calls w1.heap.size true wc HZc).mono ?_
        rintro e wd ⟨rfl, hwd⟩
        rw [hwd]
        clear hwd
        go_wp2
        go_roundw
        case rel => exact ⟨i + 1, by omega, by go_num, by simpa using HZc, by simpa using HCc, hBc⟩
        case measure => simp [intOf] <;> omega
    · have hpos : 0 < i := by omega
      rw [if_pos hpos] at hC
      have c0 := hC.cell 0
      simp at c0
      go_wp2
      go_ret
      exact ⟨rfl, hB⟩
end Go.Proofs.Ytpeppnbalmmjmaa
