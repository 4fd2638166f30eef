/- The reference's words. -/
import Derived.Test.YtjkidecaciomgaaWord
import Derived.OpenShut
namespace Go.Proofs.Ytjkidecaciomgaa
set_option linter.unusedVariables false
set_option linter.unusedSimpArgs false
open Go.RowKit

theorem ref_word (s : ByteArray) (w : World) (hs : s.size ≤ 9223372036854775807) :
    Calls Try.prog 187 #[.string s] w fun e w' => e = .returned (.bool (wordB s)) ∧ w = w' := by
  by_cases h0 : s.size < 1
  · have e1 : wordB s = false := by simp [wordB]; omega
    rw [e1]
    clear e1
    go_enter Try.func187, Try.ntmps187
    go_wp2
    go_ret
    exact ⟨rfl, rfl⟩
  · by_cases h8 : 8 < s.size
    · have e1 : wordB s = false := by simp [wordB]; omega
      rw [e1]
      clear e1
      go_enter Try.func187, Try.ntmps187
      go_wp2
      go_ret
      exact ⟨rfl, rfl⟩
    · go_enter Try.func187, Try.ntmps187
      go_wp2
      go_loop [2, 3, 4] (fun r i c => ∃ pos : Nat, pos ≤ s.size ∧ r = .bool false ∧ i = .int .i64 pos ∧ (∀ i (hi : i < s.size), i < pos → okB (s[i]'hi).toNat = true)) (fun _ i _ => s.size - (intOf i).toNat)
      case atStart => exact ⟨0, by omega, rfl, rfl, fun i hi h => by omega⟩
      case round =>
        obtain ⟨pos, hpos, rfl, rfl, hall⟩ := hrel
        by_cases hp : pos < s.size
        · by_cases hk : okB (s[pos]'hp).toNat = true
          · have hk' : (97 ≤ (s[pos]'hp).toNat ∧ (s[pos]'hp).toNat ≤ 122) ∨ (48 ≤ (s[pos]'hp).toNat ∧ (s[pos]'hp).toNat ≤ 57) := by simpa [okB] using hk
            have hall2 : Hid (∀ i (hi : i < s.size), i < pos + 1 → okB (s[i]'hi).toNat = true) := by
              intro i hi h
              by_cases e : i = pos
              · subst e; exact hk
              · exact hall i hi (by omega)
            clear hall hk
            rcases hk' with ⟨q1, q2⟩ | ⟨q1, q2⟩
            · have b1 : decide ((97 : Int) ≤ ((s[pos]'hp).toNat : Int)) = true := by simp; omega
              have b2 : decide (((s[pos]'hp).toNat : Int) ≤ 122) = true := by simp; omega
              clear q1 q2
              go_wp2
              go_round
              case rel => exact ⟨pos + 1, by omega, rfl, by go_num, hall2.out⟩
              case measure => simp [intOf]; omega
            · have r1 : ¬ 97 ≤ (s[pos]'hp).toNat := by omega
              · have b1 : decide ((97 : Int) ≤ ((s[pos]'hp).toNat : Int)) = false := by simp; omega
                have b2 : decide ((48 : Int) ≤ ((s[pos]'hp).toNat : Int)) = true := by simp; omega
                have b3 : decide (((s[pos]'hp).toNat : Int) ≤ 57) = true := by simp; omega
                clear q1 q2 r1
                go_wp2
                go_round
                case rel => exact ⟨pos + 1, by omega, rfl, by go_num, hall2.out⟩
                case measure => simp [intOf]; omega
          · have hk : okB (s[pos]'hp).toNat = false := by simpa using hk
            have e1 : wordB s = false := by simp only [wordB, not_all_of s pos hp hk, Bool.and_false]
            have H1 := Lib.hid e1
            have hk' : ¬ ((97 ≤ (s[pos]'hp).toNat ∧ (s[pos]'hp).toNat ≤ 122) ∨ (48 ≤ (s[pos]'hp).toNat ∧ (s[pos]'hp).toNat ≤ 57)) := by simp [okB] at hk; omega
            clear e1 hk hall
            by_cases r1 : 97 ≤ (s[pos]'hp).toNat
            · have b1 : decide ((97 : Int) ≤ ((s[pos]'hp).toNat : Int)) = true := by simp; omega
              have b2 : decide (((s[pos]'hp).toNat : Int) ≤ 122) = false := by simp; omega
              have b3 : decide ((48 : Int) ≤ ((s[pos]'hp).toNat : Int)) = true := by simp; omega
              have b4 : decide (((s[pos]'hp).toNat : Int) ≤ 57) = false := by simp; omega
              go_wp2
              go_ret
              exact ⟨ret_bool H1.out.symm, rfl⟩
            · have b1 : decide ((97 : Int) ≤ ((s[pos]'hp).toNat : Int)) = false := by simp; omega
              by_cases r2 : 48 ≤ (s[pos]'hp).toNat
              · have b3 : decide ((48 : Int) ≤ ((s[pos]'hp).toNat : Int)) = true := by simp; omega
                have b4 : decide (((s[pos]'hp).toNat : Int) ≤ 57) = false := by simp; omega
                go_wp2
                go_ret
                exact ⟨ret_bool H1.out.symm, rfl⟩
              · have b3 : decide ((48 : Int) ≤ ((s[pos]'hp).toNat : Int)) = false := by simp; omega
                go_wp2
                go_ret
                exact ⟨ret_bool H1.out.symm, rfl⟩
        · have e1 : wordB s = true := by
            simp only [wordB, all_of s (fun i hi => hall i hi (by omega)), Bool.and_true]; simp; omega
          have H1 := Lib.hid e1
          clear e1 hall
          go_wp2
          go_ret
          exact ⟨ret_bool H1.out.symm, rfl⟩

end Go.Proofs.Ytjkidecaciomgaa
