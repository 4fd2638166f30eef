/- Words (package word, and the reference's): a text is a word just if it has one to eight letters or digits. -/
import Derived.Test.YtjkidecaciomgaaBA
import Derived.Test.YtjkidecaciomgaaRows
import Derived.WalkKit
import Derived.ProofKit
import Derived.WalkSpells
import Derived.Outline
import Derived.Lib.OthersKept
import Derived.Laws.RangeString
import Derived.WalkSmall
import Derived.Lib.Hide
import Derived.BigQuiet
import Derived.Deep.QuietTactic

namespace Go.Proofs.Ytjkidecaciomgaa
set_option linter.unusedVariables false
set_option linter.unusedSimpArgs false
open Go.RowKit

/-- A letter or a digit. -/
def okB (c : Nat) : Bool := (decide (97 ≤ c) && decide (c ≤ 122)) || (decide (48 ≤ c) && decide (c ≤ 57))
/-- A word. -/
def wordB (s : ByteArray) : Bool := decide (0 < s.size) && (decide (s.size ≤ 8) && s.data.toList.all fun c => okB c.toNat)

theorem all_of (s : ByteArray) (h : ∀ i (hi : i < s.size), okB (s[i]'hi).toNat = true) : (s.data.toList.all fun c => okB c.toNat) = true := by
  rw [List.all_eq_true]
  intro c hc
  obtain ⟨i, hi, rfl⟩ := List.getElem_of_mem hc
  exact h i (by simpa using hi)
theorem not_all_of (s : ByteArray) (i : Nat) (hi : i < s.size) (h : okB (s[i]'hi).toNat = false) : (s.data.toList.all fun c => okB c.toNat) = false := by
  rw [Bool.eq_false_iff]
  intro ha
  rw [List.all_eq_true] at ha
  have hm : s[i]'hi ∈ s.data.toList := by simp [ByteArray.getElem_eq_getElem_data]
  have := ha _ hm
  rw [h] at this
  cases this

theorem decode_small (s : ByteArray) (pos : Nat) (h : pos < s.size) (ha : (s[pos]'h).toNat < 128) : Utf8.decode s pos = ((s[pos]'h).toNat, 1) := Go.decode_ascii s pos h ha
theorem decode_big (s : ByteArray) (pos : Nat) (h : pos < s.size) (ha : 128 ≤ (s[pos]'h).toNat) : 128 ≤ (Utf8.decode s pos).1 := by
  have hg : s.get! pos = s[pos]'h := by simp [ByteArray.get!, ByteArray.getElem_eq_getElem_data, getElem!_pos, h]
  unfold Utf8.decode
  simp only [Nat.add_zero, hg]
  rw [if_neg (by omega)]
  repeat' split
  all_goals first | (simp [Utf8.runeError]; done) | (simp only [Bool.and_eq_true, decide_eq_true_eq, ge_iff_le] at *; omega)

theorem word_right (s : ByteArray) (w : World) (hs : s.size ≤ 9223372036854775807) :
    Calls Try.prog 180 #[.string s] w fun e w' => e = .returned (.bool (wordB s)) ∧ Below w.heap.size w w' := by
  have hm : s.size ≤ 9223372036854775807 := by omega
  by_cases h0 : s.size = 0
  · have e0 : s.toList = [] := List.eq_nil_of_length_eq_zero (by rw [ByteArray.toList_eq]; exact h0)
    have e1 : wordB s = false := by simp [wordB, h0]
    rw [e1]
    clear e1
    go_enter Try.func180, Try.ntmps180
    go_wp2
    go_ret
    exact ⟨rfl, Below.refl _ _⟩
  · have e0 : s.toList.isEmpty = false := by
      rw [List.isEmpty_eq_false_iff]; intro h; apply h0; rw [ByteArray.toList_eq] at h; exact congrArg List.length h
    by_cases h8 : 8 < s.size
    · have e1 : wordB s = false := by simp [wordB]; omega
      rw [e1]
      clear e1
      go_enter Try.func180, Try.ntmps180
      go_wp2
      go_ret
      exact ⟨rfl, Below.refl _ _⟩
    · go_enter Try.func180, Try.ntmps180
      go_wp2
      go_loopw [2, 4] (fun r c wr => ∃ pos : Nat, pos ≤ s.size ∧ r = .bool false ∧ wr.heap[w.heap.size]? = some (.stringIter s pos) ∧ Below w.heap.size w wr ∧ (∀ i (hi : i < s.size), i < pos → okB (s[i]'hi).toNat = true)) (fun _ _ wr => s.size - wr.iterPos w.heap.size)
      case atStart => exact ⟨0, by omega, rfl, World.iter_heap w s 0, (Below.refl _ _).alloc (Nat.le_refl _) _, fun i hi h => by omega⟩
      case round =>
        obtain ⟨pos, hpos, rfl, hit, hbw, hall⟩ := hrel
        have hpos0 := iterPos_of hit
        by_cases hp : pos < s.size
        · have hnx : ∀ ty, (Instr.next (.pointer (some ⟨w.heap.size, 0, none⟩)) true ty).run Try.prog wr = _ := fun ty => Lib.run_next_any_at wr w.heap.size s pos ty hit hp
          have hit2 := Lib.iterAt_heap wr w.heap.size s pos (pos + (Utf8.decode s pos).2) hit
          have hbw2 := Lib.below_iterAt hbw (k := w.heap.size) (Nat.le_refl _) s (pos + (Utf8.decode s pos).2)
          obtain ⟨W1, hW1⟩ : ∃ W1, W1 = wr.iterAt w.heap.size s (pos + (Utf8.decode s pos).2) := ⟨_, rfl⟩
          rw [← hW1] at hnx hit2 hbw2
          clear hW1 hit hbw
          by_cases hk : okB (s[pos]'hp).toNat = true
          · have hd := decode_small s pos hp (by simp [okB] at hk; omega)
            rw [hd] at hnx hit2
            have hk' : (97 ≤ (s[pos]'hp).toNat ∧ (s[pos]'hp).toNat ≤ 122) ∨ (48 ≤ (s[pos]'hp).toNat ∧ (s[pos]'hp).toNat ≤ 57) := by simpa [okB] using hk
            have hall2 : Hid (∀ i (hi : i < s.size), i < pos + 1 → okB (s[i]'hi).toNat = true) := by
              intro i hi h
              by_cases e : i = pos
              · subst e; exact hk
              · exact hall i hi (by omega)
            clear hall hd hk
            generalize (s[pos]'hp).toNat = c at hnx hk'
            rcases hk' with ⟨k1, k2⟩ | ⟨k1, k2⟩
            all_goals
              go_wp2
              go_roundw
              case rel => exact ⟨pos + 1, by omega, rfl, hit2, hbw2, hall2.out⟩
              case measure => rw [iterPos_of hit2, hpos0]; omega
          · have hk : okB (s[pos]'hp).toNat = false := by simpa using hk
            have e1 : wordB s = false := by simp only [wordB, not_all_of s pos hp hk, Bool.and_false]
            have H1 := Lib.hid e1
            have hk' : ¬ ((97 ≤ (Utf8.decode s pos).1 ∧ (Utf8.decode s pos).1 ≤ 122) ∨ (48 ≤ (Utf8.decode s pos).1 ∧ (Utf8.decode s pos).1 ≤ 57)) := by
              by_cases ha : (s[pos]'hp).toNat < 128
              · rw [decode_small s pos hp ha]; simp [okB] at hk; omega
              · have := decode_big s pos hp (by omega); omega
            clear e1 hk hall
            generalize (Utf8.decode s pos).1 = c at hnx hk'
            go_wp2
            all_goals (go_ret; exact ⟨ret_bool H1.out.symm, hbw2⟩)
        · have hnx : ∀ ty, (Instr.next (.pointer (some ⟨w.heap.size, 0, none⟩)) true ty).run Try.prog wr = _ := fun ty => Lib.run_next_end_at wr w.heap.size s pos ty hit hp
          have e1 : wordB s = true := by
            simp only [wordB, all_of s (fun i hi => hall i hi (by omega)), Bool.and_true]; simp; omega
          have H1 := Lib.hid e1
          clear e1 hall
          go_wp2
          go_ret
          exact ⟨ret_bool H1.out.symm, hbw⟩
end Go.Proofs.Ytjkidecaciomgaa
