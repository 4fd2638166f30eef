/- The program's head: closed facts, without reading the whole text. -/
import Derived.Test.YtjkidecaciomgaaRows
import Derived.Test.YtjkidecaciomgaaBA
import Derived.JoinedOf
namespace Go.Proofs.Ytjkidecaciomgaa
set_option maxRecDepth 1000000 in
theorem head_chars : ∃ l : List Char, Try.prog.initOrder = String.ofList l ∧ (behindMainWord (wordsSigns l)).head? = some "cut".toList := ⟨_, rfl, by kernel_rfl⟩
theorem strip_cut (r : List (List Char)) : stripLifts liftWords ("cut".toList :: r) = ([], "cut".toList :: r) := rfl
theorem head_rest {P : Program} (h : ∃ l : List Char, P.initOrder = String.ofList l ∧ (behindMainWord (wordsSigns l)).head? = some "cut".toList) : ∃ r, behindMainWord (wordsSigns P.initOrder.toList) = "cut".toList :: r := by
  obtain ⟨l, h1, h2⟩ := h
  rw [h1, String.toList_ofList]
  cases hb : behindMainWord (wordsSigns l) with
  | nil => rw [hb] at h2; cases h2
  | cons c r =>
    rw [hb] at h2
    simp only [List.head?_cons, Option.some.injEq] at h2
    exact ⟨r, by rw [h2]⟩
theorem head_lifts {P : Program} {r : List (List Char)} (h : behindMainWord (wordsSigns P.initOrder.toList) = "cut".toList :: r) : P.headLifts = [] := by
  unfold Program.headLifts
  rw [h, strip_cut]
  rfl
theorem head_make {P : Program} {r : List (List Char)} (h : behindMainWord (wordsSigns P.initOrder.toList) = "cut".toList :: r) : P.make = some .cut := by
  unfold Program.make
  rw [h]
  rfl
theorem head_final {P : Program} {r : List (List Char)} (h : behindMainWord (wordsSigns P.initOrder.toList) = "cut".toList :: r) : P.liftsFinal = false := by
  unfold Program.liftsFinal
  rw [head_lifts h, h]
  rfl
theorem head_enter {P : Program} {r : List (List Char)} (h : behindMainWord (wordsSigns P.initOrder.toList) = "cut".toList :: r) (h1 : P.laysLater = false) (h2 : P.bearsReflect = false) (h3 : P.doorFits [] = true) : P.mayEnter = true := by
  unfold Program.mayEnter
  rw [h]
  simp only [strip_cut, h1, h2, h3]
  rfl
theorem head_lays : Try.prog.laysLater = false := by kernel_rfl
theorem head_bears : Try.prog.bearsReflect = false := by kernel_rfl
theorem head_door : Try.prog.doorFits [] = true := by kernel_rfl
theorem head_t1 : Try.prog.mayEnter = true := by
  obtain ⟨r, h⟩ := head_rest head_chars
  exact head_enter h head_lays head_bears head_door
theorem head_t2 : Try.prog.liftsFinal = false := by
  obtain ⟨r, h⟩ := head_rest head_chars
  exact head_final h
theorem head_t3 : Try.prog.make = some .cut := by
  obtain ⟨r, h⟩ := head_rest head_chars
  exact head_make h
end Go.Proofs.Ytjkidecaciomgaa
