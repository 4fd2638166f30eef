/- The program's types, and which functions are called as they are: printed by wip/tools/tytab.py. -/
import Derived.Test.YtpmeffdcbjakoaaDoorVL8
import Derived.Test.YtpmeffdcbjakoaaDoorProg
import Derived.KernelRfl
set_option linter.unusedVariables false
namespace Go.Proofs.YtpmeffdcbjakoaaDoor
theorem ty1 : tyI Tryd.prog 1 = some ⟨false, 1, 8, [.nilFunc]⟩ := by kernel_rfl
theorem ty2 : tyI Tryd.prog 2 = some ⟨false, 1, 8, [(.int .i64 0)]⟩ := by kernel_rfl
theorem ty3 : tyI Tryd.prog 3 = some ⟨false, 1, 8, [(.int .i64 0)]⟩ := by kernel_rfl
theorem ty4 : tyI Tryd.prog 4 = some ⟨false, 1, 1, [(.bool false)]⟩ := by kernel_rfl
theorem ty5 : tyI Tryd.prog 5 = some ⟨false, 1, 1, [(.int .u8 0)]⟩ := by kernel_rfl
theorem ty6 : tyI Tryd.prog 6 = some ⟨false, 1, 1, [(.int .u8 0)]⟩ := by kernel_rfl
theorem ty7 : tyI Tryd.prog 7 = some ⟨true, 4, 24, [(.int .i64 0), (.int .i64 0), (.bool false), (.int .u8 0)]⟩ := by kernel_rfl
theorem pl7 : placesI Tryd.prog 7 = some [(0, 1), (1, 1), (2, 1), (3, 1)] := by kernel_rfl
theorem fl7_0 : fldI Tryd.prog 7 0 = some ⟨0, 1, false⟩ := by kernel_rfl
theorem fl7_1 : fldI Tryd.prog 7 1 = some ⟨1, 1, false⟩ := by kernel_rfl
theorem fl7_2 : fldI Tryd.prog 7 2 = some ⟨2, 1, false⟩ := by kernel_rfl
theorem fl7_3 : fldI Tryd.prog 7 3 = some ⟨3, 1, false⟩ := by kernel_rfl
theorem ty8 : tyI Tryd.prog 8 = some ⟨true, 4, 24, [(.int .i64 0), (.int .i64 0), (.bool false), (.int .u8 0)]⟩ := by kernel_rfl
theorem pl8 : placesI Tryd.prog 8 = some [(0, 1), (1, 1), (2, 1), (3, 1)] := by kernel_rfl
theorem fl8_0 : fldI Tryd.prog 8 0 = some ⟨0, 1, false⟩ := by kernel_rfl
theorem fl8_1 : fldI Tryd.prog 8 1 = some ⟨1, 1, false⟩ := by kernel_rfl
theorem fl8_2 : fldI Tryd.prog 8 2 = some ⟨2, 1, false⟩ := by kernel_rfl
theorem fl8_3 : fldI Tryd.prog 8 3 = some ⟨3, 1, false⟩ := by kernel_rfl
theorem ty9 : tyI Tryd.prog 9 = some ⟨false, 1, 16, [(.string ⟨#[]⟩)]⟩ := by kernel_rfl
theorem ty10 : tyI Tryd.prog 10 = some ⟨false, 1, 16, [(.string ⟨#[]⟩)]⟩ := by kernel_rfl
theorem ty11 : tyI Tryd.prog 11 = some ⟨false, 1, 16, [(.string ⟨#[]⟩)]⟩ := by kernel_rfl
theorem ty12 : tyI Tryd.prog 12 = some ⟨false, 1, 8, [(.int .u64 0)]⟩ := by kernel_rfl
theorem ty13 : tyI Tryd.prog 13 = some ⟨true, 2, 24, [(.string ⟨#[]⟩), (.int .u64 0)]⟩ := by kernel_rfl
theorem pl13 : placesI Tryd.prog 13 = some [(0, 1), (1, 1)] := by kernel_rfl
theorem fl13_0 : fldI Tryd.prog 13 0 = some ⟨0, 1, false⟩ := by kernel_rfl
theorem fl13_1 : fldI Tryd.prog 13 1 = some ⟨1, 1, false⟩ := by kernel_rfl
theorem ty14 : tyI Tryd.prog 14 = some ⟨true, 2, 24, [(.string ⟨#[]⟩), (.int .u64 0)]⟩ := by kernel_rfl
theorem pl14 : placesI Tryd.prog 14 = some [(0, 1), (1, 1)] := by kernel_rfl
theorem fl14_0 : fldI Tryd.prog 14 0 = some ⟨0, 1, false⟩ := by kernel_rfl
theorem fl14_1 : fldI Tryd.prog 14 1 = some ⟨1, 1, false⟩ := by kernel_rfl
theorem ty15 : tyI Tryd.prog 15 = some ⟨false, 1, 8, [(.pointer none)]⟩ := by kernel_rfl
theorem pt15 : isPtr Tryd.prog 15 = true := by kernel_rfl
theorem ty16 : tyI Tryd.prog 16 = some ⟨false, 1, 8, [(.pointer none)]⟩ := by kernel_rfl
theorem pt16 : isPtr Tryd.prog 16 = true := by kernel_rfl
theorem ty17 : tyI Tryd.prog 17 = some ⟨false, 1, 8, [(.pointer none)]⟩ := by kernel_rfl
theorem pt17 : isPtr Tryd.prog 17 = true := by kernel_rfl
theorem ty18 : tyI Tryd.prog 18 = some ⟨true, 1, 8, [(.pointer none)]⟩ := by kernel_rfl
theorem pl18 : placesI Tryd.prog 18 = some [(0, 1)] := by kernel_rfl
theorem fl18_0 : fldI Tryd.prog 18 0 = some ⟨0, 1, false⟩ := by kernel_rfl
theorem ty19 : tyI Tryd.prog 19 = some ⟨true, 1, 8, [(.pointer none)]⟩ := by kernel_rfl
theorem pl19 : placesI Tryd.prog 19 = some [(0, 1)] := by kernel_rfl
theorem fl19_0 : fldI Tryd.prog 19 0 = some ⟨0, 1, false⟩ := by kernel_rfl
theorem ty20 : tyI Tryd.prog 20 = some ⟨false, 1, 16, [.nilIface]⟩ := by kernel_rfl
theorem ty21 : tyI Tryd.prog 21 = some ⟨false, 1, 4, [(.int .i32 0)]⟩ := by kernel_rfl
theorem ty22 : tyI Tryd.prog 22 = some ⟨false, 1, 24, [(.slice none 0 0)]⟩ := by kernel_rfl
theorem sl22 : sliceE Tryd.prog 22 = some 33 := by kernel_rfl
theorem ty23 : tyI Tryd.prog 23 = some ⟨false, 1, 24, [(.slice none 0 0)]⟩ := by kernel_rfl
theorem sl23 : sliceE Tryd.prog 23 = some 22 := by kernel_rfl
theorem ty24 : tyI Tryd.prog 24 = some ⟨true, 2, 48, [(.slice none 0 0), (.slice none 0 0)]⟩ := by kernel_rfl
theorem pl24 : placesI Tryd.prog 24 = some [(0, 1), (1, 1)] := by kernel_rfl
theorem fl24_0 : fldI Tryd.prog 24 0 = some ⟨0, 1, false⟩ := by kernel_rfl
theorem fl24_1 : fldI Tryd.prog 24 1 = some ⟨1, 1, false⟩ := by kernel_rfl
theorem ty25 : tyI Tryd.prog 25 = some ⟨true, 2, 48, [(.slice none 0 0), (.slice none 0 0)]⟩ := by kernel_rfl
theorem pl25 : placesI Tryd.prog 25 = some [(0, 1), (1, 1)] := by kernel_rfl
theorem fl25_0 : fldI Tryd.prog 25 0 = some ⟨0, 1, false⟩ := by kernel_rfl
theorem fl25_1 : fldI Tryd.prog 25 1 = some ⟨1, 1, false⟩ := by kernel_rfl
theorem ty26 : tyI Tryd.prog 26 = some ⟨false, 1, 8, [.nilFunc]⟩ := by kernel_rfl
theorem ty27 : tyI Tryd.prog 27 = some ⟨false, 1, 8, [.nilFunc]⟩ := by kernel_rfl
theorem ty28 : tyI Tryd.prog 28 = some ⟨false, 1, 8, [(.int .i64 0)]⟩ := by kernel_rfl
theorem ty30 : tyI Tryd.prog 30 = some ⟨false, 1, 8, [.nilFunc]⟩ := by kernel_rfl
theorem ty31 : tyI Tryd.prog 31 = some ⟨false, 1, 8, [.nilFunc]⟩ := by kernel_rfl
theorem ty32 : tyI Tryd.prog 32 = some ⟨true, 6, 56, [(.int .i64 0), (.int .i64 0), (.int .i64 0), (.int .i64 0), (.int .i64 0), (.string ⟨#[]⟩)]⟩ := by kernel_rfl
theorem pl32 : placesI Tryd.prog 32 = some [(0, 1), (1, 1), (2, 1), (3, 1), (4, 1), (5, 1)] := by kernel_rfl
theorem fl32_0 : fldI Tryd.prog 32 0 = some ⟨0, 1, false⟩ := by kernel_rfl
theorem fl32_1 : fldI Tryd.prog 32 1 = some ⟨1, 1, false⟩ := by kernel_rfl
theorem fl32_2 : fldI Tryd.prog 32 2 = some ⟨2, 1, false⟩ := by kernel_rfl
theorem fl32_3 : fldI Tryd.prog 32 3 = some ⟨3, 1, false⟩ := by kernel_rfl
theorem fl32_4 : fldI Tryd.prog 32 4 = some ⟨4, 1, false⟩ := by kernel_rfl
theorem fl32_5 : fldI Tryd.prog 32 5 = some ⟨5, 1, false⟩ := by kernel_rfl
theorem ty33 : tyI Tryd.prog 33 = some ⟨true, 6, 56, [(.int .i64 0), (.int .i64 0), (.int .i64 0), (.int .i64 0), (.int .i64 0), (.string ⟨#[]⟩)]⟩ := by kernel_rfl
theorem pl33 : placesI Tryd.prog 33 = some [(0, 1), (1, 1), (2, 1), (3, 1), (4, 1), (5, 1)] := by kernel_rfl
theorem fl33_0 : fldI Tryd.prog 33 0 = some ⟨0, 1, false⟩ := by kernel_rfl
theorem fl33_1 : fldI Tryd.prog 33 1 = some ⟨1, 1, false⟩ := by kernel_rfl
theorem fl33_2 : fldI Tryd.prog 33 2 = some ⟨2, 1, false⟩ := by kernel_rfl
theorem fl33_3 : fldI Tryd.prog 33 3 = some ⟨3, 1, false⟩ := by kernel_rfl
theorem fl33_4 : fldI Tryd.prog 33 4 = some ⟨4, 1, false⟩ := by kernel_rfl
theorem fl33_5 : fldI Tryd.prog 33 5 = some ⟨5, 1, false⟩ := by kernel_rfl
theorem ty35 : tyI Tryd.prog 35 = some ⟨false, 1, 8, [.nilFunc]⟩ := by kernel_rfl
theorem ty37 : tyI Tryd.prog 37 = some ⟨false, 1, 8, [.nilFunc]⟩ := by kernel_rfl
theorem ty38 : tyI Tryd.prog 38 = some ⟨false, 1, 8, [.nilFunc]⟩ := by kernel_rfl
theorem ty39 : tyI Tryd.prog 39 = some ⟨false, 1, 8, [.nilFunc]⟩ := by kernel_rfl
theorem ty40 : tyI Tryd.prog 40 = some ⟨false, 1, 8, [.nilFunc]⟩ := by kernel_rfl
theorem ty41 : tyI Tryd.prog 41 = some ⟨false, 1, 8, [.nilFunc]⟩ := by kernel_rfl
theorem ty42 : tyI Tryd.prog 42 = some ⟨false, 1, 8, [.nilFunc]⟩ := by kernel_rfl
theorem ty43 : tyI Tryd.prog 43 = some ⟨false, 1, 8, [.nilFunc]⟩ := by kernel_rfl
theorem ty44 : tyI Tryd.prog 44 = some ⟨false, 1, 8, [.nilFunc]⟩ := by kernel_rfl
theorem ty45 : tyI Tryd.prog 45 = some ⟨false, 1, 8, [.nilFunc]⟩ := by kernel_rfl
theorem ty46 : tyI Tryd.prog 46 = some ⟨false, 1, 8, [.nilFunc]⟩ := by kernel_rfl
theorem ty47 : tyI Tryd.prog 47 = some ⟨false, 1, 8, [.nilFunc]⟩ := by kernel_rfl
theorem ty48 : tyI Tryd.prog 48 = some ⟨false, 1, 24, [(.slice none 0 0)]⟩ := by kernel_rfl
theorem sl48 : sliceE Tryd.prog 48 = some 3 := by kernel_rfl
theorem ty49 : tyI Tryd.prog 49 = some ⟨false, 1, 8, [.nilFunc]⟩ := by kernel_rfl
theorem ty50 : tyI Tryd.prog 50 = some ⟨false, 1, 8, [.nilFunc]⟩ := by kernel_rfl
theorem ty51 : tyI Tryd.prog 51 = some ⟨false, 1, 8, [.nilFunc]⟩ := by kernel_rfl
theorem ty52 : tyI Tryd.prog 52 = some ⟨true, 4, 32, [(.int .i64 0), (.int .i64 0), (.int .i64 0), (.int .i64 0)]⟩ := by kernel_rfl
theorem ty53 : tyI Tryd.prog 53 = some ⟨false, 1, 8, [.nilFunc]⟩ := by kernel_rfl
theorem ty54 : tyI Tryd.prog 54 = some ⟨false, 1, 24, [(.slice none 0 0)]⟩ := by kernel_rfl
theorem sl54 : sliceE Tryd.prog 54 = some 9 := by kernel_rfl
theorem ty55 : tyI Tryd.prog 55 = some ⟨true, 18, 18, [(.bool false), (.bool false), (.bool false), (.bool false), (.bool false), (.bool false), (.bool false), (.bool false), (.bool false), (.bool false), (.bool false), (.bool false), (.bool false), (.bool false), (.bool false), (.bool false), (.bool false), (.bool false)]⟩ := by kernel_rfl
theorem ty56 : tyI Tryd.prog 56 = some ⟨true, 18, 144, [(.int .i64 0), (.int .i64 0), (.int .i64 0), (.int .i64 0), (.int .i64 0), (.int .i64 0), (.int .i64 0), (.int .i64 0), (.int .i64 0), (.int .i64 0), (.int .i64 0), (.int .i64 0), (.int .i64 0), (.int .i64 0), (.int .i64 0), (.int .i64 0), (.int .i64 0), (.int .i64 0)]⟩ := by kernel_rfl
theorem ty57 : tyI Tryd.prog 57 = some ⟨false, 1, 8, [.nilFunc]⟩ := by kernel_rfl
theorem ty58 : tyI Tryd.prog 58 = some ⟨true, 4, 40, [(.pointer none), (.pointer none), (.pointer none), (.string ⟨#[]⟩)]⟩ := by kernel_rfl
theorem pl58 : placesI Tryd.prog 58 = some [(0, 1), (1, 1), (2, 1), (3, 1)] := by kernel_rfl
theorem fl58_0 : fldI Tryd.prog 58 0 = some ⟨0, 1, false⟩ := by kernel_rfl
theorem fl58_1 : fldI Tryd.prog 58 1 = some ⟨1, 1, false⟩ := by kernel_rfl
theorem fl58_2 : fldI Tryd.prog 58 2 = some ⟨2, 1, false⟩ := by kernel_rfl
theorem fl58_3 : fldI Tryd.prog 58 3 = some ⟨3, 1, false⟩ := by kernel_rfl
theorem ty59 : tyI Tryd.prog 59 = some ⟨true, 4, 40, [(.pointer none), (.pointer none), (.pointer none), (.string ⟨#[]⟩)]⟩ := by kernel_rfl
theorem pl59 : placesI Tryd.prog 59 = some [(0, 1), (1, 1), (2, 1), (3, 1)] := by kernel_rfl
theorem fl59_0 : fldI Tryd.prog 59 0 = some ⟨0, 1, false⟩ := by kernel_rfl
theorem fl59_1 : fldI Tryd.prog 59 1 = some ⟨1, 1, false⟩ := by kernel_rfl
theorem fl59_2 : fldI Tryd.prog 59 2 = some ⟨2, 1, false⟩ := by kernel_rfl
theorem fl59_3 : fldI Tryd.prog 59 3 = some ⟨3, 1, false⟩ := by kernel_rfl
theorem ty60 : tyI Tryd.prog 60 = some ⟨true, 0, 0, []⟩ := by kernel_rfl
theorem ty61 : tyI Tryd.prog 61 = some ⟨true, 0, 0, []⟩ := by kernel_rfl
theorem pl61 : placesI Tryd.prog 61 = some [(0, 0)] := by kernel_rfl
theorem fl61_0 : fldI Tryd.prog 61 0 = some ⟨0, 0, true⟩ := by kernel_rfl
theorem ty62 : tyI Tryd.prog 62 = some ⟨true, 0, 0, []⟩ := by kernel_rfl
theorem pl62 : placesI Tryd.prog 62 = some [(0, 0)] := by kernel_rfl
theorem fl62_0 : fldI Tryd.prog 62 0 = some ⟨0, 0, true⟩ := by kernel_rfl
theorem ty63 : tyI Tryd.prog 63 = some ⟨false, 1, 8, [.nilFunc]⟩ := by kernel_rfl
theorem ty64 : tyI Tryd.prog 64 = some ⟨false, 1, 4, [(.int .u32 0)]⟩ := by kernel_rfl
theorem ty65 : tyI Tryd.prog 65 = some ⟨false, 1, 1, [(.int .u8 0)]⟩ := by kernel_rfl
theorem ty66 : tyI Tryd.prog 66 = some ⟨false, 1, 1, [(.int .u8 0)]⟩ := by kernel_rfl
theorem ty67 : tyI Tryd.prog 67 = some ⟨false, 1, 8, [.nilFunc]⟩ := by kernel_rfl
theorem ty68 : tyI Tryd.prog 68 = some ⟨false, 1, 8, [(.pointer none)]⟩ := by kernel_rfl
theorem pt68 : isPtr Tryd.prog 68 = true := by kernel_rfl
theorem ty69 : tyI Tryd.prog 69 = some ⟨false, 1, 4, [(.int .i32 0)]⟩ := by kernel_rfl
theorem ty70 : tyI Tryd.prog 70 = some ⟨false, 1, 4, [(.int .i32 0)]⟩ := by kernel_rfl
theorem ty71 : tyI Tryd.prog 71 = some ⟨true, 11, 48, [(.int .u64 0), (.int .u64 0), (.int .u32 0), (.int .u8 0), (.int .u8 0), (.int .u8 0), (.int .u8 0), .nilFunc, (.pointer none), (.int .i32 0), (.int .i32 0)]⟩ := by kernel_rfl
theorem pl71 : placesI Tryd.prog 71 = some [(0, 1), (1, 1), (2, 1), (3, 1), (4, 1), (5, 1), (6, 1), (7, 1), (8, 1), (9, 1), (10, 1)] := by kernel_rfl
theorem fl71_0 : fldI Tryd.prog 71 0 = some ⟨0, 1, false⟩ := by kernel_rfl
theorem fl71_1 : fldI Tryd.prog 71 1 = some ⟨1, 1, false⟩ := by kernel_rfl
theorem fl71_2 : fldI Tryd.prog 71 2 = some ⟨2, 1, false⟩ := by kernel_rfl
theorem fl71_3 : fldI Tryd.prog 71 3 = some ⟨3, 1, false⟩ := by kernel_rfl
theorem fl71_4 : fldI Tryd.prog 71 4 = some ⟨4, 1, false⟩ := by kernel_rfl
theorem fl71_5 : fldI Tryd.prog 71 5 = some ⟨5, 1, false⟩ := by kernel_rfl
theorem fl71_6 : fldI Tryd.prog 71 6 = some ⟨6, 1, false⟩ := by kernel_rfl
theorem fl71_7 : fldI Tryd.prog 71 7 = some ⟨7, 1, false⟩ := by kernel_rfl
theorem fl71_8 : fldI Tryd.prog 71 8 = some ⟨8, 1, false⟩ := by kernel_rfl
theorem fl71_9 : fldI Tryd.prog 71 9 = some ⟨9, 1, false⟩ := by kernel_rfl
theorem fl71_10 : fldI Tryd.prog 71 10 = some ⟨10, 1, false⟩ := by kernel_rfl
theorem ty72 : tyI Tryd.prog 72 = some ⟨true, 11, 48, [(.int .u64 0), (.int .u64 0), (.int .u32 0), (.int .u8 0), (.int .u8 0), (.int .u8 0), (.int .u8 0), .nilFunc, (.pointer none), (.int .i32 0), (.int .i32 0)]⟩ := by kernel_rfl
theorem pl72 : placesI Tryd.prog 72 = some [(0, 1), (1, 1), (2, 1), (3, 1), (4, 1), (5, 1), (6, 1), (7, 1), (8, 1), (9, 1), (10, 1)] := by kernel_rfl
theorem fl72_0 : fldI Tryd.prog 72 0 = some ⟨0, 1, false⟩ := by kernel_rfl
theorem fl72_1 : fldI Tryd.prog 72 1 = some ⟨1, 1, false⟩ := by kernel_rfl
theorem fl72_2 : fldI Tryd.prog 72 2 = some ⟨2, 1, false⟩ := by kernel_rfl
theorem fl72_3 : fldI Tryd.prog 72 3 = some ⟨3, 1, false⟩ := by kernel_rfl
theorem fl72_4 : fldI Tryd.prog 72 4 = some ⟨4, 1, false⟩ := by kernel_rfl
theorem fl72_5 : fldI Tryd.prog 72 5 = some ⟨5, 1, false⟩ := by kernel_rfl
theorem fl72_6 : fldI Tryd.prog 72 6 = some ⟨6, 1, false⟩ := by kernel_rfl
theorem fl72_7 : fldI Tryd.prog 72 7 = some ⟨7, 1, false⟩ := by kernel_rfl
theorem fl72_8 : fldI Tryd.prog 72 8 = some ⟨8, 1, false⟩ := by kernel_rfl
theorem fl72_9 : fldI Tryd.prog 72 9 = some ⟨9, 1, false⟩ := by kernel_rfl
theorem fl72_10 : fldI Tryd.prog 72 10 = some ⟨10, 1, false⟩ := by kernel_rfl
theorem ty73 : tyI Tryd.prog 73 = some ⟨false, 1, 8, [(.pointer none)]⟩ := by kernel_rfl
inductive Tr (α : Type) where
  | nil
  | node (k : Nat) (v : α) (l r : Tr α)
def lookT {α : Type} : Tr α → Nat → Option α
  | .nil, _ => none
  | .node k v l r, n => bif Nat.beq k n then some v else bif Nat.blt n k then lookT l n else lookT r n
def Tr.All {α : Type} (p : Nat → α → Prop) : Tr α → Prop
  | .nil => True
  | .node k v l r => p k v ∧ l.All p ∧ r.All p
theorem Tr.All.look {α : Type} {p : Nat → α → Prop} : ∀ {t : Tr α} {n : Nat} {x : α}, t.All p → lookT t n = some x → p n x
  | .nil, n, x, _, h => by cases h
  | .node k v l r, n, x, ha, h => by
    simp only [lookT] at h
    cases hb : Nat.beq k n with
    | true =>
      rw [hb] at h
      cases h
      have := Nat.eq_of_beq_eq_true hb
      subst this
      exact ha.1
    | false =>
      rw [hb, cond_false] at h
      cases hc : Nat.blt n k with
      | true => rw [hc, cond_true] at h; exact Tr.All.look ha.2.1 h
      | false => rw [hc, cond_false] at h; exact Tr.All.look ha.2.2 h
def tyTab : Tr (TyI) := (.node 39 ⟨false, 1, 8, [.nilFunc]⟩ (.node 18 ⟨true, 1, 8, [(.pointer none)]⟩ (.node 9 ⟨false, 1, 16, [(.string ⟨#[]⟩)]⟩ (.node 5 ⟨false, 1, 1, [(.int .u8 0)]⟩ (.node 3 ⟨false, 1, 8, [(.int .i64 0)]⟩ (.node 2 ⟨false, 1, 8, [(.int .i64 0)]⟩ (.node 1 ⟨false, 1, 8, [.nilFunc]⟩ .nil .nil) .nil) (.node 4 ⟨false, 1, 1, [(.bool false)]⟩ .nil .nil)) (.node 7 ⟨true, 4, 24, [(.int .i64 0), (.int .i64 0), (.bool false), (.int .u8 0)]⟩ (.node 6 ⟨false, 1, 1, [(.int .u8 0)]⟩ .nil .nil) (.node 8 ⟨true, 4, 24, [(.int .i64 0), (.int .i64 0), (.bool false), (.int .u8 0)]⟩ .nil .nil))) (.node 14 ⟨true, 2, 24, [(.string ⟨#[]⟩), (.int .u64 0)]⟩ (.node 12 ⟨false, 1, 8, [(.int .u64 0)]⟩ (.node 11 ⟨false, 1, 16, [(.string ⟨#[]⟩)]⟩ (.node 10 ⟨false, 1, 16, [(.string ⟨#[]⟩)]⟩ .nil .nil) .nil) (.node 13 ⟨true, 2, 24, [(.string ⟨#[]⟩), (.int .u64 0)]⟩ .nil .nil)) (.node 16 ⟨false, 1, 8, [(.pointer none)]⟩ (.node 15 ⟨false, 1, 8, [(.pointer none)]⟩ .nil .nil) (.node 17 ⟨false, 1, 8, [(.pointer none)]⟩ .nil .nil)))) (.node 28 ⟨false, 1, 8, [(.int .i64 0)]⟩ (.node 24 ⟨true, 2, 48, [(.slice none 0 0), (.slice none 0 0)]⟩ (.node 22 ⟨false, 1, 24, [(.slice none 0 0)]⟩ (.node 21 ⟨false, 1, 4, [(.int .i32 0)]⟩ (.node 19 ⟨true, 1, 8, [(.pointer none)]⟩ .nil .nil) .nil) (.node 23 ⟨false, 1, 24, [(.slice none 0 0)]⟩ .nil .nil)) (.node 26 ⟨false, 1, 8, [.nilFunc]⟩ (.node 25 ⟨true, 2, 48, [(.slice none 0 0), (.slice none 0 0)]⟩ .nil .nil) (.node 27 ⟨false, 1, 8, [.nilFunc]⟩ .nil .nil))) (.node 33 ⟨true, 6, 56, [(.int .i64 0), (.int .i64 0), (.int .i64 0), (.int .i64 0), (.int .i64 0), (.string ⟨#[]⟩)]⟩ (.node 31 ⟨false, 1, 8, [.nilFunc]⟩ (.node 30 ⟨false, 1, 8, [.nilFunc]⟩ .nil .nil) (.node 32 ⟨true, 6, 56, [(.int .i64 0), (.int .i64 0), (.int .i64 0), (.int .i64 0), (.int .i64 0), (.string ⟨#[]⟩)]⟩ .nil .nil)) (.node 37 ⟨false, 1, 8, [.nilFunc]⟩ (.node 35 ⟨false, 1, 8, [.nilFunc]⟩ .nil .nil) (.node 38 ⟨false, 1, 8, [.nilFunc]⟩ .nil .nil))))) (.node 57 ⟨false, 1, 8, [.nilFunc]⟩ (.node 48 ⟨false, 1, 24, [(.slice none 0 0)]⟩ (.node 44 ⟨false, 1, 8, [.nilFunc]⟩ (.node 42 ⟨false, 1, 8, [.nilFunc]⟩ (.node 41 ⟨false, 1, 8, [.nilFunc]⟩ (.node 40 ⟨false, 1, 8, [.nilFunc]⟩ .nil .nil) .nil) (.node 43 ⟨false, 1, 8, [.nilFunc]⟩ .nil .nil)) (.node 46 ⟨false, 1, 8, [.nilFunc]⟩ (.node 45 ⟨false, 1, 8, [.nilFunc]⟩ .nil .nil) (.node 47 ⟨false, 1, 8, [.nilFunc]⟩ .nil .nil))) (.node 53 ⟨false, 1, 8, [.nilFunc]⟩ (.node 51 ⟨false, 1, 8, [.nilFunc]⟩ (.node 50 ⟨false, 1, 8, [.nilFunc]⟩ (.node 49 ⟨false, 1, 8, [.nilFunc]⟩ .nil .nil) .nil) (.node 52 ⟨true, 4, 32, [(.int .i64 0), (.int .i64 0), (.int .i64 0), (.int .i64 0)]⟩ .nil .nil)) (.node 55 ⟨true, 18, 18, [(.bool false), (.bool false), (.bool false), (.bool false), (.bool false), (.bool false), (.bool false), (.bool false), (.bool false), (.bool false), (.bool false), (.bool false), (.bool false), (.bool false), (.bool false), (.bool false), (.bool false), (.bool false)]⟩ (.node 54 ⟨false, 1, 24, [(.slice none 0 0)]⟩ .nil .nil) (.node 56 ⟨true, 18, 144, [(.int .i64 0), (.int .i64 0), (.int .i64 0), (.int .i64 0), (.int .i64 0), (.int .i64 0), (.int .i64 0), (.int .i64 0), (.int .i64 0), (.int .i64 0), (.int .i64 0), (.int .i64 0), (.int .i64 0), (.int .i64 0), (.int .i64 0), (.int .i64 0), (.int .i64 0), (.int .i64 0)]⟩ .nil .nil)))) (.node 66 ⟨false, 1, 1, [(.int .u8 0)]⟩ (.node 62 ⟨true, 0, 0, []⟩ (.node 60 ⟨true, 0, 0, []⟩ (.node 59 ⟨true, 4, 40, [(.pointer none), (.pointer none), (.pointer none), (.string ⟨#[]⟩)]⟩ (.node 58 ⟨true, 4, 40, [(.pointer none), (.pointer none), (.pointer none), (.string ⟨#[]⟩)]⟩ .nil .nil) .nil) (.node 61 ⟨true, 0, 0, []⟩ .nil .nil)) (.node 64 ⟨false, 1, 4, [(.int .u32 0)]⟩ (.node 63 ⟨false, 1, 8, [.nilFunc]⟩ .nil .nil) (.node 65 ⟨false, 1, 1, [(.int .u8 0)]⟩ .nil .nil))) (.node 70 ⟨false, 1, 4, [(.int .i32 0)]⟩ (.node 68 ⟨false, 1, 8, [(.pointer none)]⟩ (.node 67 ⟨false, 1, 8, [.nilFunc]⟩ .nil .nil) (.node 69 ⟨false, 1, 4, [(.int .i32 0)]⟩ .nil .nil)) (.node 72 ⟨true, 11, 48, [(.int .u64 0), (.int .u64 0), (.int .u32 0), (.int .u8 0), (.int .u8 0), (.int .u8 0), (.int .u8 0), .nilFunc, (.pointer none), (.int .i32 0), (.int .i32 0)]⟩ (.node 71 ⟨true, 11, 48, [(.int .u64 0), (.int .u64 0), (.int .u32 0), (.int .u8 0), (.int .u8 0), (.int .u8 0), (.int .u8 0), .nilFunc, (.pointer none), (.int .i32 0), (.int .i32 0)]⟩ .nil .nil) (.node 73 ⟨false, 1, 8, [(.pointer none)]⟩ .nil .nil))))))
theorem tyT : tyTab.All (fun T i => tyI Tryd.prog T = some i) := ⟨ty39, ⟨ty18, ⟨ty9, ⟨ty5, ⟨ty3, ⟨ty2, ⟨ty1, trivial, trivial⟩, trivial⟩, ⟨ty4, trivial, trivial⟩⟩, ⟨ty7, ⟨ty6, trivial, trivial⟩, ⟨ty8, trivial, trivial⟩⟩⟩, ⟨ty14, ⟨ty12, ⟨ty11, ⟨ty10, trivial, trivial⟩, trivial⟩, ⟨ty13, trivial, trivial⟩⟩, ⟨ty16, ⟨ty15, trivial, trivial⟩, ⟨ty17, trivial, trivial⟩⟩⟩⟩, ⟨ty28, ⟨ty24, ⟨ty22, ⟨ty21, ⟨ty19, trivial, trivial⟩, trivial⟩, ⟨ty23, trivial, trivial⟩⟩, ⟨ty26, ⟨ty25, trivial, trivial⟩, ⟨ty27, trivial, trivial⟩⟩⟩, ⟨ty33, ⟨ty31, ⟨ty30, trivial, trivial⟩, ⟨ty32, trivial, trivial⟩⟩, ⟨ty37, ⟨ty35, trivial, trivial⟩, ⟨ty38, trivial, trivial⟩⟩⟩⟩⟩, ⟨ty57, ⟨ty48, ⟨ty44, ⟨ty42, ⟨ty41, ⟨ty40, trivial, trivial⟩, trivial⟩, ⟨ty43, trivial, trivial⟩⟩, ⟨ty46, ⟨ty45, trivial, trivial⟩, ⟨ty47, trivial, trivial⟩⟩⟩, ⟨ty53, ⟨ty51, ⟨ty50, ⟨ty49, trivial, trivial⟩, trivial⟩, ⟨ty52, trivial, trivial⟩⟩, ⟨ty55, ⟨ty54, trivial, trivial⟩, ⟨ty56, trivial, trivial⟩⟩⟩⟩, ⟨ty66, ⟨ty62, ⟨ty60, ⟨ty59, ⟨ty58, trivial, trivial⟩, trivial⟩, ⟨ty61, trivial, trivial⟩⟩, ⟨ty64, ⟨ty63, trivial, trivial⟩, ⟨ty65, trivial, trivial⟩⟩⟩, ⟨ty70, ⟨ty68, ⟨ty67, trivial, trivial⟩, ⟨ty69, trivial, trivial⟩⟩, ⟨ty72, ⟨ty71, trivial, trivial⟩, ⟨ty73, trivial, trivial⟩⟩⟩⟩⟩⟩
theorem tyA {T : TypeId} {i : TyI} (h : lookT tyTab T = some i) : tyI Tryd.prog T = some i := tyT.look h
def slTab : Tr (TypeId) := (.node 48 3 (.node 23 22 (.node 22 33 .nil .nil) .nil) (.node 54 9 .nil .nil))
theorem slT : slTab.All (fun T i => sliceE Tryd.prog T = some i) := ⟨sl48, ⟨sl23, ⟨sl22, trivial, trivial⟩, trivial⟩, ⟨sl54, trivial, trivial⟩⟩
theorem slA {T : TypeId} {i : TypeId} (h : lookT slTab T = some i) : sliceE Tryd.prog T = some i := slT.look h
def ptTab : Tr (Unit) := (.node 17 () (.node 16 () (.node 15 () .nil .nil) .nil) (.node 68 () .nil .nil))
theorem ptT : ptTab.All (fun T i => isPtr Tryd.prog T = true) := ⟨pt17, ⟨pt16, ⟨pt15, trivial, trivial⟩, trivial⟩, ⟨pt68, trivial, trivial⟩⟩
theorem ptA {T : TypeId} {i : Unit} (h : lookT ptTab T = some i) : isPtr Tryd.prog T = true := ptT.look h
def plTab : Tr (List (Nat × Nat)) := (.node 32 [(0, 1), (1, 1), (2, 1), (3, 1), (4, 1), (5, 1)] (.node 18 [(0, 1)] (.node 13 [(0, 1), (1, 1)] (.node 8 [(0, 1), (1, 1), (2, 1), (3, 1)] (.node 7 [(0, 1), (1, 1), (2, 1), (3, 1)] .nil .nil) .nil) (.node 14 [(0, 1), (1, 1)] .nil .nil)) (.node 24 [(0, 1), (1, 1)] (.node 19 [(0, 1)] .nil .nil) (.node 25 [(0, 1), (1, 1)] .nil .nil))) (.node 61 [(0, 0)] (.node 58 [(0, 1), (1, 1), (2, 1), (3, 1)] (.node 33 [(0, 1), (1, 1), (2, 1), (3, 1), (4, 1), (5, 1)] .nil .nil) (.node 59 [(0, 1), (1, 1), (2, 1), (3, 1)] .nil .nil)) (.node 71 [(0, 1), (1, 1), (2, 1), (3, 1), (4, 1), (5, 1), (6, 1), (7, 1), (8, 1), (9, 1), (10, 1)] (.node 62 [(0, 0)] .nil .nil) (.node 72 [(0, 1), (1, 1), (2, 1), (3, 1), (4, 1), (5, 1), (6, 1), (7, 1), (8, 1), (9, 1), (10, 1)] .nil .nil))))
theorem plT : plTab.All (fun T i => placesI Tryd.prog T = some i) := ⟨pl32, ⟨pl18, ⟨pl13, ⟨pl8, ⟨pl7, trivial, trivial⟩, trivial⟩, ⟨pl14, trivial, trivial⟩⟩, ⟨pl24, ⟨pl19, trivial, trivial⟩, ⟨pl25, trivial, trivial⟩⟩⟩, ⟨pl61, ⟨pl58, ⟨pl33, trivial, trivial⟩, ⟨pl59, trivial, trivial⟩⟩, ⟨pl71, ⟨pl62, trivial, trivial⟩, ⟨pl72, trivial, trivial⟩⟩⟩⟩
theorem plA {T : TypeId} {i : List (Nat × Nat)} (h : lookT plTab T = some i) : placesI Tryd.prog T = some i := plT.look h
def boTab : Tr (Unit) := (.node 4 () .nil .nil)
theorem boT : boTab.All (fun T i => Tryd.prog.underlying T = some .bool) := ⟨Tryd.underlying4, trivial, trivial⟩
theorem boA {T : TypeId} {i : Unit} (h : lookT boTab T = some i) : Tryd.prog.underlying T = some .bool := boT.look h
def flTab : Tr (FldI) := (.node 3713 ⟨1, 1, false⟩ (.node 1537 ⟨1, 1, false⟩ (.node 515 ⟨3, 1, false⟩ (.node 451 ⟨3, 1, false⟩ (.node 449 ⟨1, 1, false⟩ (.node 448 ⟨0, 1, false⟩ .nil .nil) (.node 450 ⟨2, 1, false⟩ .nil .nil)) (.node 513 ⟨1, 1, false⟩ (.node 512 ⟨0, 1, false⟩ .nil .nil) (.node 514 ⟨2, 1, false⟩ .nil .nil))) (.node 897 ⟨1, 1, false⟩ (.node 833 ⟨1, 1, false⟩ (.node 832 ⟨0, 1, false⟩ .nil .nil) (.node 896 ⟨0, 1, false⟩ .nil .nil)) (.node 1216 ⟨0, 1, false⟩ (.node 1152 ⟨0, 1, false⟩ .nil .nil) (.node 1536 ⟨0, 1, false⟩ .nil .nil)))) (.node 2053 ⟨5, 1, false⟩ (.node 2049 ⟨1, 1, false⟩ (.node 1601 ⟨1, 1, false⟩ (.node 1600 ⟨0, 1, false⟩ .nil .nil) (.node 2048 ⟨0, 1, false⟩ .nil .nil)) (.node 2051 ⟨3, 1, false⟩ (.node 2050 ⟨2, 1, false⟩ .nil .nil) (.node 2052 ⟨4, 1, false⟩ .nil .nil))) (.node 2115 ⟨3, 1, false⟩ (.node 2113 ⟨1, 1, false⟩ (.node 2112 ⟨0, 1, false⟩ .nil .nil) (.node 2114 ⟨2, 1, false⟩ .nil .nil)) (.node 2117 ⟨5, 1, false⟩ (.node 2116 ⟨4, 1, false⟩ .nil .nil) (.node 3712 ⟨0, 1, false⟩ .nil .nil))))) (.node 4551 ⟨7, 1, false⟩ (.node 3968 ⟨0, 0, true⟩ (.node 3777 ⟨1, 1, false⟩ (.node 3715 ⟨3, 1, false⟩ (.node 3714 ⟨2, 1, false⟩ .nil .nil) (.node 3776 ⟨0, 1, false⟩ .nil .nil)) (.node 3779 ⟨3, 1, false⟩ (.node 3778 ⟨2, 1, false⟩ .nil .nil) (.node 3904 ⟨0, 0, true⟩ .nil .nil))) (.node 4547 ⟨3, 1, false⟩ (.node 4545 ⟨1, 1, false⟩ (.node 4544 ⟨0, 1, false⟩ .nil .nil) (.node 4546 ⟨2, 1, false⟩ .nil .nil)) (.node 4549 ⟨5, 1, false⟩ (.node 4548 ⟨4, 1, false⟩ .nil .nil) (.node 4550 ⟨6, 1, false⟩ .nil .nil)))) (.node 4612 ⟨4, 1, false⟩ (.node 4608 ⟨0, 1, false⟩ (.node 4553 ⟨9, 1, false⟩ (.node 4552 ⟨8, 1, false⟩ .nil .nil) (.node 4554 ⟨10, 1, false⟩ .nil .nil)) (.node 4610 ⟨2, 1, false⟩ (.node 4609 ⟨1, 1, false⟩ .nil .nil) (.node 4611 ⟨3, 1, false⟩ .nil .nil))) (.node 4616 ⟨8, 1, false⟩ (.node 4614 ⟨6, 1, false⟩ (.node 4613 ⟨5, 1, false⟩ .nil .nil) (.node 4615 ⟨7, 1, false⟩ .nil .nil)) (.node 4618 ⟨10, 1, false⟩ (.node 4617 ⟨9, 1, false⟩ .nil .nil) .nil)))))
theorem flT : flTab.All (fun T i => fldI Tryd.prog (T / 64) (T % 64) = some i) := ⟨fl58_1, ⟨fl24_1, ⟨fl8_3, ⟨fl7_3, ⟨fl7_1, ⟨fl7_0, trivial, trivial⟩, ⟨fl7_2, trivial, trivial⟩⟩, ⟨fl8_1, ⟨fl8_0, trivial, trivial⟩, ⟨fl8_2, trivial, trivial⟩⟩⟩, ⟨fl14_1, ⟨fl13_1, ⟨fl13_0, trivial, trivial⟩, ⟨fl14_0, trivial, trivial⟩⟩, ⟨fl19_0, ⟨fl18_0, trivial, trivial⟩, ⟨fl24_0, trivial, trivial⟩⟩⟩⟩, ⟨fl32_5, ⟨fl32_1, ⟨fl25_1, ⟨fl25_0, trivial, trivial⟩, ⟨fl32_0, trivial, trivial⟩⟩, ⟨fl32_3, ⟨fl32_2, trivial, trivial⟩, ⟨fl32_4, trivial, trivial⟩⟩⟩, ⟨fl33_3, ⟨fl33_1, ⟨fl33_0, trivial, trivial⟩, ⟨fl33_2, trivial, trivial⟩⟩, ⟨fl33_5, ⟨fl33_4, trivial, trivial⟩, ⟨fl58_0, trivial, trivial⟩⟩⟩⟩⟩, ⟨fl71_7, ⟨fl62_0, ⟨fl59_1, ⟨fl58_3, ⟨fl58_2, trivial, trivial⟩, ⟨fl59_0, trivial, trivial⟩⟩, ⟨fl59_3, ⟨fl59_2, trivial, trivial⟩, ⟨fl61_0, trivial, trivial⟩⟩⟩, ⟨fl71_3, ⟨fl71_1, ⟨fl71_0, trivial, trivial⟩, ⟨fl71_2, trivial, trivial⟩⟩, ⟨fl71_5, ⟨fl71_4, trivial, trivial⟩, ⟨fl71_6, trivial, trivial⟩⟩⟩⟩, ⟨fl72_4, ⟨fl72_0, ⟨fl71_9, ⟨fl71_8, trivial, trivial⟩, ⟨fl71_10, trivial, trivial⟩⟩, ⟨fl72_2, ⟨fl72_1, trivial, trivial⟩, ⟨fl72_3, trivial, trivial⟩⟩⟩, ⟨fl72_8, ⟨fl72_6, ⟨fl72_5, trivial, trivial⟩, ⟨fl72_7, trivial, trivial⟩⟩, ⟨fl72_10, ⟨fl72_9, trivial, trivial⟩, trivial⟩⟩⟩⟩⟩
theorem flA {T : Nat} {j : Nat} {i : FldI} (h : lookT flTab (T * 64 + j) = some i) (hj : Nat.blt j 64 = true := by rfl) : fldI Tryd.prog T j = some i := by
  have := flT.look h
  have hj := Nat.le_of_ble_eq_true hj
  rwa [show (T * 64 + j) / 64 = T by omega, show (T * 64 + j) % 64 = j by omega] at this
theorem cb2 : callB Tryd.prog 2 = true := by kernel_rfl
theorem cb3 : callB Tryd.prog 3 = true := by kernel_rfl
theorem cb4 : callB Tryd.prog 4 = true := by kernel_rfl
theorem cb5 : callB Tryd.prog 5 = true := by kernel_rfl
theorem cb6 : callB Tryd.prog 6 = true := by kernel_rfl
theorem cb7 : callB Tryd.prog 7 = true := by kernel_rfl
theorem cb8 : callB Tryd.prog 8 = true := by kernel_rfl
theorem cb9 : callB Tryd.prog 9 = true := by kernel_rfl
theorem cb10 : callB Tryd.prog 10 = true := by kernel_rfl
theorem cb11 : callB Tryd.prog 11 = true := by kernel_rfl
theorem cb12 : callB Tryd.prog 12 = true := by kernel_rfl
theorem cb13 : callB Tryd.prog 13 = true := by kernel_rfl
theorem cb14 : callB Tryd.prog 14 = true := by kernel_rfl
theorem cb15 : callB Tryd.prog 15 = true := by kernel_rfl
theorem cb16 : callB Tryd.prog 16 = true := by kernel_rfl
theorem cb17 : callB Tryd.prog 17 = true := by kernel_rfl
theorem cb18 : callB Tryd.prog 18 = true := by kernel_rfl
theorem cb19 : callB Tryd.prog 19 = true := by kernel_rfl
theorem cb20 : callB Tryd.prog 20 = true := by kernel_rfl
theorem cb21 : callB Tryd.prog 21 = true := by kernel_rfl
theorem cb22 : callB Tryd.prog 22 = true := by kernel_rfl
theorem cb23 : callB Tryd.prog 23 = true := by kernel_rfl
theorem cb24 : callB Tryd.prog 24 = true := by kernel_rfl
theorem cb25 : callB Tryd.prog 25 = true := by kernel_rfl
theorem cb26 : callB Tryd.prog 26 = true := by kernel_rfl
theorem cb27 : callB Tryd.prog 27 = true := by kernel_rfl
theorem cb28 : callB Tryd.prog 28 = true := by kernel_rfl
theorem cb29 : callB Tryd.prog 29 = true := by kernel_rfl
theorem cb51 : callB Tryd.prog 51 = true := by kernel_rfl
def cbTab : Tr Unit := (.node 16 () (.node 9 () (.node 5 () (.node 3 () (.node 2 () .nil .nil) (.node 4 () .nil .nil)) (.node 7 () (.node 6 () .nil .nil) (.node 8 () .nil .nil))) (.node 13 () (.node 11 () (.node 10 () .nil .nil) (.node 12 () .nil .nil)) (.node 15 () (.node 14 () .nil .nil) .nil))) (.node 24 () (.node 20 () (.node 18 () (.node 17 () .nil .nil) (.node 19 () .nil .nil)) (.node 22 () (.node 21 () .nil .nil) (.node 23 () .nil .nil))) (.node 28 () (.node 26 () (.node 25 () .nil .nil) (.node 27 () .nil .nil)) (.node 51 () (.node 29 () .nil .nil) .nil))))
theorem cbT : cbTab.All (fun T i => callB Tryd.prog T = true) := ⟨cb16, ⟨cb9, ⟨cb5, ⟨cb3, ⟨cb2, trivial, trivial⟩, ⟨cb4, trivial, trivial⟩⟩, ⟨cb7, ⟨cb6, trivial, trivial⟩, ⟨cb8, trivial, trivial⟩⟩⟩, ⟨cb13, ⟨cb11, ⟨cb10, trivial, trivial⟩, ⟨cb12, trivial, trivial⟩⟩, ⟨cb15, ⟨cb14, trivial, trivial⟩, trivial⟩⟩⟩, ⟨cb24, ⟨cb20, ⟨cb18, ⟨cb17, trivial, trivial⟩, ⟨cb19, trivial, trivial⟩⟩, ⟨cb22, ⟨cb21, trivial, trivial⟩, ⟨cb23, trivial, trivial⟩⟩⟩, ⟨cb28, ⟨cb26, ⟨cb25, trivial, trivial⟩, ⟨cb27, trivial, trivial⟩⟩, ⟨cb51, ⟨cb29, trivial, trivial⟩, trivial⟩⟩⟩⟩
theorem cbA {T : FuncId} {i : Unit} (h : lookT cbTab T = some i) : callB Tryd.prog T = true := cbT.look h
end Go.Proofs.YtpmeffdcbjakoaaDoor
