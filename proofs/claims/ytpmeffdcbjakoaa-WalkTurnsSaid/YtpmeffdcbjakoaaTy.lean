/- The program's types, and which functions are called as they are: printed by wip/tools/tytab.py. -/
import Derived.Test.YtpmeffdcbjakoaaVL8
import Derived.Test.YtpmeffdcbjakoaaProg
import Derived.KernelRfl
set_option linter.unusedVariables false
namespace Go.Proofs.Ytpmeffdcbjakoaa
theorem ty1 : tyI Try.prog 1 = some ⟨false, 1, 8, [.nilFunc]⟩ := by kernel_rfl
theorem ty2 : tyI Try.prog 2 = some ⟨false, 1, 8, [(.int .i64 0)]⟩ := by kernel_rfl
theorem ty3 : tyI Try.prog 3 = some ⟨false, 1, 8, [(.int .i64 0)]⟩ := by kernel_rfl
theorem ty4 : tyI Try.prog 4 = some ⟨false, 1, 1, [(.bool false)]⟩ := by kernel_rfl
theorem ty5 : tyI Try.prog 5 = some ⟨false, 1, 1, [(.int .u8 0)]⟩ := by kernel_rfl
theorem ty6 : tyI Try.prog 6 = some ⟨false, 1, 1, [(.int .u8 0)]⟩ := by kernel_rfl
theorem ty7 : tyI Try.prog 7 = some ⟨true, 4, 24, [(.int .i64 0), (.int .i64 0), (.bool false), (.int .u8 0)]⟩ := by kernel_rfl
theorem pl7 : placesI Try.prog 7 = some [(0, 1), (1, 1), (2, 1), (3, 1)] := by kernel_rfl
theorem fl7_0 : fldI Try.prog 7 0 = some ⟨0, 1, false⟩ := by kernel_rfl
theorem fl7_1 : fldI Try.prog 7 1 = some ⟨1, 1, false⟩ := by kernel_rfl
theorem fl7_2 : fldI Try.prog 7 2 = some ⟨2, 1, false⟩ := by kernel_rfl
theorem fl7_3 : fldI Try.prog 7 3 = some ⟨3, 1, false⟩ := by kernel_rfl
theorem ty8 : tyI Try.prog 8 = some ⟨true, 4, 24, [(.int .i64 0), (.int .i64 0), (.bool false), (.int .u8 0)]⟩ := by kernel_rfl
theorem pl8 : placesI Try.prog 8 = some [(0, 1), (1, 1), (2, 1), (3, 1)] := by kernel_rfl
theorem fl8_0 : fldI Try.prog 8 0 = some ⟨0, 1, false⟩ := by kernel_rfl
theorem fl8_1 : fldI Try.prog 8 1 = some ⟨1, 1, false⟩ := by kernel_rfl
theorem fl8_2 : fldI Try.prog 8 2 = some ⟨2, 1, false⟩ := by kernel_rfl
theorem fl8_3 : fldI Try.prog 8 3 = some ⟨3, 1, false⟩ := by kernel_rfl
theorem ty9 : tyI Try.prog 9 = some ⟨false, 1, 16, [(.string ⟨#[]⟩)]⟩ := by kernel_rfl
theorem ty10 : tyI Try.prog 10 = some ⟨false, 1, 16, [(.string ⟨#[]⟩)]⟩ := by kernel_rfl
theorem ty11 : tyI Try.prog 11 = some ⟨false, 1, 16, [(.string ⟨#[]⟩)]⟩ := by kernel_rfl
theorem ty12 : tyI Try.prog 12 = some ⟨false, 1, 8, [(.int .u64 0)]⟩ := by kernel_rfl
theorem ty13 : tyI Try.prog 13 = some ⟨true, 2, 24, [(.string ⟨#[]⟩), (.int .u64 0)]⟩ := by kernel_rfl
theorem pl13 : placesI Try.prog 13 = some [(0, 1), (1, 1)] := by kernel_rfl
theorem fl13_0 : fldI Try.prog 13 0 = some ⟨0, 1, false⟩ := by kernel_rfl
theorem fl13_1 : fldI Try.prog 13 1 = some ⟨1, 1, false⟩ := by kernel_rfl
theorem ty14 : tyI Try.prog 14 = some ⟨true, 2, 24, [(.string ⟨#[]⟩), (.int .u64 0)]⟩ := by kernel_rfl
theorem pl14 : placesI Try.prog 14 = some [(0, 1), (1, 1)] := by kernel_rfl
theorem fl14_0 : fldI Try.prog 14 0 = some ⟨0, 1, false⟩ := by kernel_rfl
theorem fl14_1 : fldI Try.prog 14 1 = some ⟨1, 1, false⟩ := by kernel_rfl
theorem ty15 : tyI Try.prog 15 = some ⟨false, 1, 8, [(.pointer none)]⟩ := by kernel_rfl
theorem pt15 : isPtr Try.prog 15 = true := by kernel_rfl
theorem ty16 : tyI Try.prog 16 = some ⟨false, 1, 8, [(.pointer none)]⟩ := by kernel_rfl
theorem pt16 : isPtr Try.prog 16 = true := by kernel_rfl
theorem ty17 : tyI Try.prog 17 = some ⟨false, 1, 8, [(.pointer none)]⟩ := by kernel_rfl
theorem pt17 : isPtr Try.prog 17 = true := by kernel_rfl
theorem ty18 : tyI Try.prog 18 = some ⟨true, 1, 8, [(.pointer none)]⟩ := by kernel_rfl
theorem pl18 : placesI Try.prog 18 = some [(0, 1)] := by kernel_rfl
theorem fl18_0 : fldI Try.prog 18 0 = some ⟨0, 1, false⟩ := by kernel_rfl
theorem ty19 : tyI Try.prog 19 = some ⟨true, 1, 8, [(.pointer none)]⟩ := by kernel_rfl
theorem pl19 : placesI Try.prog 19 = some [(0, 1)] := by kernel_rfl
theorem fl19_0 : fldI Try.prog 19 0 = some ⟨0, 1, false⟩ := by kernel_rfl
theorem ty20 : tyI Try.prog 20 = some ⟨false, 1, 16, [.nilIface]⟩ := by kernel_rfl
theorem ty21 : tyI Try.prog 21 = some ⟨false, 1, 4, [(.int .i32 0)]⟩ := by kernel_rfl
theorem ty22 : tyI Try.prog 22 = some ⟨false, 1, 2, [(.int .u16 0)]⟩ := by kernel_rfl
theorem ty23 : tyI Try.prog 23 = some ⟨false, 1, 8, [.nilFunc]⟩ := by kernel_rfl
theorem ty24 : tyI Try.prog 24 = some ⟨false, 1, 8, [(.pointer none)]⟩ := by kernel_rfl
theorem pt24 : isPtr Try.prog 24 = true := by kernel_rfl
theorem ty25 : tyI Try.prog 25 = some ⟨false, 1, 8, [.nilFunc]⟩ := by kernel_rfl
theorem ty26 : tyI Try.prog 26 = some ⟨false, 1, 8, [.nilFunc]⟩ := by kernel_rfl
theorem ty27 : tyI Try.prog 27 = some ⟨false, 1, 8, [.nilFunc]⟩ := by kernel_rfl
theorem ty28 : tyI Try.prog 28 = some ⟨false, 1, 8, [(.pointer none)]⟩ := by kernel_rfl
theorem pt28 : isPtr Try.prog 28 = true := by kernel_rfl
theorem ty29 : tyI Try.prog 29 = some ⟨true, 2, 16, [(.int .i64 0), (.int .i64 0)]⟩ := by kernel_rfl
theorem pl29 : placesI Try.prog 29 = some [(0, 1), (1, 1)] := by kernel_rfl
theorem fl29_0 : fldI Try.prog 29 0 = some ⟨0, 1, false⟩ := by kernel_rfl
theorem fl29_1 : fldI Try.prog 29 1 = some ⟨1, 1, false⟩ := by kernel_rfl
theorem ty30 : tyI Try.prog 30 = some ⟨true, 2, 16, [(.int .i64 0), (.int .i64 0)]⟩ := by kernel_rfl
theorem pl30 : placesI Try.prog 30 = some [(0, 1), (1, 1)] := by kernel_rfl
theorem fl30_0 : fldI Try.prog 30 0 = some ⟨0, 1, false⟩ := by kernel_rfl
theorem fl30_1 : fldI Try.prog 30 1 = some ⟨1, 1, false⟩ := by kernel_rfl
theorem ty31 : tyI Try.prog 31 = some ⟨false, 1, 8, [.nilFunc]⟩ := by kernel_rfl
theorem ty32 : tyI Try.prog 32 = some ⟨true, 0, 0, []⟩ := by kernel_rfl
theorem pl32 : placesI Try.prog 32 = some [] := by kernel_rfl
theorem ty33 : tyI Try.prog 33 = some ⟨true, 0, 0, []⟩ := by kernel_rfl
theorem pl33 : placesI Try.prog 33 = some [] := by kernel_rfl
theorem ty34 : tyI Try.prog 34 = some ⟨true, 0, 0, []⟩ := by kernel_rfl
theorem pl34 : placesI Try.prog 34 = some [] := by kernel_rfl
theorem ty35 : tyI Try.prog 35 = some ⟨true, 1, 8, [(.int .i64 0)]⟩ := by kernel_rfl
theorem pl35 : placesI Try.prog 35 = some [(0, 0), (0, 0), (0, 1)] := by kernel_rfl
theorem fl35_0 : fldI Try.prog 35 0 = some ⟨0, 0, true⟩ := by kernel_rfl
theorem fl35_1 : fldI Try.prog 35 1 = some ⟨0, 0, true⟩ := by kernel_rfl
theorem fl35_2 : fldI Try.prog 35 2 = some ⟨0, 1, false⟩ := by kernel_rfl
theorem ty36 : tyI Try.prog 36 = some ⟨true, 1, 8, [(.int .i64 0)]⟩ := by kernel_rfl
theorem pl36 : placesI Try.prog 36 = some [(0, 0), (0, 0), (0, 1)] := by kernel_rfl
theorem fl36_0 : fldI Try.prog 36 0 = some ⟨0, 0, true⟩ := by kernel_rfl
theorem fl36_1 : fldI Try.prog 36 1 = some ⟨0, 0, true⟩ := by kernel_rfl
theorem fl36_2 : fldI Try.prog 36 2 = some ⟨0, 1, false⟩ := by kernel_rfl
theorem ty37 : tyI Try.prog 37 = some ⟨true, 2, 16, [(.int .i64 0), (.int .i64 0)]⟩ := by kernel_rfl
theorem pl37 : placesI Try.prog 37 = some [(0, 1), (1, 1)] := by kernel_rfl
theorem fl37_0 : fldI Try.prog 37 0 = some ⟨0, 1, true⟩ := by kernel_rfl
theorem fl37_1 : fldI Try.prog 37 1 = some ⟨1, 1, false⟩ := by kernel_rfl
theorem ty38 : tyI Try.prog 38 = some ⟨true, 2, 16, [(.int .i64 0), (.int .i64 0)]⟩ := by kernel_rfl
theorem pl38 : placesI Try.prog 38 = some [(0, 1), (1, 1)] := by kernel_rfl
theorem fl38_0 : fldI Try.prog 38 0 = some ⟨0, 1, true⟩ := by kernel_rfl
theorem fl38_1 : fldI Try.prog 38 1 = some ⟨1, 1, false⟩ := by kernel_rfl
theorem ty39 : tyI Try.prog 39 = some ⟨false, 1, 8, [.nilFunc]⟩ := by kernel_rfl
theorem ty40 : tyI Try.prog 40 = some ⟨false, 1, 24, [(.slice none 0 0)]⟩ := by kernel_rfl
theorem sl40 : sliceE Try.prog 40 = some 46 := by kernel_rfl
theorem ty41 : tyI Try.prog 41 = some ⟨false, 1, 24, [(.slice none 0 0)]⟩ := by kernel_rfl
theorem sl41 : sliceE Try.prog 41 = some 44 := by kernel_rfl
theorem ty42 : tyI Try.prog 42 = some ⟨false, 1, 8, [.nilFunc]⟩ := by kernel_rfl
theorem ty43 : tyI Try.prog 43 = some ⟨true, 3, 24, [(.int .i64 0), (.int .i64 0), (.bool false)]⟩ := by kernel_rfl
theorem pl43 : placesI Try.prog 43 = some [(0, 1), (1, 1), (2, 1)] := by kernel_rfl
theorem fl43_0 : fldI Try.prog 43 0 = some ⟨0, 1, false⟩ := by kernel_rfl
theorem fl43_1 : fldI Try.prog 43 1 = some ⟨1, 1, false⟩ := by kernel_rfl
theorem fl43_2 : fldI Try.prog 43 2 = some ⟨2, 1, false⟩ := by kernel_rfl
theorem ty44 : tyI Try.prog 44 = some ⟨true, 3, 24, [(.int .i64 0), (.int .i64 0), (.bool false)]⟩ := by kernel_rfl
theorem pl44 : placesI Try.prog 44 = some [(0, 1), (1, 1), (2, 1)] := by kernel_rfl
theorem fl44_0 : fldI Try.prog 44 0 = some ⟨0, 1, false⟩ := by kernel_rfl
theorem fl44_1 : fldI Try.prog 44 1 = some ⟨1, 1, false⟩ := by kernel_rfl
theorem fl44_2 : fldI Try.prog 44 2 = some ⟨2, 1, false⟩ := by kernel_rfl
theorem ty45 : tyI Try.prog 45 = some ⟨true, 5, 32, [(.int .i64 0), (.int .i64 0), (.int .i64 0), (.bool false), (.bool false)]⟩ := by kernel_rfl
theorem pl45 : placesI Try.prog 45 = some [(0, 1), (1, 1), (2, 1), (3, 1), (4, 1)] := by kernel_rfl
theorem fl45_0 : fldI Try.prog 45 0 = some ⟨0, 1, false⟩ := by kernel_rfl
theorem fl45_1 : fldI Try.prog 45 1 = some ⟨1, 1, false⟩ := by kernel_rfl
theorem fl45_2 : fldI Try.prog 45 2 = some ⟨2, 1, false⟩ := by kernel_rfl
theorem fl45_3 : fldI Try.prog 45 3 = some ⟨3, 1, false⟩ := by kernel_rfl
theorem fl45_4 : fldI Try.prog 45 4 = some ⟨4, 1, false⟩ := by kernel_rfl
theorem ty46 : tyI Try.prog 46 = some ⟨true, 5, 32, [(.int .i64 0), (.int .i64 0), (.int .i64 0), (.bool false), (.bool false)]⟩ := by kernel_rfl
theorem pl46 : placesI Try.prog 46 = some [(0, 1), (1, 1), (2, 1), (3, 1), (4, 1)] := by kernel_rfl
theorem fl46_0 : fldI Try.prog 46 0 = some ⟨0, 1, false⟩ := by kernel_rfl
theorem fl46_1 : fldI Try.prog 46 1 = some ⟨1, 1, false⟩ := by kernel_rfl
theorem fl46_2 : fldI Try.prog 46 2 = some ⟨2, 1, false⟩ := by kernel_rfl
theorem fl46_3 : fldI Try.prog 46 3 = some ⟨3, 1, false⟩ := by kernel_rfl
theorem fl46_4 : fldI Try.prog 46 4 = some ⟨4, 1, false⟩ := by kernel_rfl
theorem ty47 : tyI Try.prog 47 = some ⟨false, 1, 8, [.nilFunc]⟩ := by kernel_rfl
theorem ty48 : tyI Try.prog 48 = some ⟨false, 1, 8, [.nilFunc]⟩ := by kernel_rfl
theorem ty49 : tyI Try.prog 49 = some ⟨false, 1, 8, [.nilFunc]⟩ := by kernel_rfl
theorem ty50 : tyI Try.prog 50 = some ⟨false, 1, 8, [.nilFunc]⟩ := by kernel_rfl
theorem ty51 : tyI Try.prog 51 = some ⟨false, 1, 8, [.nilFunc]⟩ := by kernel_rfl
theorem ty52 : tyI Try.prog 52 = some ⟨false, 1, 8, [.nilFunc]⟩ := by kernel_rfl
theorem ty53 : tyI Try.prog 53 = some ⟨false, 1, 8, [.nilFunc]⟩ := by kernel_rfl
theorem ty54 : tyI Try.prog 54 = some ⟨false, 1, 8, [.nilFunc]⟩ := by kernel_rfl
theorem ty55 : tyI Try.prog 55 = some ⟨true, 3, 3, [(.bool false), (.bool false), (.bool false)]⟩ := by kernel_rfl
theorem ty56 : tyI Try.prog 56 = some ⟨false, 1, 24, [(.slice none 0 0)]⟩ := by kernel_rfl
theorem sl56 : sliceE Try.prog 56 = some 5 := by kernel_rfl
theorem ty57 : tyI Try.prog 57 = some ⟨false, 1, 8, [(.pointer none)]⟩ := by kernel_rfl
theorem pt57 : isPtr Try.prog 57 = true := by kernel_rfl
theorem ty58 : tyI Try.prog 58 = some ⟨false, 1, 8, [(.int .i64 0)]⟩ := by kernel_rfl
theorem ty60 : tyI Try.prog 60 = some ⟨false, 1, 8, [.nilFunc]⟩ := by kernel_rfl
theorem ty61 : tyI Try.prog 61 = some ⟨false, 1, 8, [(.pointer none)]⟩ := by kernel_rfl
theorem pt61 : isPtr Try.prog 61 = true := by kernel_rfl
theorem ty63 : tyI Try.prog 63 = some ⟨false, 1, 8, [.nilFunc]⟩ := by kernel_rfl
theorem ty64 : tyI Try.prog 64 = some ⟨true, 8, 8, [(.bool false), (.bool false), (.bool false), (.bool false), (.bool false), (.bool false), (.bool false), (.bool false)]⟩ := by kernel_rfl
theorem pl64 : placesI Try.prog 64 = some [(0, 1), (1, 1), (2, 1), (3, 1), (4, 1), (5, 1), (6, 1), (7, 1)] := by kernel_rfl
theorem fl64_0 : fldI Try.prog 64 0 = some ⟨0, 1, false⟩ := by kernel_rfl
theorem fl64_1 : fldI Try.prog 64 1 = some ⟨1, 1, false⟩ := by kernel_rfl
theorem fl64_2 : fldI Try.prog 64 2 = some ⟨2, 1, false⟩ := by kernel_rfl
theorem fl64_3 : fldI Try.prog 64 3 = some ⟨3, 1, false⟩ := by kernel_rfl
theorem fl64_4 : fldI Try.prog 64 4 = some ⟨4, 1, false⟩ := by kernel_rfl
theorem fl64_5 : fldI Try.prog 64 5 = some ⟨5, 1, false⟩ := by kernel_rfl
theorem fl64_6 : fldI Try.prog 64 6 = some ⟨6, 1, false⟩ := by kernel_rfl
theorem fl64_7 : fldI Try.prog 64 7 = some ⟨7, 1, false⟩ := by kernel_rfl
theorem ty65 : tyI Try.prog 65 = some ⟨true, 8, 8, [(.bool false), (.bool false), (.bool false), (.bool false), (.bool false), (.bool false), (.bool false), (.bool false)]⟩ := by kernel_rfl
theorem pl65 : placesI Try.prog 65 = some [(0, 1), (1, 1), (2, 1), (3, 1), (4, 1), (5, 1), (6, 1), (7, 1)] := by kernel_rfl
theorem fl65_0 : fldI Try.prog 65 0 = some ⟨0, 1, false⟩ := by kernel_rfl
theorem fl65_1 : fldI Try.prog 65 1 = some ⟨1, 1, false⟩ := by kernel_rfl
theorem fl65_2 : fldI Try.prog 65 2 = some ⟨2, 1, false⟩ := by kernel_rfl
theorem fl65_3 : fldI Try.prog 65 3 = some ⟨3, 1, false⟩ := by kernel_rfl
theorem fl65_4 : fldI Try.prog 65 4 = some ⟨4, 1, false⟩ := by kernel_rfl
theorem fl65_5 : fldI Try.prog 65 5 = some ⟨5, 1, false⟩ := by kernel_rfl
theorem fl65_6 : fldI Try.prog 65 6 = some ⟨6, 1, false⟩ := by kernel_rfl
theorem fl65_7 : fldI Try.prog 65 7 = some ⟨7, 1, false⟩ := by kernel_rfl
theorem ty66 : tyI Try.prog 66 = some ⟨true, 14, 80, [(.string ⟨#[]⟩), (.int .i64 0), (.int .i64 0), (.int .i64 0), (.int .i64 0), (.slice none 0 0), (.bool false), (.bool false), (.bool false), (.bool false), (.bool false), (.bool false), (.bool false), (.bool false)]⟩ := by kernel_rfl
theorem pl66 : placesI Try.prog 66 = some [(0, 1), (1, 1), (2, 1), (3, 1), (4, 1), (5, 1), (6, 8)] := by kernel_rfl
theorem fl66_0 : fldI Try.prog 66 0 = some ⟨0, 1, false⟩ := by kernel_rfl
theorem fl66_1 : fldI Try.prog 66 1 = some ⟨1, 1, false⟩ := by kernel_rfl
theorem fl66_2 : fldI Try.prog 66 2 = some ⟨2, 1, false⟩ := by kernel_rfl
theorem fl66_3 : fldI Try.prog 66 3 = some ⟨3, 1, false⟩ := by kernel_rfl
theorem fl66_4 : fldI Try.prog 66 4 = some ⟨4, 1, false⟩ := by kernel_rfl
theorem fl66_5 : fldI Try.prog 66 5 = some ⟨5, 1, false⟩ := by kernel_rfl
theorem fl66_6 : fldI Try.prog 66 6 = some ⟨6, 8, true⟩ := by kernel_rfl
theorem ty67 : tyI Try.prog 67 = some ⟨true, 14, 80, [(.string ⟨#[]⟩), (.int .i64 0), (.int .i64 0), (.int .i64 0), (.int .i64 0), (.slice none 0 0), (.bool false), (.bool false), (.bool false), (.bool false), (.bool false), (.bool false), (.bool false), (.bool false)]⟩ := by kernel_rfl
theorem pl67 : placesI Try.prog 67 = some [(0, 1), (1, 1), (2, 1), (3, 1), (4, 1), (5, 1), (6, 8)] := by kernel_rfl
theorem fl67_0 : fldI Try.prog 67 0 = some ⟨0, 1, false⟩ := by kernel_rfl
theorem fl67_1 : fldI Try.prog 67 1 = some ⟨1, 1, false⟩ := by kernel_rfl
theorem fl67_2 : fldI Try.prog 67 2 = some ⟨2, 1, false⟩ := by kernel_rfl
theorem fl67_3 : fldI Try.prog 67 3 = some ⟨3, 1, false⟩ := by kernel_rfl
theorem fl67_4 : fldI Try.prog 67 4 = some ⟨4, 1, false⟩ := by kernel_rfl
theorem fl67_5 : fldI Try.prog 67 5 = some ⟨5, 1, false⟩ := by kernel_rfl
theorem fl67_6 : fldI Try.prog 67 6 = some ⟨6, 8, true⟩ := by kernel_rfl
theorem ty68 : tyI Try.prog 68 = some ⟨true, 14, 80, [(.string ⟨#[]⟩), (.int .i64 0), (.int .i64 0), (.int .i64 0), (.int .i64 0), (.slice none 0 0), (.bool false), (.bool false), (.bool false), (.bool false), (.bool false), (.bool false), (.bool false), (.bool false)]⟩ := by kernel_rfl
theorem pl68 : placesI Try.prog 68 = some [(0, 1), (1, 1), (2, 1), (3, 1), (4, 1), (5, 1), (6, 8)] := by kernel_rfl
theorem fl68_0 : fldI Try.prog 68 0 = some ⟨0, 1, false⟩ := by kernel_rfl
theorem fl68_1 : fldI Try.prog 68 1 = some ⟨1, 1, false⟩ := by kernel_rfl
theorem fl68_2 : fldI Try.prog 68 2 = some ⟨2, 1, false⟩ := by kernel_rfl
theorem fl68_3 : fldI Try.prog 68 3 = some ⟨3, 1, false⟩ := by kernel_rfl
theorem fl68_4 : fldI Try.prog 68 4 = some ⟨4, 1, false⟩ := by kernel_rfl
theorem fl68_5 : fldI Try.prog 68 5 = some ⟨5, 1, false⟩ := by kernel_rfl
theorem fl68_6 : fldI Try.prog 68 6 = some ⟨6, 8, true⟩ := by kernel_rfl
theorem ty69 : tyI Try.prog 69 = some ⟨false, 1, 8, [.nilFunc]⟩ := by kernel_rfl
theorem ty70 : tyI Try.prog 70 = some ⟨false, 1, 8, [.nilFunc]⟩ := by kernel_rfl
theorem ty71 : tyI Try.prog 71 = some ⟨false, 1, 8, [.nilFunc]⟩ := by kernel_rfl
theorem ty72 : tyI Try.prog 72 = some ⟨false, 1, 24, [(.slice none 0 0)]⟩ := by kernel_rfl
theorem sl72 : sliceE Try.prog 72 = some 3 := by kernel_rfl
theorem ty73 : tyI Try.prog 73 = some ⟨false, 1, 8, [.nilFunc]⟩ := by kernel_rfl
theorem ty74 : tyI Try.prog 74 = some ⟨false, 1, 8, [.nilFunc]⟩ := by kernel_rfl
theorem ty75 : tyI Try.prog 75 = some ⟨false, 1, 8, [.nilFunc]⟩ := by kernel_rfl
theorem ty76 : tyI Try.prog 76 = some ⟨false, 1, 8, [.nilFunc]⟩ := by kernel_rfl
theorem ty77 : tyI Try.prog 77 = some ⟨false, 1, 8, [.nilFunc]⟩ := by kernel_rfl
theorem ty78 : tyI Try.prog 78 = some ⟨false, 1, 8, [.nilFunc]⟩ := by kernel_rfl
theorem ty79 : tyI Try.prog 79 = some ⟨false, 1, 8, [.nilFunc]⟩ := by kernel_rfl
theorem ty80 : tyI Try.prog 80 = some ⟨false, 1, 8, [.nilFunc]⟩ := by kernel_rfl
theorem ty81 : tyI Try.prog 81 = some ⟨false, 1, 8, [.nilFunc]⟩ := by kernel_rfl
theorem ty82 : tyI Try.prog 82 = some ⟨false, 1, 8, [.nilFunc]⟩ := by kernel_rfl
theorem ty83 : tyI Try.prog 83 = some ⟨false, 1, 8, [.nilFunc]⟩ := by kernel_rfl
theorem ty84 : tyI Try.prog 84 = some ⟨false, 1, 8, [.nilFunc]⟩ := by kernel_rfl
theorem ty85 : tyI Try.prog 85 = some ⟨false, 1, 8, [.nilFunc]⟩ := by kernel_rfl
theorem ty86 : tyI Try.prog 86 = some ⟨false, 1, 8, [(.pointer none)]⟩ := by kernel_rfl
theorem pt86 : isPtr Try.prog 86 = true := by kernel_rfl
theorem ty87 : tyI Try.prog 87 = some ⟨false, 1, 8, [.nilFunc]⟩ := by kernel_rfl
theorem ty88 : tyI Try.prog 88 = some ⟨false, 1, 8, [.nilFunc]⟩ := by kernel_rfl
theorem ty90 : tyI Try.prog 90 = some ⟨false, 1, 8, [.nilFunc]⟩ := by kernel_rfl
theorem ty91 : tyI Try.prog 91 = some ⟨false, 1, 8, [.nilFunc]⟩ := by kernel_rfl
theorem ty92 : tyI Try.prog 92 = some ⟨false, 1, 8, [.nilFunc]⟩ := by kernel_rfl
theorem ty93 : tyI Try.prog 93 = some ⟨false, 1, 8, [.nilFunc]⟩ := by kernel_rfl
theorem ty94 : tyI Try.prog 94 = some ⟨false, 1, 8, [.nilFunc]⟩ := by kernel_rfl
theorem ty95 : tyI Try.prog 95 = some ⟨false, 1, 8, [.nilFunc]⟩ := by kernel_rfl
theorem ty96 : tyI Try.prog 96 = some ⟨false, 1, 24, [(.slice none 0 0)]⟩ := by kernel_rfl
theorem sl96 : sliceE Try.prog 96 = some 4 := by kernel_rfl
theorem ty97 : tyI Try.prog 97 = some ⟨false, 1, 8, [(.pointer none)]⟩ := by kernel_rfl
theorem pt97 : isPtr Try.prog 97 = true := by kernel_rfl
theorem ty98 : tyI Try.prog 98 = some ⟨false, 1, 8, [.nilFunc]⟩ := by kernel_rfl
theorem ty99 : tyI Try.prog 99 = some ⟨false, 1, 8, [(.pointer none)]⟩ := by kernel_rfl
theorem pt99 : isPtr Try.prog 99 = true := by kernel_rfl
theorem ty100 : tyI Try.prog 100 = some ⟨false, 1, 8, [.nilFunc]⟩ := by kernel_rfl
theorem ty101 : tyI Try.prog 101 = some ⟨false, 1, 8, [.nilFunc]⟩ := by kernel_rfl
theorem ty102 : tyI Try.prog 102 = some ⟨false, 1, 8, [.nilFunc]⟩ := by kernel_rfl
theorem ty103 : tyI Try.prog 103 = some ⟨true, 4, 40, [(.pointer none), (.pointer none), (.pointer none), (.string ⟨#[]⟩)]⟩ := by kernel_rfl
theorem pl103 : placesI Try.prog 103 = some [(0, 1), (1, 1), (2, 1), (3, 1)] := by kernel_rfl
theorem fl103_0 : fldI Try.prog 103 0 = some ⟨0, 1, false⟩ := by kernel_rfl
theorem fl103_1 : fldI Try.prog 103 1 = some ⟨1, 1, false⟩ := by kernel_rfl
theorem fl103_2 : fldI Try.prog 103 2 = some ⟨2, 1, false⟩ := by kernel_rfl
theorem fl103_3 : fldI Try.prog 103 3 = some ⟨3, 1, false⟩ := by kernel_rfl
theorem ty104 : tyI Try.prog 104 = some ⟨true, 4, 40, [(.pointer none), (.pointer none), (.pointer none), (.string ⟨#[]⟩)]⟩ := by kernel_rfl
theorem pl104 : placesI Try.prog 104 = some [(0, 1), (1, 1), (2, 1), (3, 1)] := by kernel_rfl
theorem fl104_0 : fldI Try.prog 104 0 = some ⟨0, 1, false⟩ := by kernel_rfl
theorem fl104_1 : fldI Try.prog 104 1 = some ⟨1, 1, false⟩ := by kernel_rfl
theorem fl104_2 : fldI Try.prog 104 2 = some ⟨2, 1, false⟩ := by kernel_rfl
theorem fl104_3 : fldI Try.prog 104 3 = some ⟨3, 1, false⟩ := by kernel_rfl
theorem ty105 : tyI Try.prog 105 = some ⟨true, 0, 0, []⟩ := by kernel_rfl
theorem ty106 : tyI Try.prog 106 = some ⟨true, 0, 0, []⟩ := by kernel_rfl
theorem pl106 : placesI Try.prog 106 = some [(0, 0)] := by kernel_rfl
theorem fl106_0 : fldI Try.prog 106 0 = some ⟨0, 0, true⟩ := by kernel_rfl
theorem ty107 : tyI Try.prog 107 = some ⟨true, 0, 0, []⟩ := by kernel_rfl
theorem pl107 : placesI Try.prog 107 = some [(0, 0)] := by kernel_rfl
theorem fl107_0 : fldI Try.prog 107 0 = some ⟨0, 0, true⟩ := by kernel_rfl
theorem ty108 : tyI Try.prog 108 = some ⟨false, 1, 4, [(.int .u32 0)]⟩ := by kernel_rfl
theorem ty109 : tyI Try.prog 109 = some ⟨false, 1, 1, [(.int .u8 0)]⟩ := by kernel_rfl
theorem ty110 : tyI Try.prog 110 = some ⟨false, 1, 1, [(.int .u8 0)]⟩ := by kernel_rfl
theorem ty111 : tyI Try.prog 111 = some ⟨false, 1, 8, [.nilFunc]⟩ := by kernel_rfl
theorem ty112 : tyI Try.prog 112 = some ⟨false, 1, 8, [(.pointer none)]⟩ := by kernel_rfl
theorem pt112 : isPtr Try.prog 112 = true := by kernel_rfl
theorem ty113 : tyI Try.prog 113 = some ⟨false, 1, 4, [(.int .i32 0)]⟩ := by kernel_rfl
theorem ty114 : tyI Try.prog 114 = some ⟨false, 1, 4, [(.int .i32 0)]⟩ := by kernel_rfl
theorem ty115 : tyI Try.prog 115 = some ⟨true, 11, 48, [(.int .u64 0), (.int .u64 0), (.int .u32 0), (.int .u8 0), (.int .u8 0), (.int .u8 0), (.int .u8 0), .nilFunc, (.pointer none), (.int .i32 0), (.int .i32 0)]⟩ := by kernel_rfl
theorem pl115 : placesI Try.prog 115 = some [(0, 1), (1, 1), (2, 1), (3, 1), (4, 1), (5, 1), (6, 1), (7, 1), (8, 1), (9, 1), (10, 1)] := by kernel_rfl
theorem fl115_0 : fldI Try.prog 115 0 = some ⟨0, 1, false⟩ := by kernel_rfl
theorem fl115_1 : fldI Try.prog 115 1 = some ⟨1, 1, false⟩ := by kernel_rfl
theorem fl115_2 : fldI Try.prog 115 2 = some ⟨2, 1, false⟩ := by kernel_rfl
theorem fl115_3 : fldI Try.prog 115 3 = some ⟨3, 1, false⟩ := by kernel_rfl
theorem fl115_4 : fldI Try.prog 115 4 = some ⟨4, 1, false⟩ := by kernel_rfl
theorem fl115_5 : fldI Try.prog 115 5 = some ⟨5, 1, false⟩ := by kernel_rfl
theorem fl115_6 : fldI Try.prog 115 6 = some ⟨6, 1, false⟩ := by kernel_rfl
theorem fl115_7 : fldI Try.prog 115 7 = some ⟨7, 1, false⟩ := by kernel_rfl
theorem fl115_8 : fldI Try.prog 115 8 = some ⟨8, 1, false⟩ := by kernel_rfl
theorem fl115_9 : fldI Try.prog 115 9 = some ⟨9, 1, false⟩ := by kernel_rfl
theorem fl115_10 : fldI Try.prog 115 10 = some ⟨10, 1, false⟩ := by kernel_rfl
theorem ty116 : tyI Try.prog 116 = some ⟨true, 11, 48, [(.int .u64 0), (.int .u64 0), (.int .u32 0), (.int .u8 0), (.int .u8 0), (.int .u8 0), (.int .u8 0), .nilFunc, (.pointer none), (.int .i32 0), (.int .i32 0)]⟩ := by kernel_rfl
theorem pl116 : placesI Try.prog 116 = some [(0, 1), (1, 1), (2, 1), (3, 1), (4, 1), (5, 1), (6, 1), (7, 1), (8, 1), (9, 1), (10, 1)] := by kernel_rfl
theorem fl116_0 : fldI Try.prog 116 0 = some ⟨0, 1, false⟩ := by kernel_rfl
theorem fl116_1 : fldI Try.prog 116 1 = some ⟨1, 1, false⟩ := by kernel_rfl
theorem fl116_2 : fldI Try.prog 116 2 = some ⟨2, 1, false⟩ := by kernel_rfl
theorem fl116_3 : fldI Try.prog 116 3 = some ⟨3, 1, false⟩ := by kernel_rfl
theorem fl116_4 : fldI Try.prog 116 4 = some ⟨4, 1, false⟩ := by kernel_rfl
theorem fl116_5 : fldI Try.prog 116 5 = some ⟨5, 1, false⟩ := by kernel_rfl
theorem fl116_6 : fldI Try.prog 116 6 = some ⟨6, 1, false⟩ := by kernel_rfl
theorem fl116_7 : fldI Try.prog 116 7 = some ⟨7, 1, false⟩ := by kernel_rfl
theorem fl116_8 : fldI Try.prog 116 8 = some ⟨8, 1, false⟩ := by kernel_rfl
theorem fl116_9 : fldI Try.prog 116 9 = some ⟨9, 1, false⟩ := by kernel_rfl
theorem fl116_10 : fldI Try.prog 116 10 = some ⟨10, 1, false⟩ := by kernel_rfl
theorem ty117 : tyI Try.prog 117 = some ⟨false, 1, 8, [(.pointer none)]⟩ := by kernel_rfl
inductive Tr (α : Type) where
  | nil
  | node (k : Nat) (v : α) (l r : Tr α)
def lookT {α : Type} : Tr α → Nat → Option α
  | .nil, _ => none
  | .node k v l r, n => bif Nat.beq k n then some v else bif Nat.blt n k then lookT l n else lookT r n
def Tr.All {α : Type} (p : Nat → α → Prop) : Tr α → Prop
  | .nil => True
  | .node k v l r => p k v ∧ l.All p ∧ r.All p
theorem Tr.All.look {α : Type} {p : Nat → α → Prop} : ∀ {t : Tr α} {n : Nat} {x : α}, t.All p → lookT t n = some x → p n x
  | .nil, n, x, _, h => by cases h
  | .node k v l r, n, x, ha, h => by
    simp only [lookT] at h
    cases hb : Nat.beq k n with
    | true =>
      rw [hb] at h
      cases h
      have := Nat.eq_of_beq_eq_true hb
      subst this
      exact ha.1
    | false =>
      rw [hb, cond_false] at h
      cases hc : Nat.blt n k with
      | true => rw [hc, cond_true] at h; exact Tr.All.look ha.2.1 h
      | false => rw [hc, cond_false] at h; exact Tr.All.look ha.2.2 h
def tyTab : Tr (TyI) := (.node 58 ⟨false, 1, 8, [(.int .i64 0)]⟩ (.node 30 ⟨true, 2, 16, [(.int .i64 0), (.int .i64 0)]⟩ (.node 15 ⟨false, 1, 8, [(.pointer none)]⟩ (.node 8 ⟨true, 4, 24, [(.int .i64 0), (.int .i64 0), (.bool false), (.int .u8 0)]⟩ (.node 4 ⟨false, 1, 1, [(.bool false)]⟩ (.node 2 ⟨false, 1, 8, [(.int .i64 0)]⟩ (.node 1 ⟨false, 1, 8, [.nilFunc]⟩ .nil .nil) (.node 3 ⟨false, 1, 8, [(.int .i64 0)]⟩ .nil .nil)) (.node 6 ⟨false, 1, 1, [(.int .u8 0)]⟩ (.node 5 ⟨false, 1, 1, [(.int .u8 0)]⟩ .nil .nil) (.node 7 ⟨true, 4, 24, [(.int .i64 0), (.int .i64 0), (.bool false), (.int .u8 0)]⟩ .nil .nil))) (.node 12 ⟨false, 1, 8, [(.int .u64 0)]⟩ (.node 10 ⟨false, 1, 16, [(.string ⟨#[]⟩)]⟩ (.node 9 ⟨false, 1, 16, [(.string ⟨#[]⟩)]⟩ .nil .nil) (.node 11 ⟨false, 1, 16, [(.string ⟨#[]⟩)]⟩ .nil .nil)) (.node 14 ⟨true, 2, 24, [(.string ⟨#[]⟩), (.int .u64 0)]⟩ (.node 13 ⟨true, 2, 24, [(.string ⟨#[]⟩), (.int .u64 0)]⟩ .nil .nil) .nil))) (.node 23 ⟨false, 1, 8, [.nilFunc]⟩ (.node 19 ⟨true, 1, 8, [(.pointer none)]⟩ (.node 17 ⟨false, 1, 8, [(.pointer none)]⟩ (.node 16 ⟨false, 1, 8, [(.pointer none)]⟩ .nil .nil) (.node 18 ⟨true, 1, 8, [(.pointer none)]⟩ .nil .nil)) (.node 22 ⟨false, 1, 2, [(.int .u16 0)]⟩ (.node 21 ⟨false, 1, 4, [(.int .i32 0)]⟩ .nil .nil) .nil)) (.node 27 ⟨false, 1, 8, [.nilFunc]⟩ (.node 25 ⟨false, 1, 8, [.nilFunc]⟩ (.node 24 ⟨false, 1, 8, [(.pointer none)]⟩ .nil .nil) (.node 26 ⟨false, 1, 8, [.nilFunc]⟩ .nil .nil)) (.node 29 ⟨true, 2, 16, [(.int .i64 0), (.int .i64 0)]⟩ (.node 28 ⟨false, 1, 8, [(.pointer none)]⟩ .nil .nil) .nil)))) (.node 44 ⟨true, 3, 24, [(.int .i64 0), (.int .i64 0), (.bool false)]⟩ (.node 37 ⟨true, 2, 16, [(.int .i64 0), (.int .i64 0)]⟩ (.node 34 ⟨true, 0, 0, []⟩ (.node 32 ⟨true, 0, 0, []⟩ (.node 31 ⟨false, 1, 8, [.nilFunc]⟩ .nil .nil) (.node 33 ⟨true, 0, 0, []⟩ .nil .nil)) (.node 36 ⟨true, 1, 8, [(.int .i64 0)]⟩ (.node 35 ⟨true, 1, 8, [(.int .i64 0)]⟩ .nil .nil) .nil)) (.node 41 ⟨false, 1, 24, [(.slice none 0 0)]⟩ (.node 39 ⟨false, 1, 8, [.nilFunc]⟩ (.node 38 ⟨true, 2, 16, [(.int .i64 0), (.int .i64 0)]⟩ .nil .nil) (.node 40 ⟨false, 1, 24, [(.slice none 0 0)]⟩ .nil .nil)) (.node 43 ⟨true, 3, 24, [(.int .i64 0), (.int .i64 0), (.bool false)]⟩ (.node 42 ⟨false, 1, 8, [.nilFunc]⟩ .nil .nil) .nil))) (.node 51 ⟨false, 1, 8, [.nilFunc]⟩ (.node 48 ⟨false, 1, 8, [.nilFunc]⟩ (.node 46 ⟨true, 5, 32, [(.int .i64 0), (.int .i64 0), (.int .i64 0), (.bool false), (.bool false)]⟩ (.node 45 ⟨true, 5, 32, [(.int .i64 0), (.int .i64 0), (.int .i64 0), (.bool false), (.bool false)]⟩ .nil .nil) (.node 47 ⟨false, 1, 8, [.nilFunc]⟩ .nil .nil)) (.node 50 ⟨false, 1, 8, [.nilFunc]⟩ (.node 49 ⟨false, 1, 8, [.nilFunc]⟩ .nil .nil) .nil)) (.node 55 ⟨true, 3, 3, [(.bool false), (.bool false), (.bool false)]⟩ (.node 53 ⟨false, 1, 8, [.nilFunc]⟩ (.node 52 ⟨false, 1, 8, [.nilFunc]⟩ .nil .nil) (.node 54 ⟨false, 1, 8, [.nilFunc]⟩ .nil .nil)) (.node 57 ⟨false, 1, 8, [(.pointer none)]⟩ (.node 56 ⟨false, 1, 24, [(.slice none 0 0)]⟩ .nil .nil) .nil))))) (.node 90 ⟨false, 1, 8, [.nilFunc]⟩ (.node 75 ⟨false, 1, 8, [.nilFunc]⟩ (.node 68 ⟨true, 14, 80, [(.string ⟨#[]⟩), (.int .i64 0), (.int .i64 0), (.int .i64 0), (.int .i64 0), (.slice none 0 0), (.bool false), (.bool false), (.bool false), (.bool false), (.bool false), (.bool false), (.bool false), (.bool false)]⟩ (.node 64 ⟨true, 8, 8, [(.bool false), (.bool false), (.bool false), (.bool false), (.bool false), (.bool false), (.bool false), (.bool false)]⟩ (.node 61 ⟨false, 1, 8, [(.pointer none)]⟩ (.node 60 ⟨false, 1, 8, [.nilFunc]⟩ .nil .nil) (.node 63 ⟨false, 1, 8, [.nilFunc]⟩ .nil .nil)) (.node 66 ⟨true, 14, 80, [(.string ⟨#[]⟩), (.int .i64 0), (.int .i64 0), (.int .i64 0), (.int .i64 0), (.slice none 0 0), (.bool false), (.bool false), (.bool false), (.bool false), (.bool false), (.bool false), (.bool false), (.bool false)]⟩ (.node 65 ⟨true, 8, 8, [(.bool false), (.bool false), (.bool false), (.bool false), (.bool false), (.bool false), (.bool false), (.bool false)]⟩ .nil .nil) (.node 67 ⟨true, 14, 80, [(.string ⟨#[]⟩), (.int .i64 0), (.int .i64 0), (.int .i64 0), (.int .i64 0), (.slice none 0 0), (.bool false), (.bool false), (.bool false), (.bool false), (.bool false), (.bool false), (.bool false), (.bool false)]⟩ .nil .nil))) (.node 72 ⟨false, 1, 24, [(.slice none 0 0)]⟩ (.node 70 ⟨false, 1, 8, [.nilFunc]⟩ (.node 69 ⟨false, 1, 8, [.nilFunc]⟩ .nil .nil) (.node 71 ⟨false, 1, 8, [.nilFunc]⟩ .nil .nil)) (.node 74 ⟨false, 1, 8, [.nilFunc]⟩ (.node 73 ⟨false, 1, 8, [.nilFunc]⟩ .nil .nil) .nil))) (.node 82 ⟨false, 1, 8, [.nilFunc]⟩ (.node 79 ⟨false, 1, 8, [.nilFunc]⟩ (.node 77 ⟨false, 1, 8, [.nilFunc]⟩ (.node 76 ⟨false, 1, 8, [.nilFunc]⟩ .nil .nil) (.node 78 ⟨false, 1, 8, [.nilFunc]⟩ .nil .nil)) (.node 81 ⟨false, 1, 8, [.nilFunc]⟩ (.node 80 ⟨false, 1, 8, [.nilFunc]⟩ .nil .nil) .nil)) (.node 86 ⟨false, 1, 8, [(.pointer none)]⟩ (.node 84 ⟨false, 1, 8, [.nilFunc]⟩ (.node 83 ⟨false, 1, 8, [.nilFunc]⟩ .nil .nil) (.node 85 ⟨false, 1, 8, [.nilFunc]⟩ .nil .nil)) (.node 88 ⟨false, 1, 8, [.nilFunc]⟩ (.node 87 ⟨false, 1, 8, [.nilFunc]⟩ .nil .nil) .nil)))) (.node 104 ⟨true, 4, 40, [(.pointer none), (.pointer none), (.pointer none), (.string ⟨#[]⟩)]⟩ (.node 97 ⟨false, 1, 8, [(.pointer none)]⟩ (.node 94 ⟨false, 1, 8, [.nilFunc]⟩ (.node 92 ⟨false, 1, 8, [.nilFunc]⟩ (.node 91 ⟨false, 1, 8, [.nilFunc]⟩ .nil .nil) (.node 93 ⟨false, 1, 8, [.nilFunc]⟩ .nil .nil)) (.node 96 ⟨false, 1, 24, [(.slice none 0 0)]⟩ (.node 95 ⟨false, 1, 8, [.nilFunc]⟩ .nil .nil) .nil)) (.node 101 ⟨false, 1, 8, [.nilFunc]⟩ (.node 99 ⟨false, 1, 8, [(.pointer none)]⟩ (.node 98 ⟨false, 1, 8, [.nilFunc]⟩ .nil .nil) (.node 100 ⟨false, 1, 8, [.nilFunc]⟩ .nil .nil)) (.node 103 ⟨true, 4, 40, [(.pointer none), (.pointer none), (.pointer none), (.string ⟨#[]⟩)]⟩ (.node 102 ⟨false, 1, 8, [.nilFunc]⟩ .nil .nil) .nil))) (.node 111 ⟨false, 1, 8, [.nilFunc]⟩ (.node 108 ⟨false, 1, 4, [(.int .u32 0)]⟩ (.node 106 ⟨true, 0, 0, []⟩ (.node 105 ⟨true, 0, 0, []⟩ .nil .nil) (.node 107 ⟨true, 0, 0, []⟩ .nil .nil)) (.node 110 ⟨false, 1, 1, [(.int .u8 0)]⟩ (.node 109 ⟨false, 1, 1, [(.int .u8 0)]⟩ .nil .nil) .nil)) (.node 115 ⟨true, 11, 48, [(.int .u64 0), (.int .u64 0), (.int .u32 0), (.int .u8 0), (.int .u8 0), (.int .u8 0), (.int .u8 0), .nilFunc, (.pointer none), (.int .i32 0), (.int .i32 0)]⟩ (.node 113 ⟨false, 1, 4, [(.int .i32 0)]⟩ (.node 112 ⟨false, 1, 8, [(.pointer none)]⟩ .nil .nil) (.node 114 ⟨false, 1, 4, [(.int .i32 0)]⟩ .nil .nil)) (.node 117 ⟨false, 1, 8, [(.pointer none)]⟩ (.node 116 ⟨true, 11, 48, [(.int .u64 0), (.int .u64 0), (.int .u32 0), (.int .u8 0), (.int .u8 0), (.int .u8 0), (.int .u8 0), .nilFunc, (.pointer none), (.int .i32 0), (.int .i32 0)]⟩ .nil .nil) .nil))))))
theorem tyT : tyTab.All (fun T i => tyI Try.prog T = some i) := ⟨ty58, ⟨ty30, ⟨ty15, ⟨ty8, ⟨ty4, ⟨ty2, ⟨ty1, trivial, trivial⟩, ⟨ty3, trivial, trivial⟩⟩, ⟨ty6, ⟨ty5, trivial, trivial⟩, ⟨ty7, trivial, trivial⟩⟩⟩, ⟨ty12, ⟨ty10, ⟨ty9, trivial, trivial⟩, ⟨ty11, trivial, trivial⟩⟩, ⟨ty14, ⟨ty13, trivial, trivial⟩, trivial⟩⟩⟩, ⟨ty23, ⟨ty19, ⟨ty17, ⟨ty16, trivial, trivial⟩, ⟨ty18, trivial, trivial⟩⟩, ⟨ty22, ⟨ty21, trivial, trivial⟩, trivial⟩⟩, ⟨ty27, ⟨ty25, ⟨ty24, trivial, trivial⟩, ⟨ty26, trivial, trivial⟩⟩, ⟨ty29, ⟨ty28, trivial, trivial⟩, trivial⟩⟩⟩⟩, ⟨ty44, ⟨ty37, ⟨ty34, ⟨ty32, ⟨ty31, trivial, trivial⟩, ⟨ty33, trivial, trivial⟩⟩, ⟨ty36, ⟨ty35, trivial, trivial⟩, trivial⟩⟩, ⟨ty41, ⟨ty39, ⟨ty38, trivial, trivial⟩, ⟨ty40, trivial, trivial⟩⟩, ⟨ty43, ⟨ty42, trivial, trivial⟩, trivial⟩⟩⟩, ⟨ty51, ⟨ty48, ⟨ty46, ⟨ty45, trivial, trivial⟩, ⟨ty47, trivial, trivial⟩⟩, ⟨ty50, ⟨ty49, trivial, trivial⟩, trivial⟩⟩, ⟨ty55, ⟨ty53, ⟨ty52, trivial, trivial⟩, ⟨ty54, trivial, trivial⟩⟩, ⟨ty57, ⟨ty56, trivial, trivial⟩, trivial⟩⟩⟩⟩⟩, ⟨ty90, ⟨ty75, ⟨ty68, ⟨ty64, ⟨ty61, ⟨ty60, trivial, trivial⟩, ⟨ty63, trivial, trivial⟩⟩, ⟨ty66, ⟨ty65, trivial, trivial⟩, ⟨ty67, trivial, trivial⟩⟩⟩, ⟨ty72, ⟨ty70, ⟨ty69, trivial, trivial⟩, ⟨ty71, trivial, trivial⟩⟩, ⟨ty74, ⟨ty73, trivial, trivial⟩, trivial⟩⟩⟩, ⟨ty82, ⟨ty79, ⟨ty77, ⟨ty76, trivial, trivial⟩, ⟨ty78, trivial, trivial⟩⟩, ⟨ty81, ⟨ty80, trivial, trivial⟩, trivial⟩⟩, ⟨ty86, ⟨ty84, ⟨ty83, trivial, trivial⟩, ⟨ty85, trivial, trivial⟩⟩, ⟨ty88, ⟨ty87, trivial, trivial⟩, trivial⟩⟩⟩⟩, ⟨ty104, ⟨ty97, ⟨ty94, ⟨ty92, ⟨ty91, trivial, trivial⟩, ⟨ty93, trivial, trivial⟩⟩, ⟨ty96, ⟨ty95, trivial, trivial⟩, trivial⟩⟩, ⟨ty101, ⟨ty99, ⟨ty98, trivial, trivial⟩, ⟨ty100, trivial, trivial⟩⟩, ⟨ty103, ⟨ty102, trivial, trivial⟩, trivial⟩⟩⟩, ⟨ty111, ⟨ty108, ⟨ty106, ⟨ty105, trivial, trivial⟩, ⟨ty107, trivial, trivial⟩⟩, ⟨ty110, ⟨ty109, trivial, trivial⟩, trivial⟩⟩, ⟨ty115, ⟨ty113, ⟨ty112, trivial, trivial⟩, ⟨ty114, trivial, trivial⟩⟩, ⟨ty117, ⟨ty116, trivial, trivial⟩, trivial⟩⟩⟩⟩⟩⟩
theorem tyA {T : TypeId} {i : TyI} (h : lookT tyTab T = some i) : tyI Try.prog T = some i := tyT.look h
def slTab : Tr (TypeId) := (.node 56 5 (.node 41 44 (.node 40 46 .nil .nil) .nil) (.node 96 4 (.node 72 3 .nil .nil) .nil))
theorem slT : slTab.All (fun T i => sliceE Try.prog T = some i) := ⟨sl56, ⟨sl41, ⟨sl40, trivial, trivial⟩, trivial⟩, ⟨sl96, ⟨sl72, trivial, trivial⟩, trivial⟩⟩
theorem slA {T : TypeId} {i : TypeId} (h : lookT slTab T = some i) : sliceE Try.prog T = some i := slT.look h
def ptTab : Tr (Unit) := (.node 57 () (.node 17 () (.node 16 () (.node 15 () .nil .nil) .nil) (.node 28 () (.node 24 () .nil .nil) .nil)) (.node 97 () (.node 86 () (.node 61 () .nil .nil) .nil) (.node 112 () (.node 99 () .nil .nil) .nil)))
theorem ptT : ptTab.All (fun T i => isPtr Try.prog T = true) := ⟨pt57, ⟨pt17, ⟨pt16, ⟨pt15, trivial, trivial⟩, trivial⟩, ⟨pt28, ⟨pt24, trivial, trivial⟩, trivial⟩⟩, ⟨pt97, ⟨pt86, ⟨pt61, trivial, trivial⟩, trivial⟩, ⟨pt112, ⟨pt99, trivial, trivial⟩, trivial⟩⟩⟩
theorem ptA {T : TypeId} {i : Unit} (h : lookT ptTab T = some i) : isPtr Try.prog T = true := ptT.look h
def plTab : Tr (List (Nat × Nat)) := (.node 43 [(0, 1), (1, 1), (2, 1)] (.node 30 [(0, 1), (1, 1)] (.node 14 [(0, 1), (1, 1)] (.node 8 [(0, 1), (1, 1), (2, 1), (3, 1)] (.node 7 [(0, 1), (1, 1), (2, 1), (3, 1)] .nil .nil) (.node 13 [(0, 1), (1, 1)] .nil .nil)) (.node 19 [(0, 1)] (.node 18 [(0, 1)] .nil .nil) (.node 29 [(0, 1), (1, 1)] .nil .nil))) (.node 35 [(0, 0), (0, 0), (0, 1)] (.node 33 [] (.node 32 [] .nil .nil) (.node 34 [] .nil .nil)) (.node 37 [(0, 1), (1, 1)] (.node 36 [(0, 0), (0, 0), (0, 1)] .nil .nil) (.node 38 [(0, 1), (1, 1)] .nil .nil)))) (.node 68 [(0, 1), (1, 1), (2, 1), (3, 1), (4, 1), (5, 1), (6, 8)] (.node 64 [(0, 1), (1, 1), (2, 1), (3, 1), (4, 1), (5, 1), (6, 1), (7, 1)] (.node 45 [(0, 1), (1, 1), (2, 1), (3, 1), (4, 1)] (.node 44 [(0, 1), (1, 1), (2, 1)] .nil .nil) (.node 46 [(0, 1), (1, 1), (2, 1), (3, 1), (4, 1)] .nil .nil)) (.node 66 [(0, 1), (1, 1), (2, 1), (3, 1), (4, 1), (5, 1), (6, 8)] (.node 65 [(0, 1), (1, 1), (2, 1), (3, 1), (4, 1), (5, 1), (6, 1), (7, 1)] .nil .nil) (.node 67 [(0, 1), (1, 1), (2, 1), (3, 1), (4, 1), (5, 1), (6, 8)] .nil .nil))) (.node 107 [(0, 0)] (.node 104 [(0, 1), (1, 1), (2, 1), (3, 1)] (.node 103 [(0, 1), (1, 1), (2, 1), (3, 1)] .nil .nil) (.node 106 [(0, 0)] .nil .nil)) (.node 116 [(0, 1), (1, 1), (2, 1), (3, 1), (4, 1), (5, 1), (6, 1), (7, 1), (8, 1), (9, 1), (10, 1)] (.node 115 [(0, 1), (1, 1), (2, 1), (3, 1), (4, 1), (5, 1), (6, 1), (7, 1), (8, 1), (9, 1), (10, 1)] .nil .nil) .nil))))
theorem plT : plTab.All (fun T i => placesI Try.prog T = some i) := ⟨pl43, ⟨pl30, ⟨pl14, ⟨pl8, ⟨pl7, trivial, trivial⟩, ⟨pl13, trivial, trivial⟩⟩, ⟨pl19, ⟨pl18, trivial, trivial⟩, ⟨pl29, trivial, trivial⟩⟩⟩, ⟨pl35, ⟨pl33, ⟨pl32, trivial, trivial⟩, ⟨pl34, trivial, trivial⟩⟩, ⟨pl37, ⟨pl36, trivial, trivial⟩, ⟨pl38, trivial, trivial⟩⟩⟩⟩, ⟨pl68, ⟨pl64, ⟨pl45, ⟨pl44, trivial, trivial⟩, ⟨pl46, trivial, trivial⟩⟩, ⟨pl66, ⟨pl65, trivial, trivial⟩, ⟨pl67, trivial, trivial⟩⟩⟩, ⟨pl107, ⟨pl104, ⟨pl103, trivial, trivial⟩, ⟨pl106, trivial, trivial⟩⟩, ⟨pl116, ⟨pl115, trivial, trivial⟩, trivial⟩⟩⟩⟩
theorem plA {T : TypeId} {i : List (Nat × Nat)} (h : lookT plTab T = some i) : placesI Try.prog T = some i := plT.look h
def boTab : Tr (Unit) := (.node 4 () .nil .nil)
theorem boT : boTab.All (fun T i => Try.prog.underlying T = some .bool) := ⟨Try.underlying4, trivial, trivial⟩
theorem boA {T : TypeId} {i : Unit} (h : lookT boTab T = some i) : Try.prog.underlying T = some .bool := boT.look h
def flTab : Tr (FldI) := (.node 4164 ⟨4, 1, false⟩ (.node 2752 ⟨0, 1, false⟩ (.node 1856 ⟨0, 1, false⟩ (.node 515 ⟨3, 1, false⟩ (.node 451 ⟨3, 1, false⟩ (.node 449 ⟨1, 1, false⟩ (.node 448 ⟨0, 1, false⟩ .nil .nil) (.node 450 ⟨2, 1, false⟩ .nil .nil)) (.node 513 ⟨1, 1, false⟩ (.node 512 ⟨0, 1, false⟩ .nil .nil) (.node 514 ⟨2, 1, false⟩ .nil .nil))) (.node 897 ⟨1, 1, false⟩ (.node 833 ⟨1, 1, false⟩ (.node 832 ⟨0, 1, false⟩ .nil .nil) (.node 896 ⟨0, 1, false⟩ .nil .nil)) (.node 1216 ⟨0, 1, false⟩ (.node 1152 ⟨0, 1, false⟩ .nil .nil) .nil))) (.node 2304 ⟨0, 0, true⟩ (.node 2240 ⟨0, 0, true⟩ (.node 1920 ⟨0, 1, false⟩ (.node 1857 ⟨1, 1, false⟩ .nil .nil) (.node 1921 ⟨1, 1, false⟩ .nil .nil)) (.node 2242 ⟨0, 1, false⟩ (.node 2241 ⟨0, 0, true⟩ .nil .nil) .nil)) (.node 2369 ⟨1, 1, false⟩ (.node 2306 ⟨0, 1, false⟩ (.node 2305 ⟨0, 0, true⟩ .nil .nil) (.node 2368 ⟨0, 1, true⟩ .nil .nil)) (.node 2433 ⟨1, 1, false⟩ (.node 2432 ⟨0, 1, true⟩ .nil .nil) .nil)))) (.node 2947 ⟨3, 1, false⟩ (.node 2881 ⟨1, 1, false⟩ (.node 2817 ⟨1, 1, false⟩ (.node 2754 ⟨2, 1, false⟩ (.node 2753 ⟨1, 1, false⟩ .nil .nil) (.node 2816 ⟨0, 1, false⟩ .nil .nil)) (.node 2880 ⟨0, 1, false⟩ (.node 2818 ⟨2, 1, false⟩ .nil .nil) .nil)) (.node 2944 ⟨0, 1, false⟩ (.node 2883 ⟨3, 1, false⟩ (.node 2882 ⟨2, 1, false⟩ .nil .nil) (.node 2884 ⟨4, 1, false⟩ .nil .nil)) (.node 2946 ⟨2, 1, false⟩ (.node 2945 ⟨1, 1, false⟩ .nil .nil) .nil))) (.node 4101 ⟨5, 1, false⟩ (.node 4098 ⟨2, 1, false⟩ (.node 4096 ⟨0, 1, false⟩ (.node 2948 ⟨4, 1, false⟩ .nil .nil) (.node 4097 ⟨1, 1, false⟩ .nil .nil)) (.node 4100 ⟨4, 1, false⟩ (.node 4099 ⟨3, 1, false⟩ .nil .nil) .nil)) (.node 4161 ⟨1, 1, false⟩ (.node 4103 ⟨7, 1, false⟩ (.node 4102 ⟨6, 1, false⟩ .nil .nil) (.node 4160 ⟨0, 1, false⟩ .nil .nil)) (.node 4163 ⟨3, 1, false⟩ (.node 4162 ⟨2, 1, false⟩ .nil .nil) .nil))))) (.node 6656 ⟨0, 1, false⟩ (.node 4292 ⟨4, 1, false⟩ (.node 4228 ⟨4, 1, false⟩ (.node 4224 ⟨0, 1, false⟩ (.node 4166 ⟨6, 1, false⟩ (.node 4165 ⟨5, 1, false⟩ .nil .nil) (.node 4167 ⟨7, 1, false⟩ .nil .nil)) (.node 4226 ⟨2, 1, false⟩ (.node 4225 ⟨1, 1, false⟩ .nil .nil) (.node 4227 ⟨3, 1, false⟩ .nil .nil))) (.node 4289 ⟨1, 1, false⟩ (.node 4230 ⟨6, 8, true⟩ (.node 4229 ⟨5, 1, false⟩ .nil .nil) (.node 4288 ⟨0, 1, false⟩ .nil .nil)) (.node 4291 ⟨3, 1, false⟩ (.node 4290 ⟨2, 1, false⟩ .nil .nil) .nil))) (.node 4356 ⟨4, 1, false⟩ (.node 4353 ⟨1, 1, false⟩ (.node 4294 ⟨6, 8, true⟩ (.node 4293 ⟨5, 1, false⟩ .nil .nil) (.node 4352 ⟨0, 1, false⟩ .nil .nil)) (.node 4355 ⟨3, 1, false⟩ (.node 4354 ⟨2, 1, false⟩ .nil .nil) .nil)) (.node 6593 ⟨1, 1, false⟩ (.node 4358 ⟨6, 8, true⟩ (.node 4357 ⟨5, 1, false⟩ .nil .nil) (.node 6592 ⟨0, 1, false⟩ .nil .nil)) (.node 6595 ⟨3, 1, false⟩ (.node 6594 ⟨2, 1, false⟩ .nil .nil) .nil)))) (.node 7368 ⟨8, 1, false⟩ (.node 7361 ⟨1, 1, false⟩ (.node 6784 ⟨0, 0, true⟩ (.node 6658 ⟨2, 1, false⟩ (.node 6657 ⟨1, 1, false⟩ .nil .nil) (.node 6659 ⟨3, 1, false⟩ .nil .nil)) (.node 7360 ⟨0, 1, false⟩ (.node 6848 ⟨0, 0, true⟩ .nil .nil) .nil)) (.node 7365 ⟨5, 1, false⟩ (.node 7363 ⟨3, 1, false⟩ (.node 7362 ⟨2, 1, false⟩ .nil .nil) (.node 7364 ⟨4, 1, false⟩ .nil .nil)) (.node 7367 ⟨7, 1, false⟩ (.node 7366 ⟨6, 1, false⟩ .nil .nil) .nil))) (.node 7428 ⟨4, 1, false⟩ (.node 7425 ⟨1, 1, false⟩ (.node 7370 ⟨10, 1, false⟩ (.node 7369 ⟨9, 1, false⟩ .nil .nil) (.node 7424 ⟨0, 1, false⟩ .nil .nil)) (.node 7427 ⟨3, 1, false⟩ (.node 7426 ⟨2, 1, false⟩ .nil .nil) .nil)) (.node 7432 ⟨8, 1, false⟩ (.node 7430 ⟨6, 1, false⟩ (.node 7429 ⟨5, 1, false⟩ .nil .nil) (.node 7431 ⟨7, 1, false⟩ .nil .nil)) (.node 7434 ⟨10, 1, false⟩ (.node 7433 ⟨9, 1, false⟩ .nil .nil) .nil))))))
theorem flT : flTab.All (fun T i => fldI Try.prog (T / 64) (T % 64) = some i) := ⟨fl65_4, ⟨fl43_0, ⟨fl29_0, ⟨fl8_3, ⟨fl7_3, ⟨fl7_1, ⟨fl7_0, trivial, trivial⟩, ⟨fl7_2, trivial, trivial⟩⟩, ⟨fl8_1, ⟨fl8_0, trivial, trivial⟩, ⟨fl8_2, trivial, trivial⟩⟩⟩, ⟨fl14_1, ⟨fl13_1, ⟨fl13_0, trivial, trivial⟩, ⟨fl14_0, trivial, trivial⟩⟩, ⟨fl19_0, ⟨fl18_0, trivial, trivial⟩, trivial⟩⟩⟩, ⟨fl36_0, ⟨fl35_0, ⟨fl30_0, ⟨fl29_1, trivial, trivial⟩, ⟨fl30_1, trivial, trivial⟩⟩, ⟨fl35_2, ⟨fl35_1, trivial, trivial⟩, trivial⟩⟩, ⟨fl37_1, ⟨fl36_2, ⟨fl36_1, trivial, trivial⟩, ⟨fl37_0, trivial, trivial⟩⟩, ⟨fl38_1, ⟨fl38_0, trivial, trivial⟩, trivial⟩⟩⟩⟩, ⟨fl46_3, ⟨fl45_1, ⟨fl44_1, ⟨fl43_2, ⟨fl43_1, trivial, trivial⟩, ⟨fl44_0, trivial, trivial⟩⟩, ⟨fl45_0, ⟨fl44_2, trivial, trivial⟩, trivial⟩⟩, ⟨fl46_0, ⟨fl45_3, ⟨fl45_2, trivial, trivial⟩, ⟨fl45_4, trivial, trivial⟩⟩, ⟨fl46_2, ⟨fl46_1, trivial, trivial⟩, trivial⟩⟩⟩, ⟨fl64_5, ⟨fl64_2, ⟨fl64_0, ⟨fl46_4, trivial, trivial⟩, ⟨fl64_1, trivial, trivial⟩⟩, ⟨fl64_4, ⟨fl64_3, trivial, trivial⟩, trivial⟩⟩, ⟨fl65_1, ⟨fl64_7, ⟨fl64_6, trivial, trivial⟩, ⟨fl65_0, trivial, trivial⟩⟩, ⟨fl65_3, ⟨fl65_2, trivial, trivial⟩, trivial⟩⟩⟩⟩⟩, ⟨fl104_0, ⟨fl67_4, ⟨fl66_4, ⟨fl66_0, ⟨fl65_6, ⟨fl65_5, trivial, trivial⟩, ⟨fl65_7, trivial, trivial⟩⟩, ⟨fl66_2, ⟨fl66_1, trivial, trivial⟩, ⟨fl66_3, trivial, trivial⟩⟩⟩, ⟨fl67_1, ⟨fl66_6, ⟨fl66_5, trivial, trivial⟩, ⟨fl67_0, trivial, trivial⟩⟩, ⟨fl67_3, ⟨fl67_2, trivial, trivial⟩, trivial⟩⟩⟩, ⟨fl68_4, ⟨fl68_1, ⟨fl67_6, ⟨fl67_5, trivial, trivial⟩, ⟨fl68_0, trivial, trivial⟩⟩, ⟨fl68_3, ⟨fl68_2, trivial, trivial⟩, trivial⟩⟩, ⟨fl103_1, ⟨fl68_6, ⟨fl68_5, trivial, trivial⟩, ⟨fl103_0, trivial, trivial⟩⟩, ⟨fl103_3, ⟨fl103_2, trivial, trivial⟩, trivial⟩⟩⟩⟩, ⟨fl115_8, ⟨fl115_1, ⟨fl106_0, ⟨fl104_2, ⟨fl104_1, trivial, trivial⟩, ⟨fl104_3, trivial, trivial⟩⟩, ⟨fl115_0, ⟨fl107_0, trivial, trivial⟩, trivial⟩⟩, ⟨fl115_5, ⟨fl115_3, ⟨fl115_2, trivial, trivial⟩, ⟨fl115_4, trivial, trivial⟩⟩, ⟨fl115_7, ⟨fl115_6, trivial, trivial⟩, trivial⟩⟩⟩, ⟨fl116_4, ⟨fl116_1, ⟨fl115_10, ⟨fl115_9, trivial, trivial⟩, ⟨fl116_0, trivial, trivial⟩⟩, ⟨fl116_3, ⟨fl116_2, trivial, trivial⟩, trivial⟩⟩, ⟨fl116_8, ⟨fl116_6, ⟨fl116_5, trivial, trivial⟩, ⟨fl116_7, trivial, trivial⟩⟩, ⟨fl116_10, ⟨fl116_9, trivial, trivial⟩, trivial⟩⟩⟩⟩⟩⟩
theorem flA {T : Nat} {j : Nat} {i : FldI} (h : lookT flTab (T * 64 + j) = some i) (hj : Nat.blt j 64 = true := by rfl) : fldI Try.prog T j = some i := by
  have := flT.look h
  have hj := Nat.le_of_ble_eq_true hj
  rwa [show (T * 64 + j) / 64 = T by omega, show (T * 64 + j) % 64 = j by omega] at this
theorem cb2 : callB Try.prog 2 = true := by kernel_rfl
theorem cb3 : callB Try.prog 3 = true := by kernel_rfl
theorem cb4 : callB Try.prog 4 = true := by kernel_rfl
theorem cb5 : callB Try.prog 5 = true := by kernel_rfl
theorem cb6 : callB Try.prog 6 = true := by kernel_rfl
theorem cb7 : callB Try.prog 7 = true := by kernel_rfl
theorem cb8 : callB Try.prog 8 = true := by kernel_rfl
theorem cb9 : callB Try.prog 9 = true := by kernel_rfl
theorem cb10 : callB Try.prog 10 = true := by kernel_rfl
theorem cb11 : callB Try.prog 11 = true := by kernel_rfl
theorem cb12 : callB Try.prog 12 = true := by kernel_rfl
theorem cb13 : callB Try.prog 13 = true := by kernel_rfl
theorem cb14 : callB Try.prog 14 = true := by kernel_rfl
theorem cb15 : callB Try.prog 15 = true := by kernel_rfl
theorem cb16 : callB Try.prog 16 = true := by kernel_rfl
theorem cb17 : callB Try.prog 17 = true := by kernel_rfl
theorem cb18 : callB Try.prog 18 = true := by kernel_rfl
theorem cb19 : callB Try.prog 19 = true := by kernel_rfl
theorem cb20 : callB Try.prog 20 = true := by kernel_rfl
theorem cb21 : callB Try.prog 21 = true := by kernel_rfl
theorem cb22 : callB Try.prog 22 = true := by kernel_rfl
theorem cb23 : callB Try.prog 23 = true := by kernel_rfl
theorem cb24 : callB Try.prog 24 = true := by kernel_rfl
theorem cb25 : callB Try.prog 25 = true := by kernel_rfl
theorem cb26 : callB Try.prog 26 = true := by kernel_rfl
theorem cb27 : callB Try.prog 27 = true := by kernel_rfl
theorem cb28 : callB Try.prog 28 = true := by kernel_rfl
theorem cb29 : callB Try.prog 29 = true := by kernel_rfl
theorem cb30 : callB Try.prog 30 = true := by kernel_rfl
theorem cb31 : callB Try.prog 31 = true := by kernel_rfl
theorem cb32 : callB Try.prog 32 = true := by kernel_rfl
theorem cb33 : callB Try.prog 33 = true := by kernel_rfl
theorem cb34 : callB Try.prog 34 = true := by kernel_rfl
theorem cb35 : callB Try.prog 35 = true := by kernel_rfl
theorem cb36 : callB Try.prog 36 = true := by kernel_rfl
theorem cb37 : callB Try.prog 37 = true := by kernel_rfl
theorem cb38 : callB Try.prog 38 = true := by kernel_rfl
theorem cb39 : callB Try.prog 39 = true := by kernel_rfl
theorem cb40 : callB Try.prog 40 = true := by kernel_rfl
theorem cb41 : callB Try.prog 41 = true := by kernel_rfl
theorem cb42 : callB Try.prog 42 = true := by kernel_rfl
theorem cb43 : callB Try.prog 43 = true := by kernel_rfl
theorem cb44 : callB Try.prog 44 = true := by kernel_rfl
theorem cb45 : callB Try.prog 45 = true := by kernel_rfl
theorem cb46 : callB Try.prog 46 = true := by kernel_rfl
theorem cb47 : callB Try.prog 47 = true := by kernel_rfl
theorem cb48 : callB Try.prog 48 = true := by kernel_rfl
theorem cb49 : callB Try.prog 49 = true := by kernel_rfl
theorem cb50 : callB Try.prog 50 = true := by kernel_rfl
theorem cb51 : callB Try.prog 51 = true := by kernel_rfl
theorem cb52 : callB Try.prog 52 = true := by kernel_rfl
theorem cb53 : callB Try.prog 53 = true := by kernel_rfl
theorem cb54 : callB Try.prog 54 = true := by kernel_rfl
theorem cb55 : callB Try.prog 55 = true := by kernel_rfl
theorem cb56 : callB Try.prog 56 = true := by kernel_rfl
theorem cb57 : callB Try.prog 57 = true := by kernel_rfl
theorem cb58 : callB Try.prog 58 = true := by kernel_rfl
theorem cb59 : callB Try.prog 59 = true := by kernel_rfl
theorem cb60 : callB Try.prog 60 = true := by kernel_rfl
theorem cb61 : callB Try.prog 61 = true := by kernel_rfl
theorem cb62 : callB Try.prog 62 = true := by kernel_rfl
theorem cb63 : callB Try.prog 63 = true := by kernel_rfl
theorem cb64 : callB Try.prog 64 = true := by kernel_rfl
theorem cb67 : callB Try.prog 67 = true := by kernel_rfl
def cbTab : Tr Unit := (.node 34 () (.node 18 () (.node 10 () (.node 6 () (.node 4 () (.node 3 () (.node 2 () .nil .nil) .nil) (.node 5 () .nil .nil)) (.node 8 () (.node 7 () .nil .nil) (.node 9 () .nil .nil))) (.node 14 () (.node 12 () (.node 11 () .nil .nil) (.node 13 () .nil .nil)) (.node 16 () (.node 15 () .nil .nil) (.node 17 () .nil .nil)))) (.node 26 () (.node 22 () (.node 20 () (.node 19 () .nil .nil) (.node 21 () .nil .nil)) (.node 24 () (.node 23 () .nil .nil) (.node 25 () .nil .nil))) (.node 30 () (.node 28 () (.node 27 () .nil .nil) (.node 29 () .nil .nil)) (.node 32 () (.node 31 () .nil .nil) (.node 33 () .nil .nil))))) (.node 50 () (.node 42 () (.node 38 () (.node 36 () (.node 35 () .nil .nil) (.node 37 () .nil .nil)) (.node 40 () (.node 39 () .nil .nil) (.node 41 () .nil .nil))) (.node 46 () (.node 44 () (.node 43 () .nil .nil) (.node 45 () .nil .nil)) (.node 48 () (.node 47 () .nil .nil) (.node 49 () .nil .nil)))) (.node 58 () (.node 54 () (.node 52 () (.node 51 () .nil .nil) (.node 53 () .nil .nil)) (.node 56 () (.node 55 () .nil .nil) (.node 57 () .nil .nil))) (.node 62 () (.node 60 () (.node 59 () .nil .nil) (.node 61 () .nil .nil)) (.node 64 () (.node 63 () .nil .nil) (.node 67 () .nil .nil))))))
theorem cbT : cbTab.All (fun T i => callB Try.prog T = true) := ⟨cb34, ⟨cb18, ⟨cb10, ⟨cb6, ⟨cb4, ⟨cb3, ⟨cb2, trivial, trivial⟩, trivial⟩, ⟨cb5, trivial, trivial⟩⟩, ⟨cb8, ⟨cb7, trivial, trivial⟩, ⟨cb9, trivial, trivial⟩⟩⟩, ⟨cb14, ⟨cb12, ⟨cb11, trivial, trivial⟩, ⟨cb13, trivial, trivial⟩⟩, ⟨cb16, ⟨cb15, trivial, trivial⟩, ⟨cb17, trivial, trivial⟩⟩⟩⟩, ⟨cb26, ⟨cb22, ⟨cb20, ⟨cb19, trivial, trivial⟩, ⟨cb21, trivial, trivial⟩⟩, ⟨cb24, ⟨cb23, trivial, trivial⟩, ⟨cb25, trivial, trivial⟩⟩⟩, ⟨cb30, ⟨cb28, ⟨cb27, trivial, trivial⟩, ⟨cb29, trivial, trivial⟩⟩, ⟨cb32, ⟨cb31, trivial, trivial⟩, ⟨cb33, trivial, trivial⟩⟩⟩⟩⟩, ⟨cb50, ⟨cb42, ⟨cb38, ⟨cb36, ⟨cb35, trivial, trivial⟩, ⟨cb37, trivial, trivial⟩⟩, ⟨cb40, ⟨cb39, trivial, trivial⟩, ⟨cb41, trivial, trivial⟩⟩⟩, ⟨cb46, ⟨cb44, ⟨cb43, trivial, trivial⟩, ⟨cb45, trivial, trivial⟩⟩, ⟨cb48, ⟨cb47, trivial, trivial⟩, ⟨cb49, trivial, trivial⟩⟩⟩⟩, ⟨cb58, ⟨cb54, ⟨cb52, ⟨cb51, trivial, trivial⟩, ⟨cb53, trivial, trivial⟩⟩, ⟨cb56, ⟨cb55, trivial, trivial⟩, ⟨cb57, trivial, trivial⟩⟩⟩, ⟨cb62, ⟨cb60, ⟨cb59, trivial, trivial⟩, ⟨cb61, trivial, trivial⟩⟩, ⟨cb64, ⟨cb63, trivial, trivial⟩, ⟨cb67, trivial, trivial⟩⟩⟩⟩⟩⟩
theorem cbA {T : FuncId} {i : Unit} (h : lookT cbTab T = some i) : callB Try.prog T = true := cbT.look h
end Go.Proofs.Ytpmeffdcbjakoaa
