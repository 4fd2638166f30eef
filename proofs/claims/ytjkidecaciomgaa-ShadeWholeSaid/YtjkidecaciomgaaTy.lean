/- The program's types, and which functions are called as they are: printed by wip/tools/tytab.py. -/
import Derived.Test.YtjkidecaciomgaaVL8
import Derived.Test.YtjkidecaciomgaaProg
import Derived.KernelRfl
set_option linter.unusedVariables false
namespace Go.Proofs.Ytjkidecaciomgaa
theorem ty1 : tyI Try.prog 1 = some ⟨false, 1, 8, [.nilFunc]⟩ := by kernel_rfl
theorem ty2 : tyI Try.prog 2 = some ⟨false, 1, 8, [(.int .i64 0)]⟩ := by kernel_rfl
theorem ty3 : tyI Try.prog 3 = some ⟨false, 1, 8, [(.int .i64 0)]⟩ := by kernel_rfl
theorem ty4 : tyI Try.prog 4 = some ⟨false, 1, 1, [(.bool false)]⟩ := by kernel_rfl
theorem ty5 : tyI Try.prog 5 = some ⟨false, 1, 1, [(.int .u8 0)]⟩ := by kernel_rfl
theorem ty6 : tyI Try.prog 6 = some ⟨false, 1, 1, [(.int .u8 0)]⟩ := by kernel_rfl
theorem ty7 : tyI Try.prog 7 = some ⟨true, 4, 24, [(.int .i64 0), (.int .i64 0), (.bool false), (.int .u8 0)]⟩ := by kernel_rfl
theorem pl7 : placesI Try.prog 7 = some [(0, 1), (1, 1), (2, 1), (3, 1)] := by kernel_rfl
theorem fl7_0 : fldI Try.prog 7 0 = some ⟨0, 1, false⟩ := by kernel_rfl
theorem fl7_1 : fldI Try.prog 7 1 = some ⟨1, 1, false⟩ := by kernel_rfl
theorem fl7_2 : fldI Try.prog 7 2 = some ⟨2, 1, false⟩ := by kernel_rfl
theorem fl7_3 : fldI Try.prog 7 3 = some ⟨3, 1, false⟩ := by kernel_rfl
theorem ty8 : tyI Try.prog 8 = some ⟨true, 4, 24, [(.int .i64 0), (.int .i64 0), (.bool false), (.int .u8 0)]⟩ := by kernel_rfl
theorem pl8 : placesI Try.prog 8 = some [(0, 1), (1, 1), (2, 1), (3, 1)] := by kernel_rfl
theorem fl8_0 : fldI Try.prog 8 0 = some ⟨0, 1, false⟩ := by kernel_rfl
theorem fl8_1 : fldI Try.prog 8 1 = some ⟨1, 1, false⟩ := by kernel_rfl
theorem fl8_2 : fldI Try.prog 8 2 = some ⟨2, 1, false⟩ := by kernel_rfl
theorem fl8_3 : fldI Try.prog 8 3 = some ⟨3, 1, false⟩ := by kernel_rfl
theorem ty9 : tyI Try.prog 9 = some ⟨false, 1, 16, [(.string ⟨#[]⟩)]⟩ := by kernel_rfl
theorem ty10 : tyI Try.prog 10 = some ⟨false, 1, 16, [(.string ⟨#[]⟩)]⟩ := by kernel_rfl
theorem ty11 : tyI Try.prog 11 = some ⟨false, 1, 16, [(.string ⟨#[]⟩)]⟩ := by kernel_rfl
theorem ty12 : tyI Try.prog 12 = some ⟨false, 1, 8, [(.int .u64 0)]⟩ := by kernel_rfl
theorem ty13 : tyI Try.prog 13 = some ⟨true, 2, 24, [(.string ⟨#[]⟩), (.int .u64 0)]⟩ := by kernel_rfl
theorem pl13 : placesI Try.prog 13 = some [(0, 1), (1, 1)] := by kernel_rfl
theorem fl13_0 : fldI Try.prog 13 0 = some ⟨0, 1, false⟩ := by kernel_rfl
theorem fl13_1 : fldI Try.prog 13 1 = some ⟨1, 1, false⟩ := by kernel_rfl
theorem ty14 : tyI Try.prog 14 = some ⟨true, 2, 24, [(.string ⟨#[]⟩), (.int .u64 0)]⟩ := by kernel_rfl
theorem pl14 : placesI Try.prog 14 = some [(0, 1), (1, 1)] := by kernel_rfl
theorem fl14_0 : fldI Try.prog 14 0 = some ⟨0, 1, false⟩ := by kernel_rfl
theorem fl14_1 : fldI Try.prog 14 1 = some ⟨1, 1, false⟩ := by kernel_rfl
theorem ty15 : tyI Try.prog 15 = some ⟨false, 1, 8, [(.pointer none)]⟩ := by kernel_rfl
theorem pt15 : isPtr Try.prog 15 = true := by kernel_rfl
theorem ty16 : tyI Try.prog 16 = some ⟨false, 1, 8, [(.pointer none)]⟩ := by kernel_rfl
theorem pt16 : isPtr Try.prog 16 = true := by kernel_rfl
theorem ty17 : tyI Try.prog 17 = some ⟨false, 1, 8, [(.pointer none)]⟩ := by kernel_rfl
theorem pt17 : isPtr Try.prog 17 = true := by kernel_rfl
theorem ty18 : tyI Try.prog 18 = some ⟨true, 1, 8, [(.pointer none)]⟩ := by kernel_rfl
theorem pl18 : placesI Try.prog 18 = some [(0, 1)] := by kernel_rfl
theorem fl18_0 : fldI Try.prog 18 0 = some ⟨0, 1, false⟩ := by kernel_rfl
theorem ty19 : tyI Try.prog 19 = some ⟨true, 1, 8, [(.pointer none)]⟩ := by kernel_rfl
theorem pl19 : placesI Try.prog 19 = some [(0, 1)] := by kernel_rfl
theorem fl19_0 : fldI Try.prog 19 0 = some ⟨0, 1, false⟩ := by kernel_rfl
theorem ty20 : tyI Try.prog 20 = some ⟨false, 1, 16, [.nilIface]⟩ := by kernel_rfl
theorem ty21 : tyI Try.prog 21 = some ⟨false, 1, 4, [(.int .i32 0)]⟩ := by kernel_rfl
theorem ty22 : tyI Try.prog 22 = some ⟨false, 1, 24, [(.slice none 0 0)]⟩ := by kernel_rfl
theorem sl22 : sliceE Try.prog 22 = some 35 := by kernel_rfl
theorem ty23 : tyI Try.prog 23 = some ⟨false, 1, 8, [.nilFunc]⟩ := by kernel_rfl
theorem ty24 : tyI Try.prog 24 = some ⟨false, 1, 8, [.nilFunc]⟩ := by kernel_rfl
theorem ty25 : tyI Try.prog 25 = some ⟨false, 1, 8, [(.pointer none)]⟩ := by kernel_rfl
theorem pt25 : isPtr Try.prog 25 = true := by kernel_rfl
theorem ty26 : tyI Try.prog 26 = some ⟨false, 1, 8, [.nilFunc]⟩ := by kernel_rfl
theorem ty27 : tyI Try.prog 27 = some ⟨false, 1, 24, [(.slice none 0 0)]⟩ := by kernel_rfl
theorem sl27 : sliceE Try.prog 27 = some 33 := by kernel_rfl
theorem ty28 : tyI Try.prog 28 = some ⟨false, 1, 8, [(.int .i64 0)]⟩ := by kernel_rfl
theorem ty30 : tyI Try.prog 30 = some ⟨false, 1, 8, [.nilFunc]⟩ := by kernel_rfl
theorem ty31 : tyI Try.prog 31 = some ⟨false, 1, 24, [(.slice none 0 0)]⟩ := by kernel_rfl
theorem sl31 : sliceE Try.prog 31 = some 3 := by kernel_rfl
theorem ty32 : tyI Try.prog 32 = some ⟨true, 9, 104, [(.int .i64 0), (.int .i64 0), (.int .i64 0), (.int .i64 0), (.int .i64 0), (.bool false), (.string ⟨#[]⟩), (.string ⟨#[]⟩), (.slice none 0 0)]⟩ := by kernel_rfl
theorem pl32 : placesI Try.prog 32 = some [(0, 1), (1, 1), (2, 1), (3, 1), (4, 1), (5, 1), (6, 1), (7, 1), (8, 1)] := by kernel_rfl
theorem fl32_0 : fldI Try.prog 32 0 = some ⟨0, 1, false⟩ := by kernel_rfl
theorem fl32_1 : fldI Try.prog 32 1 = some ⟨1, 1, false⟩ := by kernel_rfl
theorem fl32_2 : fldI Try.prog 32 2 = some ⟨2, 1, false⟩ := by kernel_rfl
theorem fl32_3 : fldI Try.prog 32 3 = some ⟨3, 1, false⟩ := by kernel_rfl
theorem fl32_4 : fldI Try.prog 32 4 = some ⟨4, 1, false⟩ := by kernel_rfl
theorem fl32_5 : fldI Try.prog 32 5 = some ⟨5, 1, false⟩ := by kernel_rfl
theorem fl32_6 : fldI Try.prog 32 6 = some ⟨6, 1, false⟩ := by kernel_rfl
theorem fl32_7 : fldI Try.prog 32 7 = some ⟨7, 1, false⟩ := by kernel_rfl
theorem fl32_8 : fldI Try.prog 32 8 = some ⟨8, 1, false⟩ := by kernel_rfl
theorem ty33 : tyI Try.prog 33 = some ⟨true, 9, 104, [(.int .i64 0), (.int .i64 0), (.int .i64 0), (.int .i64 0), (.int .i64 0), (.bool false), (.string ⟨#[]⟩), (.string ⟨#[]⟩), (.slice none 0 0)]⟩ := by kernel_rfl
theorem pl33 : placesI Try.prog 33 = some [(0, 1), (1, 1), (2, 1), (3, 1), (4, 1), (5, 1), (6, 1), (7, 1), (8, 1)] := by kernel_rfl
theorem fl33_0 : fldI Try.prog 33 0 = some ⟨0, 1, false⟩ := by kernel_rfl
theorem fl33_1 : fldI Try.prog 33 1 = some ⟨1, 1, false⟩ := by kernel_rfl
theorem fl33_2 : fldI Try.prog 33 2 = some ⟨2, 1, false⟩ := by kernel_rfl
theorem fl33_3 : fldI Try.prog 33 3 = some ⟨3, 1, false⟩ := by kernel_rfl
theorem fl33_4 : fldI Try.prog 33 4 = some ⟨4, 1, false⟩ := by kernel_rfl
theorem fl33_5 : fldI Try.prog 33 5 = some ⟨5, 1, false⟩ := by kernel_rfl
theorem fl33_6 : fldI Try.prog 33 6 = some ⟨6, 1, false⟩ := by kernel_rfl
theorem fl33_7 : fldI Try.prog 33 7 = some ⟨7, 1, false⟩ := by kernel_rfl
theorem fl33_8 : fldI Try.prog 33 8 = some ⟨8, 1, false⟩ := by kernel_rfl
theorem ty34 : tyI Try.prog 34 = some ⟨true, 14, 168, [(.int .i64 0), (.int .i64 0), (.int .i64 0), (.string ⟨#[]⟩), (.int .i64 0), (.int .i64 0), (.int .i64 0), (.int .i64 0), (.int .i64 0), (.bool false), (.string ⟨#[]⟩), (.string ⟨#[]⟩), (.slice none 0 0), (.slice none 0 0)]⟩ := by kernel_rfl
theorem pl34 : placesI Try.prog 34 = some [(0, 1), (1, 1), (2, 1), (3, 1), (4, 9), (13, 1)] := by kernel_rfl
theorem fl34_0 : fldI Try.prog 34 0 = some ⟨0, 1, false⟩ := by kernel_rfl
theorem fl34_1 : fldI Try.prog 34 1 = some ⟨1, 1, false⟩ := by kernel_rfl
theorem fl34_2 : fldI Try.prog 34 2 = some ⟨2, 1, false⟩ := by kernel_rfl
theorem fl34_3 : fldI Try.prog 34 3 = some ⟨3, 1, false⟩ := by kernel_rfl
theorem fl34_4 : fldI Try.prog 34 4 = some ⟨4, 9, true⟩ := by kernel_rfl
theorem fl34_5 : fldI Try.prog 34 5 = some ⟨13, 1, false⟩ := by kernel_rfl
theorem ty35 : tyI Try.prog 35 = some ⟨true, 14, 168, [(.int .i64 0), (.int .i64 0), (.int .i64 0), (.string ⟨#[]⟩), (.int .i64 0), (.int .i64 0), (.int .i64 0), (.int .i64 0), (.int .i64 0), (.bool false), (.string ⟨#[]⟩), (.string ⟨#[]⟩), (.slice none 0 0), (.slice none 0 0)]⟩ := by kernel_rfl
theorem pl35 : placesI Try.prog 35 = some [(0, 1), (1, 1), (2, 1), (3, 1), (4, 9), (13, 1)] := by kernel_rfl
theorem fl35_0 : fldI Try.prog 35 0 = some ⟨0, 1, false⟩ := by kernel_rfl
theorem fl35_1 : fldI Try.prog 35 1 = some ⟨1, 1, false⟩ := by kernel_rfl
theorem fl35_2 : fldI Try.prog 35 2 = some ⟨2, 1, false⟩ := by kernel_rfl
theorem fl35_3 : fldI Try.prog 35 3 = some ⟨3, 1, false⟩ := by kernel_rfl
theorem fl35_4 : fldI Try.prog 35 4 = some ⟨4, 9, true⟩ := by kernel_rfl
theorem fl35_5 : fldI Try.prog 35 5 = some ⟨13, 1, false⟩ := by kernel_rfl
theorem ty37 : tyI Try.prog 37 = some ⟨false, 1, 8, [.nilFunc]⟩ := by kernel_rfl
theorem ty38 : tyI Try.prog 38 = some ⟨false, 1, 8, [.nilFunc]⟩ := by kernel_rfl
theorem ty40 : tyI Try.prog 40 = some ⟨false, 1, 8, [.nilFunc]⟩ := by kernel_rfl
theorem ty41 : tyI Try.prog 41 = some ⟨false, 1, 8, [.nilFunc]⟩ := by kernel_rfl
theorem ty42 : tyI Try.prog 42 = some ⟨false, 1, 8, [.nilFunc]⟩ := by kernel_rfl
theorem ty43 : tyI Try.prog 43 = some ⟨false, 1, 8, [.nilFunc]⟩ := by kernel_rfl
theorem ty44 : tyI Try.prog 44 = some ⟨false, 1, 8, [.nilFunc]⟩ := by kernel_rfl
theorem ty45 : tyI Try.prog 45 = some ⟨false, 1, 8, [.nilFunc]⟩ := by kernel_rfl
theorem ty46 : tyI Try.prog 46 = some ⟨false, 1, 8, [.nilFunc]⟩ := by kernel_rfl
theorem ty47 : tyI Try.prog 47 = some ⟨false, 1, 8, [.nilFunc]⟩ := by kernel_rfl
theorem ty48 : tyI Try.prog 48 = some ⟨false, 1, 8, [.nilFunc]⟩ := by kernel_rfl
theorem ty49 : tyI Try.prog 49 = some ⟨false, 1, 8, [.nilFunc]⟩ := by kernel_rfl
theorem ty50 : tyI Try.prog 50 = some ⟨false, 1, 8, [.nilFunc]⟩ := by kernel_rfl
theorem ty51 : tyI Try.prog 51 = some ⟨false, 1, 8, [.nilFunc]⟩ := by kernel_rfl
theorem ty52 : tyI Try.prog 52 = some ⟨true, 1, 24, [(.slice none 0 0)]⟩ := by kernel_rfl
theorem pl52 : placesI Try.prog 52 = some [(0, 1)] := by kernel_rfl
theorem fl52_0 : fldI Try.prog 52 0 = some ⟨0, 1, false⟩ := by kernel_rfl
theorem ty53 : tyI Try.prog 53 = some ⟨true, 1, 24, [(.slice none 0 0)]⟩ := by kernel_rfl
theorem pl53 : placesI Try.prog 53 = some [(0, 1)] := by kernel_rfl
theorem fl53_0 : fldI Try.prog 53 0 = some ⟨0, 1, false⟩ := by kernel_rfl
theorem ty54 : tyI Try.prog 54 = some ⟨false, 1, 8, [.nilFunc]⟩ := by kernel_rfl
theorem ty55 : tyI Try.prog 55 = some ⟨false, 1, 8, [.nilFunc]⟩ := by kernel_rfl
theorem ty56 : tyI Try.prog 56 = some ⟨false, 1, 8, [.nilFunc]⟩ := by kernel_rfl
theorem ty57 : tyI Try.prog 57 = some ⟨false, 1, 8, [.nilFunc]⟩ := by kernel_rfl
theorem ty58 : tyI Try.prog 58 = some ⟨false, 1, 8, [.nilFunc]⟩ := by kernel_rfl
theorem ty59 : tyI Try.prog 59 = some ⟨false, 1, 8, [.nilFunc]⟩ := by kernel_rfl
theorem ty60 : tyI Try.prog 60 = some ⟨false, 1, 8, [.nilFunc]⟩ := by kernel_rfl
theorem ty61 : tyI Try.prog 61 = some ⟨false, 1, 8, [.nilFunc]⟩ := by kernel_rfl
theorem ty62 : tyI Try.prog 62 = some ⟨false, 1, 8, [.nilFunc]⟩ := by kernel_rfl
theorem ty63 : tyI Try.prog 63 = some ⟨false, 1, 8, [.nilFunc]⟩ := by kernel_rfl
theorem ty64 : tyI Try.prog 64 = some ⟨false, 1, 8, [.nilFunc]⟩ := by kernel_rfl
theorem ty65 : tyI Try.prog 65 = some ⟨false, 1, 8, [.nilFunc]⟩ := by kernel_rfl
theorem ty67 : tyI Try.prog 67 = some ⟨false, 1, 8, [.nilFunc]⟩ := by kernel_rfl
theorem ty68 : tyI Try.prog 68 = some ⟨false, 1, 24, [(.slice none 0 0)]⟩ := by kernel_rfl
theorem sl68 : sliceE Try.prog 68 = some 94 := by kernel_rfl
theorem ty69 : tyI Try.prog 69 = some ⟨false, 1, 8, [.nilFunc]⟩ := by kernel_rfl
theorem ty70 : tyI Try.prog 70 = some ⟨false, 1, 8, [.nilFunc]⟩ := by kernel_rfl
theorem ty71 : tyI Try.prog 71 = some ⟨false, 1, 8, [.nilFunc]⟩ := by kernel_rfl
theorem ty72 : tyI Try.prog 72 = some ⟨false, 1, 8, [.nilFunc]⟩ := by kernel_rfl
theorem ty73 : tyI Try.prog 73 = some ⟨false, 1, 8, [.nilFunc]⟩ := by kernel_rfl
theorem ty74 : tyI Try.prog 74 = some ⟨false, 1, 8, [.nilFunc]⟩ := by kernel_rfl
theorem ty75 : tyI Try.prog 75 = some ⟨false, 1, 8, [.nilFunc]⟩ := by kernel_rfl
theorem ty76 : tyI Try.prog 76 = some ⟨false, 1, 8, [.nilFunc]⟩ := by kernel_rfl
theorem ty77 : tyI Try.prog 77 = some ⟨false, 1, 8, [.nilFunc]⟩ := by kernel_rfl
theorem ty78 : tyI Try.prog 78 = some ⟨false, 1, 24, [(.slice none 0 0)]⟩ := by kernel_rfl
theorem sl78 : sliceE Try.prog 78 = some 80 := by kernel_rfl
theorem ty79 : tyI Try.prog 79 = some ⟨true, 4, 32, [(.int .i64 0), (.int .i64 0), (.int .i64 0), (.int .i64 0)]⟩ := by kernel_rfl
theorem pl79 : placesI Try.prog 79 = some [(0, 1), (1, 1), (2, 1), (3, 1)] := by kernel_rfl
theorem fl79_0 : fldI Try.prog 79 0 = some ⟨0, 1, false⟩ := by kernel_rfl
theorem fl79_1 : fldI Try.prog 79 1 = some ⟨1, 1, false⟩ := by kernel_rfl
theorem fl79_2 : fldI Try.prog 79 2 = some ⟨2, 1, false⟩ := by kernel_rfl
theorem fl79_3 : fldI Try.prog 79 3 = some ⟨3, 1, false⟩ := by kernel_rfl
theorem ty80 : tyI Try.prog 80 = some ⟨true, 4, 32, [(.int .i64 0), (.int .i64 0), (.int .i64 0), (.int .i64 0)]⟩ := by kernel_rfl
theorem pl80 : placesI Try.prog 80 = some [(0, 1), (1, 1), (2, 1), (3, 1)] := by kernel_rfl
theorem fl80_0 : fldI Try.prog 80 0 = some ⟨0, 1, false⟩ := by kernel_rfl
theorem fl80_1 : fldI Try.prog 80 1 = some ⟨1, 1, false⟩ := by kernel_rfl
theorem fl80_2 : fldI Try.prog 80 2 = some ⟨2, 1, false⟩ := by kernel_rfl
theorem fl80_3 : fldI Try.prog 80 3 = some ⟨3, 1, false⟩ := by kernel_rfl
theorem ty82 : tyI Try.prog 82 = some ⟨false, 1, 8, [.nilFunc]⟩ := by kernel_rfl
theorem ty83 : tyI Try.prog 83 = some ⟨false, 1, 8, [.nilFunc]⟩ := by kernel_rfl
theorem ty84 : tyI Try.prog 84 = some ⟨false, 1, 8, [.nilFunc]⟩ := by kernel_rfl
theorem ty85 : tyI Try.prog 85 = some ⟨false, 1, 8, [.nilFunc]⟩ := by kernel_rfl
theorem ty86 : tyI Try.prog 86 = some ⟨false, 1, 8, [.nilFunc]⟩ := by kernel_rfl
theorem ty87 : tyI Try.prog 87 = some ⟨false, 1, 8, [.nilFunc]⟩ := by kernel_rfl
theorem ty88 : tyI Try.prog 88 = some ⟨false, 1, 8, [.nilFunc]⟩ := by kernel_rfl
theorem ty89 : tyI Try.prog 89 = some ⟨false, 1, 8, [.nilFunc]⟩ := by kernel_rfl
theorem ty90 : tyI Try.prog 90 = some ⟨false, 1, 8, [.nilFunc]⟩ := by kernel_rfl
theorem ty91 : tyI Try.prog 91 = some ⟨false, 1, 8, [.nilFunc]⟩ := by kernel_rfl
theorem ty92 : tyI Try.prog 92 = some ⟨false, 1, 8, [.nilFunc]⟩ := by kernel_rfl
theorem ty93 : tyI Try.prog 93 = some ⟨true, 5, 32, [(.int .i64 0), (.int .i64 0), (.int .i64 0), (.bool false), (.bool false)]⟩ := by kernel_rfl
theorem pl93 : placesI Try.prog 93 = some [(0, 1), (1, 1), (2, 1), (3, 1), (4, 1)] := by kernel_rfl
theorem fl93_0 : fldI Try.prog 93 0 = some ⟨0, 1, false⟩ := by kernel_rfl
theorem fl93_1 : fldI Try.prog 93 1 = some ⟨1, 1, false⟩ := by kernel_rfl
theorem fl93_2 : fldI Try.prog 93 2 = some ⟨2, 1, false⟩ := by kernel_rfl
theorem fl93_3 : fldI Try.prog 93 3 = some ⟨3, 1, false⟩ := by kernel_rfl
theorem fl93_4 : fldI Try.prog 93 4 = some ⟨4, 1, false⟩ := by kernel_rfl
theorem ty94 : tyI Try.prog 94 = some ⟨true, 5, 32, [(.int .i64 0), (.int .i64 0), (.int .i64 0), (.bool false), (.bool false)]⟩ := by kernel_rfl
theorem pl94 : placesI Try.prog 94 = some [(0, 1), (1, 1), (2, 1), (3, 1), (4, 1)] := by kernel_rfl
theorem fl94_0 : fldI Try.prog 94 0 = some ⟨0, 1, false⟩ := by kernel_rfl
theorem fl94_1 : fldI Try.prog 94 1 = some ⟨1, 1, false⟩ := by kernel_rfl
theorem fl94_2 : fldI Try.prog 94 2 = some ⟨2, 1, false⟩ := by kernel_rfl
theorem fl94_3 : fldI Try.prog 94 3 = some ⟨3, 1, false⟩ := by kernel_rfl
theorem fl94_4 : fldI Try.prog 94 4 = some ⟨4, 1, false⟩ := by kernel_rfl
theorem ty95 : tyI Try.prog 95 = some ⟨false, 1, 8, [.nilFunc]⟩ := by kernel_rfl
theorem ty96 : tyI Try.prog 96 = some ⟨false, 1, 8, [.nilFunc]⟩ := by kernel_rfl
theorem ty97 : tyI Try.prog 97 = some ⟨false, 1, 8, [.nilFunc]⟩ := by kernel_rfl
theorem ty98 : tyI Try.prog 98 = some ⟨false, 1, 8, [.nilFunc]⟩ := by kernel_rfl
theorem ty99 : tyI Try.prog 99 = some ⟨false, 1, 8, [.nilFunc]⟩ := by kernel_rfl
theorem ty100 : tyI Try.prog 100 = some ⟨false, 1, 8, [(.pointer none)]⟩ := by kernel_rfl
theorem pt100 : isPtr Try.prog 100 = true := by kernel_rfl
theorem ty101 : tyI Try.prog 101 = some ⟨false, 1, 8, [.nilFunc]⟩ := by kernel_rfl
theorem ty102 : tyI Try.prog 102 = some ⟨false, 1, 8, [.nilFunc]⟩ := by kernel_rfl
theorem ty103 : tyI Try.prog 103 = some ⟨false, 1, 8, [.nilFunc]⟩ := by kernel_rfl
theorem ty104 : tyI Try.prog 104 = some ⟨false, 1, 8, [.nilFunc]⟩ := by kernel_rfl
theorem ty105 : tyI Try.prog 105 = some ⟨false, 1, 8, [.nilFunc]⟩ := by kernel_rfl
theorem ty106 : tyI Try.prog 106 = some ⟨false, 1, 8, [.nilFunc]⟩ := by kernel_rfl
theorem ty107 : tyI Try.prog 107 = some ⟨false, 1, 8, [.nilFunc]⟩ := by kernel_rfl
theorem ty109 : tyI Try.prog 109 = some ⟨false, 1, 8, [.nilFunc]⟩ := by kernel_rfl
theorem ty110 : tyI Try.prog 110 = some ⟨false, 1, 8, [.nilFunc]⟩ := by kernel_rfl
theorem ty111 : tyI Try.prog 111 = some ⟨false, 1, 24, [(.slice none 0 0)]⟩ := by kernel_rfl
theorem sl111 : sliceE Try.prog 111 = some 115 := by kernel_rfl
theorem ty112 : tyI Try.prog 112 = some ⟨false, 1, 8, [.nilFunc]⟩ := by kernel_rfl
theorem ty113 : tyI Try.prog 113 = some ⟨false, 1, 8, [.nilFunc]⟩ := by kernel_rfl
theorem ty114 : tyI Try.prog 114 = some ⟨true, 3, 24, [(.int .i64 0), (.int .i64 0), (.bool false)]⟩ := by kernel_rfl
theorem pl114 : placesI Try.prog 114 = some [(0, 1), (1, 1), (2, 1)] := by kernel_rfl
theorem fl114_0 : fldI Try.prog 114 0 = some ⟨0, 1, false⟩ := by kernel_rfl
theorem fl114_1 : fldI Try.prog 114 1 = some ⟨1, 1, false⟩ := by kernel_rfl
theorem fl114_2 : fldI Try.prog 114 2 = some ⟨2, 1, false⟩ := by kernel_rfl
theorem ty115 : tyI Try.prog 115 = some ⟨true, 3, 24, [(.int .i64 0), (.int .i64 0), (.bool false)]⟩ := by kernel_rfl
theorem pl115 : placesI Try.prog 115 = some [(0, 1), (1, 1), (2, 1)] := by kernel_rfl
theorem fl115_0 : fldI Try.prog 115 0 = some ⟨0, 1, false⟩ := by kernel_rfl
theorem fl115_1 : fldI Try.prog 115 1 = some ⟨1, 1, false⟩ := by kernel_rfl
theorem fl115_2 : fldI Try.prog 115 2 = some ⟨2, 1, false⟩ := by kernel_rfl
theorem ty116 : tyI Try.prog 116 = some ⟨false, 1, 8, [.nilFunc]⟩ := by kernel_rfl
theorem ty117 : tyI Try.prog 117 = some ⟨false, 1, 8, [.nilFunc]⟩ := by kernel_rfl
theorem ty118 : tyI Try.prog 118 = some ⟨false, 1, 8, [.nilFunc]⟩ := by kernel_rfl
theorem ty119 : tyI Try.prog 119 = some ⟨false, 1, 8, [.nilFunc]⟩ := by kernel_rfl
theorem ty120 : tyI Try.prog 120 = some ⟨false, 1, 8, [.nilFunc]⟩ := by kernel_rfl
theorem ty121 : tyI Try.prog 121 = some ⟨false, 1, 8, [(.map none)]⟩ := by kernel_rfl
theorem ty122 : tyI Try.prog 122 = some ⟨false, 1, 8, [.nilFunc]⟩ := by kernel_rfl
theorem ty123 : tyI Try.prog 123 = some ⟨false, 1, 8, [.nilFunc]⟩ := by kernel_rfl
theorem ty124 : tyI Try.prog 124 = some ⟨false, 1, 8, [.nilFunc]⟩ := by kernel_rfl
theorem ty125 : tyI Try.prog 125 = some ⟨false, 1, 8, [.nilFunc]⟩ := by kernel_rfl
theorem ty126 : tyI Try.prog 126 = some ⟨false, 1, 8, [.nilFunc]⟩ := by kernel_rfl
theorem ty127 : tyI Try.prog 127 = some ⟨false, 1, 8, [.nilFunc]⟩ := by kernel_rfl
theorem ty128 : tyI Try.prog 128 = some ⟨false, 1, 8, [.nilFunc]⟩ := by kernel_rfl
theorem ty129 : tyI Try.prog 129 = some ⟨false, 1, 8, [.nilFunc]⟩ := by kernel_rfl
theorem ty130 : tyI Try.prog 130 = some ⟨false, 1, 8, [.nilFunc]⟩ := by kernel_rfl
theorem ty131 : tyI Try.prog 131 = some ⟨false, 1, 8, [.nilFunc]⟩ := by kernel_rfl
theorem ty132 : tyI Try.prog 132 = some ⟨false, 1, 8, [.nilFunc]⟩ := by kernel_rfl
theorem ty133 : tyI Try.prog 133 = some ⟨false, 1, 8, [.nilFunc]⟩ := by kernel_rfl
theorem ty134 : tyI Try.prog 134 = some ⟨false, 1, 8, [.nilFunc]⟩ := by kernel_rfl
theorem ty135 : tyI Try.prog 135 = some ⟨false, 1, 8, [.nilFunc]⟩ := by kernel_rfl
theorem ty136 : tyI Try.prog 136 = some ⟨false, 1, 8, [.nilFunc]⟩ := by kernel_rfl
theorem ty137 : tyI Try.prog 137 = some ⟨false, 1, 8, [.nilFunc]⟩ := by kernel_rfl
theorem ty138 : tyI Try.prog 138 = some ⟨false, 1, 8, [.nilFunc]⟩ := by kernel_rfl
theorem ty139 : tyI Try.prog 139 = some ⟨false, 1, 8, [.nilFunc]⟩ := by kernel_rfl
theorem ty140 : tyI Try.prog 140 = some ⟨false, 1, 8, [.nilFunc]⟩ := by kernel_rfl
theorem ty141 : tyI Try.prog 141 = some ⟨false, 1, 8, [.nilFunc]⟩ := by kernel_rfl
theorem ty142 : tyI Try.prog 142 = some ⟨false, 1, 8, [.nilFunc]⟩ := by kernel_rfl
theorem ty143 : tyI Try.prog 143 = some ⟨false, 1, 8, [.nilFunc]⟩ := by kernel_rfl
theorem ty144 : tyI Try.prog 144 = some ⟨false, 1, 8, [.nilFunc]⟩ := by kernel_rfl
theorem ty145 : tyI Try.prog 145 = some ⟨false, 1, 8, [.nilFunc]⟩ := by kernel_rfl
theorem ty146 : tyI Try.prog 146 = some ⟨false, 1, 8, [.nilFunc]⟩ := by kernel_rfl
theorem ty147 : tyI Try.prog 147 = some ⟨false, 1, 8, [.nilFunc]⟩ := by kernel_rfl
theorem ty148 : tyI Try.prog 148 = some ⟨false, 1, 8, [.nilFunc]⟩ := by kernel_rfl
theorem ty149 : tyI Try.prog 149 = some ⟨false, 1, 8, [.nilFunc]⟩ := by kernel_rfl
theorem ty150 : tyI Try.prog 150 = some ⟨true, 4, 40, [(.pointer none), (.pointer none), (.pointer none), (.string ⟨#[]⟩)]⟩ := by kernel_rfl
theorem pl150 : placesI Try.prog 150 = some [(0, 1), (1, 1), (2, 1), (3, 1)] := by kernel_rfl
theorem fl150_0 : fldI Try.prog 150 0 = some ⟨0, 1, false⟩ := by kernel_rfl
theorem fl150_1 : fldI Try.prog 150 1 = some ⟨1, 1, false⟩ := by kernel_rfl
theorem fl150_2 : fldI Try.prog 150 2 = some ⟨2, 1, false⟩ := by kernel_rfl
theorem fl150_3 : fldI Try.prog 150 3 = some ⟨3, 1, false⟩ := by kernel_rfl
theorem ty151 : tyI Try.prog 151 = some ⟨true, 4, 40, [(.pointer none), (.pointer none), (.pointer none), (.string ⟨#[]⟩)]⟩ := by kernel_rfl
theorem pl151 : placesI Try.prog 151 = some [(0, 1), (1, 1), (2, 1), (3, 1)] := by kernel_rfl
theorem fl151_0 : fldI Try.prog 151 0 = some ⟨0, 1, false⟩ := by kernel_rfl
theorem fl151_1 : fldI Try.prog 151 1 = some ⟨1, 1, false⟩ := by kernel_rfl
theorem fl151_2 : fldI Try.prog 151 2 = some ⟨2, 1, false⟩ := by kernel_rfl
theorem fl151_3 : fldI Try.prog 151 3 = some ⟨3, 1, false⟩ := by kernel_rfl
theorem ty152 : tyI Try.prog 152 = some ⟨true, 0, 0, []⟩ := by kernel_rfl
theorem ty153 : tyI Try.prog 153 = some ⟨true, 0, 0, []⟩ := by kernel_rfl
theorem pl153 : placesI Try.prog 153 = some [(0, 0)] := by kernel_rfl
theorem fl153_0 : fldI Try.prog 153 0 = some ⟨0, 0, true⟩ := by kernel_rfl
theorem ty154 : tyI Try.prog 154 = some ⟨true, 0, 0, []⟩ := by kernel_rfl
theorem pl154 : placesI Try.prog 154 = some [(0, 0)] := by kernel_rfl
theorem fl154_0 : fldI Try.prog 154 0 = some ⟨0, 0, true⟩ := by kernel_rfl
theorem ty155 : tyI Try.prog 155 = some ⟨false, 1, 4, [(.int .u32 0)]⟩ := by kernel_rfl
theorem ty156 : tyI Try.prog 156 = some ⟨false, 1, 1, [(.int .u8 0)]⟩ := by kernel_rfl
theorem ty157 : tyI Try.prog 157 = some ⟨false, 1, 1, [(.int .u8 0)]⟩ := by kernel_rfl
theorem ty158 : tyI Try.prog 158 = some ⟨false, 1, 8, [.nilFunc]⟩ := by kernel_rfl
theorem ty159 : tyI Try.prog 159 = some ⟨false, 1, 8, [(.pointer none)]⟩ := by kernel_rfl
theorem pt159 : isPtr Try.prog 159 = true := by kernel_rfl
theorem ty160 : tyI Try.prog 160 = some ⟨false, 1, 4, [(.int .i32 0)]⟩ := by kernel_rfl
theorem ty161 : tyI Try.prog 161 = some ⟨false, 1, 4, [(.int .i32 0)]⟩ := by kernel_rfl
theorem ty162 : tyI Try.prog 162 = some ⟨true, 11, 48, [(.int .u64 0), (.int .u64 0), (.int .u32 0), (.int .u8 0), (.int .u8 0), (.int .u8 0), (.int .u8 0), .nilFunc, (.pointer none), (.int .i32 0), (.int .i32 0)]⟩ := by kernel_rfl
theorem pl162 : placesI Try.prog 162 = some [(0, 1), (1, 1), (2, 1), (3, 1), (4, 1), (5, 1), (6, 1), (7, 1), (8, 1), (9, 1), (10, 1)] := by kernel_rfl
theorem fl162_0 : fldI Try.prog 162 0 = some ⟨0, 1, false⟩ := by kernel_rfl
theorem fl162_1 : fldI Try.prog 162 1 = some ⟨1, 1, false⟩ := by kernel_rfl
theorem fl162_2 : fldI Try.prog 162 2 = some ⟨2, 1, false⟩ := by kernel_rfl
theorem fl162_3 : fldI Try.prog 162 3 = some ⟨3, 1, false⟩ := by kernel_rfl
theorem fl162_4 : fldI Try.prog 162 4 = some ⟨4, 1, false⟩ := by kernel_rfl
theorem fl162_5 : fldI Try.prog 162 5 = some ⟨5, 1, false⟩ := by kernel_rfl
theorem fl162_6 : fldI Try.prog 162 6 = some ⟨6, 1, false⟩ := by kernel_rfl
theorem fl162_7 : fldI Try.prog 162 7 = some ⟨7, 1, false⟩ := by kernel_rfl
theorem fl162_8 : fldI Try.prog 162 8 = some ⟨8, 1, false⟩ := by kernel_rfl
theorem fl162_9 : fldI Try.prog 162 9 = some ⟨9, 1, false⟩ := by kernel_rfl
theorem fl162_10 : fldI Try.prog 162 10 = some ⟨10, 1, false⟩ := by kernel_rfl
theorem ty163 : tyI Try.prog 163 = some ⟨true, 11, 48, [(.int .u64 0), (.int .u64 0), (.int .u32 0), (.int .u8 0), (.int .u8 0), (.int .u8 0), (.int .u8 0), .nilFunc, (.pointer none), (.int .i32 0), (.int .i32 0)]⟩ := by kernel_rfl
theorem pl163 : placesI Try.prog 163 = some [(0, 1), (1, 1), (2, 1), (3, 1), (4, 1), (5, 1), (6, 1), (7, 1), (8, 1), (9, 1), (10, 1)] := by kernel_rfl
theorem fl163_0 : fldI Try.prog 163 0 = some ⟨0, 1, false⟩ := by kernel_rfl
theorem fl163_1 : fldI Try.prog 163 1 = some ⟨1, 1, false⟩ := by kernel_rfl
theorem fl163_2 : fldI Try.prog 163 2 = some ⟨2, 1, false⟩ := by kernel_rfl
theorem fl163_3 : fldI Try.prog 163 3 = some ⟨3, 1, false⟩ := by kernel_rfl
theorem fl163_4 : fldI Try.prog 163 4 = some ⟨4, 1, false⟩ := by kernel_rfl
theorem fl163_5 : fldI Try.prog 163 5 = some ⟨5, 1, false⟩ := by kernel_rfl
theorem fl163_6 : fldI Try.prog 163 6 = some ⟨6, 1, false⟩ := by kernel_rfl
theorem fl163_7 : fldI Try.prog 163 7 = some ⟨7, 1, false⟩ := by kernel_rfl
theorem fl163_8 : fldI Try.prog 163 8 = some ⟨8, 1, false⟩ := by kernel_rfl
theorem fl163_9 : fldI Try.prog 163 9 = some ⟨9, 1, false⟩ := by kernel_rfl
theorem fl163_10 : fldI Try.prog 163 10 = some ⟨10, 1, false⟩ := by kernel_rfl
theorem ty164 : tyI Try.prog 164 = some ⟨false, 1, 8, [(.pointer none)]⟩ := by kernel_rfl
inductive Tr (α : Type) where
  | nil
  | node (k : Nat) (v : α) (l r : Tr α)
def lookT {α : Type} : Tr α → Nat → Option α
  | .nil, _ => none
  | .node k v l r, n => bif Nat.beq k n then some v else bif Nat.blt n k then lookT l n else lookT r n
def Tr.All {α : Type} (p : Nat → α → Prop) : Tr α → Prop
  | .nil => True
  | .node k v l r => p k v ∧ l.All p ∧ r.All p
theorem Tr.All.look {α : Type} {p : Nat → α → Prop} : ∀ {t : Tr α} {n : Nat} {x : α}, t.All p → lookT t n = some x → p n x
  | .nil, n, x, _, h => by cases h
  | .node k v l r, n, x, ha, h => by
    simp only [lookT] at h
    cases hb : Nat.beq k n with
    | true =>
      rw [hb] at h
      cases h
      have := Nat.eq_of_beq_eq_true hb
      subst this
      exact ha.1
    | false =>
      rw [hb, cond_false] at h
      cases hc : Nat.blt n k with
      | true => rw [hc, cond_true] at h; exact Tr.All.look ha.2.1 h
      | false => rw [hc, cond_false] at h; exact Tr.All.look ha.2.2 h
def tyTab : Tr (TyI) := (.node 85 ⟨false, 1, 8, [.nilFunc]⟩ (.node 44 ⟨false, 1, 8, [.nilFunc]⟩ (.node 21 ⟨false, 1, 4, [(.int .i32 0)]⟩ (.node 10 ⟨false, 1, 16, [(.string ⟨#[]⟩)]⟩ (.node 5 ⟨false, 1, 1, [(.int .u8 0)]⟩ (.node 3 ⟨false, 1, 8, [(.int .i64 0)]⟩ (.node 2 ⟨false, 1, 8, [(.int .i64 0)]⟩ (.node 1 ⟨false, 1, 8, [.nilFunc]⟩ .nil .nil) .nil) (.node 4 ⟨false, 1, 1, [(.bool false)]⟩ .nil .nil)) (.node 8 ⟨true, 4, 24, [(.int .i64 0), (.int .i64 0), (.bool false), (.int .u8 0)]⟩ (.node 7 ⟨true, 4, 24, [(.int .i64 0), (.int .i64 0), (.bool false), (.int .u8 0)]⟩ (.node 6 ⟨false, 1, 1, [(.int .u8 0)]⟩ .nil .nil) .nil) (.node 9 ⟨false, 1, 16, [(.string ⟨#[]⟩)]⟩ .nil .nil))) (.node 15 ⟨false, 1, 8, [(.pointer none)]⟩ (.node 13 ⟨true, 2, 24, [(.string ⟨#[]⟩), (.int .u64 0)]⟩ (.node 12 ⟨false, 1, 8, [(.int .u64 0)]⟩ (.node 11 ⟨false, 1, 16, [(.string ⟨#[]⟩)]⟩ .nil .nil) .nil) (.node 14 ⟨true, 2, 24, [(.string ⟨#[]⟩), (.int .u64 0)]⟩ .nil .nil)) (.node 18 ⟨true, 1, 8, [(.pointer none)]⟩ (.node 17 ⟨false, 1, 8, [(.pointer none)]⟩ (.node 16 ⟨false, 1, 8, [(.pointer none)]⟩ .nil .nil) .nil) (.node 19 ⟨true, 1, 8, [(.pointer none)]⟩ .nil .nil)))) (.node 32 ⟨true, 9, 104, [(.int .i64 0), (.int .i64 0), (.int .i64 0), (.int .i64 0), (.int .i64 0), (.bool false), (.string ⟨#[]⟩), (.string ⟨#[]⟩), (.slice none 0 0)]⟩ (.node 26 ⟨false, 1, 8, [.nilFunc]⟩ (.node 24 ⟨false, 1, 8, [.nilFunc]⟩ (.node 23 ⟨false, 1, 8, [.nilFunc]⟩ (.node 22 ⟨false, 1, 24, [(.slice none 0 0)]⟩ .nil .nil) .nil) (.node 25 ⟨false, 1, 8, [(.pointer none)]⟩ .nil .nil)) (.node 30 ⟨false, 1, 8, [.nilFunc]⟩ (.node 28 ⟨false, 1, 8, [(.int .i64 0)]⟩ (.node 27 ⟨false, 1, 24, [(.slice none 0 0)]⟩ .nil .nil) .nil) (.node 31 ⟨false, 1, 24, [(.slice none 0 0)]⟩ .nil .nil))) (.node 38 ⟨false, 1, 8, [.nilFunc]⟩ (.node 35 ⟨true, 14, 168, [(.int .i64 0), (.int .i64 0), (.int .i64 0), (.string ⟨#[]⟩), (.int .i64 0), (.int .i64 0), (.int .i64 0), (.int .i64 0), (.int .i64 0), (.bool false), (.string ⟨#[]⟩), (.string ⟨#[]⟩), (.slice none 0 0), (.slice none 0 0)]⟩ (.node 34 ⟨true, 14, 168, [(.int .i64 0), (.int .i64 0), (.int .i64 0), (.string ⟨#[]⟩), (.int .i64 0), (.int .i64 0), (.int .i64 0), (.int .i64 0), (.int .i64 0), (.bool false), (.string ⟨#[]⟩), (.string ⟨#[]⟩), (.slice none 0 0), (.slice none 0 0)]⟩ (.node 33 ⟨true, 9, 104, [(.int .i64 0), (.int .i64 0), (.int .i64 0), (.int .i64 0), (.int .i64 0), (.bool false), (.string ⟨#[]⟩), (.string ⟨#[]⟩), (.slice none 0 0)]⟩ .nil .nil) .nil) (.node 37 ⟨false, 1, 8, [.nilFunc]⟩ .nil .nil)) (.node 42 ⟨false, 1, 8, [.nilFunc]⟩ (.node 41 ⟨false, 1, 8, [.nilFunc]⟩ (.node 40 ⟨false, 1, 8, [.nilFunc]⟩ .nil .nil) .nil) (.node 43 ⟨false, 1, 8, [.nilFunc]⟩ .nil .nil))))) (.node 64 ⟨false, 1, 8, [.nilFunc]⟩ (.node 54 ⟨false, 1, 8, [.nilFunc]⟩ (.node 49 ⟨false, 1, 8, [.nilFunc]⟩ (.node 47 ⟨false, 1, 8, [.nilFunc]⟩ (.node 46 ⟨false, 1, 8, [.nilFunc]⟩ (.node 45 ⟨false, 1, 8, [.nilFunc]⟩ .nil .nil) .nil) (.node 48 ⟨false, 1, 8, [.nilFunc]⟩ .nil .nil)) (.node 52 ⟨true, 1, 24, [(.slice none 0 0)]⟩ (.node 51 ⟨false, 1, 8, [.nilFunc]⟩ (.node 50 ⟨false, 1, 8, [.nilFunc]⟩ .nil .nil) .nil) (.node 53 ⟨true, 1, 24, [(.slice none 0 0)]⟩ .nil .nil))) (.node 59 ⟨false, 1, 8, [.nilFunc]⟩ (.node 57 ⟨false, 1, 8, [.nilFunc]⟩ (.node 56 ⟨false, 1, 8, [.nilFunc]⟩ (.node 55 ⟨false, 1, 8, [.nilFunc]⟩ .nil .nil) .nil) (.node 58 ⟨false, 1, 8, [.nilFunc]⟩ .nil .nil)) (.node 62 ⟨false, 1, 8, [.nilFunc]⟩ (.node 61 ⟨false, 1, 8, [.nilFunc]⟩ (.node 60 ⟨false, 1, 8, [.nilFunc]⟩ .nil .nil) .nil) (.node 63 ⟨false, 1, 8, [.nilFunc]⟩ .nil .nil)))) (.node 75 ⟨false, 1, 8, [.nilFunc]⟩ (.node 70 ⟨false, 1, 8, [.nilFunc]⟩ (.node 68 ⟨false, 1, 24, [(.slice none 0 0)]⟩ (.node 67 ⟨false, 1, 8, [.nilFunc]⟩ (.node 65 ⟨false, 1, 8, [.nilFunc]⟩ .nil .nil) .nil) (.node 69 ⟨false, 1, 8, [.nilFunc]⟩ .nil .nil)) (.node 73 ⟨false, 1, 8, [.nilFunc]⟩ (.node 72 ⟨false, 1, 8, [.nilFunc]⟩ (.node 71 ⟨false, 1, 8, [.nilFunc]⟩ .nil .nil) .nil) (.node 74 ⟨false, 1, 8, [.nilFunc]⟩ .nil .nil))) (.node 80 ⟨true, 4, 32, [(.int .i64 0), (.int .i64 0), (.int .i64 0), (.int .i64 0)]⟩ (.node 78 ⟨false, 1, 24, [(.slice none 0 0)]⟩ (.node 77 ⟨false, 1, 8, [.nilFunc]⟩ (.node 76 ⟨false, 1, 8, [.nilFunc]⟩ .nil .nil) .nil) (.node 79 ⟨true, 4, 32, [(.int .i64 0), (.int .i64 0), (.int .i64 0), (.int .i64 0)]⟩ .nil .nil)) (.node 83 ⟨false, 1, 8, [.nilFunc]⟩ (.node 82 ⟨false, 1, 8, [.nilFunc]⟩ .nil .nil) (.node 84 ⟨false, 1, 8, [.nilFunc]⟩ .nil .nil)))))) (.node 126 ⟨false, 1, 8, [.nilFunc]⟩ (.node 105 ⟨false, 1, 8, [.nilFunc]⟩ (.node 95 ⟨false, 1, 8, [.nilFunc]⟩ (.node 90 ⟨false, 1, 8, [.nilFunc]⟩ (.node 88 ⟨false, 1, 8, [.nilFunc]⟩ (.node 87 ⟨false, 1, 8, [.nilFunc]⟩ (.node 86 ⟨false, 1, 8, [.nilFunc]⟩ .nil .nil) .nil) (.node 89 ⟨false, 1, 8, [.nilFunc]⟩ .nil .nil)) (.node 93 ⟨true, 5, 32, [(.int .i64 0), (.int .i64 0), (.int .i64 0), (.bool false), (.bool false)]⟩ (.node 92 ⟨false, 1, 8, [.nilFunc]⟩ (.node 91 ⟨false, 1, 8, [.nilFunc]⟩ .nil .nil) .nil) (.node 94 ⟨true, 5, 32, [(.int .i64 0), (.int .i64 0), (.int .i64 0), (.bool false), (.bool false)]⟩ .nil .nil))) (.node 100 ⟨false, 1, 8, [(.pointer none)]⟩ (.node 98 ⟨false, 1, 8, [.nilFunc]⟩ (.node 97 ⟨false, 1, 8, [.nilFunc]⟩ (.node 96 ⟨false, 1, 8, [.nilFunc]⟩ .nil .nil) .nil) (.node 99 ⟨false, 1, 8, [.nilFunc]⟩ .nil .nil)) (.node 103 ⟨false, 1, 8, [.nilFunc]⟩ (.node 102 ⟨false, 1, 8, [.nilFunc]⟩ (.node 101 ⟨false, 1, 8, [.nilFunc]⟩ .nil .nil) .nil) (.node 104 ⟨false, 1, 8, [.nilFunc]⟩ .nil .nil)))) (.node 116 ⟨false, 1, 8, [.nilFunc]⟩ (.node 111 ⟨false, 1, 24, [(.slice none 0 0)]⟩ (.node 109 ⟨false, 1, 8, [.nilFunc]⟩ (.node 107 ⟨false, 1, 8, [.nilFunc]⟩ (.node 106 ⟨false, 1, 8, [.nilFunc]⟩ .nil .nil) .nil) (.node 110 ⟨false, 1, 8, [.nilFunc]⟩ .nil .nil)) (.node 114 ⟨true, 3, 24, [(.int .i64 0), (.int .i64 0), (.bool false)]⟩ (.node 113 ⟨false, 1, 8, [.nilFunc]⟩ (.node 112 ⟨false, 1, 8, [.nilFunc]⟩ .nil .nil) .nil) (.node 115 ⟨true, 3, 24, [(.int .i64 0), (.int .i64 0), (.bool false)]⟩ .nil .nil))) (.node 121 ⟨false, 1, 8, [(.map none)]⟩ (.node 119 ⟨false, 1, 8, [.nilFunc]⟩ (.node 118 ⟨false, 1, 8, [.nilFunc]⟩ (.node 117 ⟨false, 1, 8, [.nilFunc]⟩ .nil .nil) .nil) (.node 120 ⟨false, 1, 8, [.nilFunc]⟩ .nil .nil)) (.node 124 ⟨false, 1, 8, [.nilFunc]⟩ (.node 123 ⟨false, 1, 8, [.nilFunc]⟩ (.node 122 ⟨false, 1, 8, [.nilFunc]⟩ .nil .nil) .nil) (.node 125 ⟨false, 1, 8, [.nilFunc]⟩ .nil .nil))))) (.node 146 ⟨false, 1, 8, [.nilFunc]⟩ (.node 136 ⟨false, 1, 8, [.nilFunc]⟩ (.node 131 ⟨false, 1, 8, [.nilFunc]⟩ (.node 129 ⟨false, 1, 8, [.nilFunc]⟩ (.node 128 ⟨false, 1, 8, [.nilFunc]⟩ (.node 127 ⟨false, 1, 8, [.nilFunc]⟩ .nil .nil) .nil) (.node 130 ⟨false, 1, 8, [.nilFunc]⟩ .nil .nil)) (.node 134 ⟨false, 1, 8, [.nilFunc]⟩ (.node 133 ⟨false, 1, 8, [.nilFunc]⟩ (.node 132 ⟨false, 1, 8, [.nilFunc]⟩ .nil .nil) .nil) (.node 135 ⟨false, 1, 8, [.nilFunc]⟩ .nil .nil))) (.node 141 ⟨false, 1, 8, [.nilFunc]⟩ (.node 139 ⟨false, 1, 8, [.nilFunc]⟩ (.node 138 ⟨false, 1, 8, [.nilFunc]⟩ (.node 137 ⟨false, 1, 8, [.nilFunc]⟩ .nil .nil) .nil) (.node 140 ⟨false, 1, 8, [.nilFunc]⟩ .nil .nil)) (.node 144 ⟨false, 1, 8, [.nilFunc]⟩ (.node 143 ⟨false, 1, 8, [.nilFunc]⟩ (.node 142 ⟨false, 1, 8, [.nilFunc]⟩ .nil .nil) .nil) (.node 145 ⟨false, 1, 8, [.nilFunc]⟩ .nil .nil)))) (.node 156 ⟨false, 1, 1, [(.int .u8 0)]⟩ (.node 151 ⟨true, 4, 40, [(.pointer none), (.pointer none), (.pointer none), (.string ⟨#[]⟩)]⟩ (.node 149 ⟨false, 1, 8, [.nilFunc]⟩ (.node 148 ⟨false, 1, 8, [.nilFunc]⟩ (.node 147 ⟨false, 1, 8, [.nilFunc]⟩ .nil .nil) .nil) (.node 150 ⟨true, 4, 40, [(.pointer none), (.pointer none), (.pointer none), (.string ⟨#[]⟩)]⟩ .nil .nil)) (.node 154 ⟨true, 0, 0, []⟩ (.node 153 ⟨true, 0, 0, []⟩ (.node 152 ⟨true, 0, 0, []⟩ .nil .nil) .nil) (.node 155 ⟨false, 1, 4, [(.int .u32 0)]⟩ .nil .nil))) (.node 161 ⟨false, 1, 4, [(.int .i32 0)]⟩ (.node 159 ⟨false, 1, 8, [(.pointer none)]⟩ (.node 158 ⟨false, 1, 8, [.nilFunc]⟩ (.node 157 ⟨false, 1, 1, [(.int .u8 0)]⟩ .nil .nil) .nil) (.node 160 ⟨false, 1, 4, [(.int .i32 0)]⟩ .nil .nil)) (.node 163 ⟨true, 11, 48, [(.int .u64 0), (.int .u64 0), (.int .u32 0), (.int .u8 0), (.int .u8 0), (.int .u8 0), (.int .u8 0), .nilFunc, (.pointer none), (.int .i32 0), (.int .i32 0)]⟩ (.node 162 ⟨true, 11, 48, [(.int .u64 0), (.int .u64 0), (.int .u32 0), (.int .u8 0), (.int .u8 0), (.int .u8 0), (.int .u8 0), .nilFunc, (.pointer none), (.int .i32 0), (.int .i32 0)]⟩ .nil .nil) (.node 164 ⟨false, 1, 8, [(.pointer none)]⟩ .nil .nil)))))))
theorem tyT : tyTab.All (fun T i => tyI Try.prog T = some i) := ⟨ty85, ⟨ty44, ⟨ty21, ⟨ty10, ⟨ty5, ⟨ty3, ⟨ty2, ⟨ty1, trivial, trivial⟩, trivial⟩, ⟨ty4, trivial, trivial⟩⟩, ⟨ty8, ⟨ty7, ⟨ty6, trivial, trivial⟩, trivial⟩, ⟨ty9, trivial, trivial⟩⟩⟩, ⟨ty15, ⟨ty13, ⟨ty12, ⟨ty11, trivial, trivial⟩, trivial⟩, ⟨ty14, trivial, trivial⟩⟩, ⟨ty18, ⟨ty17, ⟨ty16, trivial, trivial⟩, trivial⟩, ⟨ty19, trivial, trivial⟩⟩⟩⟩, ⟨ty32, ⟨ty26, ⟨ty24, ⟨ty23, ⟨ty22, trivial, trivial⟩, trivial⟩, ⟨ty25, trivial, trivial⟩⟩, ⟨ty30, ⟨ty28, ⟨ty27, trivial, trivial⟩, trivial⟩, ⟨ty31, trivial, trivial⟩⟩⟩, ⟨ty38, ⟨ty35, ⟨ty34, ⟨ty33, trivial, trivial⟩, trivial⟩, ⟨ty37, trivial, trivial⟩⟩, ⟨ty42, ⟨ty41, ⟨ty40, trivial, trivial⟩, trivial⟩, ⟨ty43, trivial, trivial⟩⟩⟩⟩⟩, ⟨ty64, ⟨ty54, ⟨ty49, ⟨ty47, ⟨ty46, ⟨ty45, trivial, trivial⟩, trivial⟩, ⟨ty48, trivial, trivial⟩⟩, ⟨ty52, ⟨ty51, ⟨ty50, trivial, trivial⟩, trivial⟩, ⟨ty53, trivial, trivial⟩⟩⟩, ⟨ty59, ⟨ty57, ⟨ty56, ⟨ty55, trivial, trivial⟩, trivial⟩, ⟨ty58, trivial, trivial⟩⟩, ⟨ty62, ⟨ty61, ⟨ty60, trivial, trivial⟩, trivial⟩, ⟨ty63, trivial, trivial⟩⟩⟩⟩, ⟨ty75, ⟨ty70, ⟨ty68, ⟨ty67, ⟨ty65, trivial, trivial⟩, trivial⟩, ⟨ty69, trivial, trivial⟩⟩, ⟨ty73, ⟨ty72, ⟨ty71, trivial, trivial⟩, trivial⟩, ⟨ty74, trivial, trivial⟩⟩⟩, ⟨ty80, ⟨ty78, ⟨ty77, ⟨ty76, trivial, trivial⟩, trivial⟩, ⟨ty79, trivial, trivial⟩⟩, ⟨ty83, ⟨ty82, trivial, trivial⟩, ⟨ty84, trivial, trivial⟩⟩⟩⟩⟩⟩, ⟨ty126, ⟨ty105, ⟨ty95, ⟨ty90, ⟨ty88, ⟨ty87, ⟨ty86, trivial, trivial⟩, trivial⟩, ⟨ty89, trivial, trivial⟩⟩, ⟨ty93, ⟨ty92, ⟨ty91, trivial, trivial⟩, trivial⟩, ⟨ty94, trivial, trivial⟩⟩⟩, ⟨ty100, ⟨ty98, ⟨ty97, ⟨ty96, trivial, trivial⟩, trivial⟩, ⟨ty99, trivial, trivial⟩⟩, ⟨ty103, ⟨ty102, ⟨ty101, trivial, trivial⟩, trivial⟩, ⟨ty104, trivial, trivial⟩⟩⟩⟩, ⟨ty116, ⟨ty111, ⟨ty109, ⟨ty107, ⟨ty106, trivial, trivial⟩, trivial⟩, ⟨ty110, trivial, trivial⟩⟩, ⟨ty114, ⟨ty113, ⟨ty112, trivial, trivial⟩, trivial⟩, ⟨ty115, trivial, trivial⟩⟩⟩, ⟨ty121, ⟨ty119, ⟨ty118, ⟨ty117, trivial, trivial⟩, trivial⟩, ⟨ty120, trivial, trivial⟩⟩, ⟨ty124, ⟨ty123, ⟨ty122, trivial, trivial⟩, trivial⟩, ⟨ty125, trivial, trivial⟩⟩⟩⟩⟩, ⟨ty146, ⟨ty136, ⟨ty131, ⟨ty129, ⟨ty128, ⟨ty127, trivial, trivial⟩, trivial⟩, ⟨ty130, trivial, trivial⟩⟩, ⟨ty134, ⟨ty133, ⟨ty132, trivial, trivial⟩, trivial⟩, ⟨ty135, trivial, trivial⟩⟩⟩, ⟨ty141, ⟨ty139, ⟨ty138, ⟨ty137, trivial, trivial⟩, trivial⟩, ⟨ty140, trivial, trivial⟩⟩, ⟨ty144, ⟨ty143, ⟨ty142, trivial, trivial⟩, trivial⟩, ⟨ty145, trivial, trivial⟩⟩⟩⟩, ⟨ty156, ⟨ty151, ⟨ty149, ⟨ty148, ⟨ty147, trivial, trivial⟩, trivial⟩, ⟨ty150, trivial, trivial⟩⟩, ⟨ty154, ⟨ty153, ⟨ty152, trivial, trivial⟩, trivial⟩, ⟨ty155, trivial, trivial⟩⟩⟩, ⟨ty161, ⟨ty159, ⟨ty158, ⟨ty157, trivial, trivial⟩, trivial⟩, ⟨ty160, trivial, trivial⟩⟩, ⟨ty163, ⟨ty162, trivial, trivial⟩, ⟨ty164, trivial, trivial⟩⟩⟩⟩⟩⟩⟩
theorem tyA {T : TypeId} {i : TyI} (h : lookT tyTab T = some i) : tyI Try.prog T = some i := tyT.look h
def slTab : Tr (TypeId) := (.node 68 94 (.node 27 33 (.node 22 35 .nil .nil) (.node 31 3 .nil .nil)) (.node 111 115 (.node 78 80 .nil .nil) .nil))
theorem slT : slTab.All (fun T i => sliceE Try.prog T = some i) := ⟨sl68, ⟨sl27, ⟨sl22, trivial, trivial⟩, ⟨sl31, trivial, trivial⟩⟩, ⟨sl111, ⟨sl78, trivial, trivial⟩, trivial⟩⟩
theorem slA {T : TypeId} {i : TypeId} (h : lookT slTab T = some i) : sliceE Try.prog T = some i := slT.look h
def ptTab : Tr (Unit) := (.node 25 () (.node 16 () (.node 15 () .nil .nil) (.node 17 () .nil .nil)) (.node 159 () (.node 100 () .nil .nil) .nil))
theorem ptT : ptTab.All (fun T i => isPtr Try.prog T = true) := ⟨pt25, ⟨pt16, ⟨pt15, trivial, trivial⟩, ⟨pt17, trivial, trivial⟩⟩, ⟨pt159, ⟨pt100, trivial, trivial⟩, trivial⟩⟩
theorem ptA {T : TypeId} {i : Unit} (h : lookT ptTab T = some i) : isPtr Try.prog T = true := ptT.look h
def plTab : Tr (List (Nat × Nat)) := (.node 79 [(0, 1), (1, 1), (2, 1), (3, 1)] (.node 32 [(0, 1), (1, 1), (2, 1), (3, 1), (4, 1), (5, 1), (6, 1), (7, 1), (8, 1)] (.node 14 [(0, 1), (1, 1)] (.node 8 [(0, 1), (1, 1), (2, 1), (3, 1)] (.node 7 [(0, 1), (1, 1), (2, 1), (3, 1)] .nil .nil) (.node 13 [(0, 1), (1, 1)] .nil .nil)) (.node 19 [(0, 1)] (.node 18 [(0, 1)] .nil .nil) .nil)) (.node 35 [(0, 1), (1, 1), (2, 1), (3, 1), (4, 9), (13, 1)] (.node 34 [(0, 1), (1, 1), (2, 1), (3, 1), (4, 9), (13, 1)] (.node 33 [(0, 1), (1, 1), (2, 1), (3, 1), (4, 1), (5, 1), (6, 1), (7, 1), (8, 1)] .nil .nil) .nil) (.node 53 [(0, 1)] (.node 52 [(0, 1)] .nil .nil) .nil))) (.node 150 [(0, 1), (1, 1), (2, 1), (3, 1)] (.node 94 [(0, 1), (1, 1), (2, 1), (3, 1), (4, 1)] (.node 93 [(0, 1), (1, 1), (2, 1), (3, 1), (4, 1)] (.node 80 [(0, 1), (1, 1), (2, 1), (3, 1)] .nil .nil) .nil) (.node 115 [(0, 1), (1, 1), (2, 1)] (.node 114 [(0, 1), (1, 1), (2, 1)] .nil .nil) .nil)) (.node 154 [(0, 0)] (.node 153 [(0, 0)] (.node 151 [(0, 1), (1, 1), (2, 1), (3, 1)] .nil .nil) .nil) (.node 163 [(0, 1), (1, 1), (2, 1), (3, 1), (4, 1), (5, 1), (6, 1), (7, 1), (8, 1), (9, 1), (10, 1)] (.node 162 [(0, 1), (1, 1), (2, 1), (3, 1), (4, 1), (5, 1), (6, 1), (7, 1), (8, 1), (9, 1), (10, 1)] .nil .nil) .nil))))
theorem plT : plTab.All (fun T i => placesI Try.prog T = some i) := ⟨pl79, ⟨pl32, ⟨pl14, ⟨pl8, ⟨pl7, trivial, trivial⟩, ⟨pl13, trivial, trivial⟩⟩, ⟨pl19, ⟨pl18, trivial, trivial⟩, trivial⟩⟩, ⟨pl35, ⟨pl34, ⟨pl33, trivial, trivial⟩, trivial⟩, ⟨pl53, ⟨pl52, trivial, trivial⟩, trivial⟩⟩⟩, ⟨pl150, ⟨pl94, ⟨pl93, ⟨pl80, trivial, trivial⟩, trivial⟩, ⟨pl115, ⟨pl114, trivial, trivial⟩, trivial⟩⟩, ⟨pl154, ⟨pl153, ⟨pl151, trivial, trivial⟩, trivial⟩, ⟨pl163, ⟨pl162, trivial, trivial⟩, trivial⟩⟩⟩⟩
theorem plA {T : TypeId} {i : List (Nat × Nat)} (h : lookT plTab T = some i) : placesI Try.prog T = some i := plT.look h
def boTab : Tr (Unit) := (.node 4 () .nil .nil)
theorem boT : boTab.All (fun T i => Try.prog.underlying T = some .bool) := ⟨Try.underlying4, trivial, trivial⟩
theorem boA {T : TypeId} {i : Unit} (h : lookT boTab T = some i) : Try.prog.underlying T = some .bool := boT.look h
def flTab : Tr (FldI) := (.node 5121 ⟨1, 1, false⟩ (.node 2114 ⟨2, 1, false⟩ (.node 1152 ⟨0, 1, false⟩ (.node 514 ⟨2, 1, false⟩ (.node 451 ⟨3, 1, false⟩ (.node 449 ⟨1, 1, false⟩ (.node 448 ⟨0, 1, false⟩ .nil .nil) (.node 450 ⟨2, 1, false⟩ .nil .nil)) (.node 513 ⟨1, 1, false⟩ (.node 512 ⟨0, 1, false⟩ .nil .nil) .nil)) (.node 833 ⟨1, 1, false⟩ (.node 832 ⟨0, 1, false⟩ (.node 515 ⟨3, 1, false⟩ .nil .nil) .nil) (.node 897 ⟨1, 1, false⟩ (.node 896 ⟨0, 1, false⟩ .nil .nil) .nil))) (.node 2053 ⟨5, 1, false⟩ (.node 2050 ⟨2, 1, false⟩ (.node 2048 ⟨0, 1, false⟩ (.node 1216 ⟨0, 1, false⟩ .nil .nil) (.node 2049 ⟨1, 1, false⟩ .nil .nil)) (.node 2052 ⟨4, 1, false⟩ (.node 2051 ⟨3, 1, false⟩ .nil .nil) .nil)) (.node 2056 ⟨8, 1, false⟩ (.node 2055 ⟨7, 1, false⟩ (.node 2054 ⟨6, 1, false⟩ .nil .nil) .nil) (.node 2113 ⟨1, 1, false⟩ (.node 2112 ⟨0, 1, false⟩ .nil .nil) .nil)))) (.node 2240 ⟨0, 1, false⟩ (.node 2176 ⟨0, 1, false⟩ (.node 2118 ⟨6, 1, false⟩ (.node 2116 ⟨4, 1, false⟩ (.node 2115 ⟨3, 1, false⟩ .nil .nil) (.node 2117 ⟨5, 1, false⟩ .nil .nil)) (.node 2120 ⟨8, 1, false⟩ (.node 2119 ⟨7, 1, false⟩ .nil .nil) .nil)) (.node 2179 ⟨3, 1, false⟩ (.node 2178 ⟨2, 1, false⟩ (.node 2177 ⟨1, 1, false⟩ .nil .nil) .nil) (.node 2181 ⟨13, 1, false⟩ (.node 2180 ⟨4, 9, true⟩ .nil .nil) .nil))) (.node 3392 ⟨0, 1, false⟩ (.node 2244 ⟨4, 9, true⟩ (.node 2242 ⟨2, 1, false⟩ (.node 2241 ⟨1, 1, false⟩ .nil .nil) (.node 2243 ⟨3, 1, false⟩ .nil .nil)) (.node 3328 ⟨0, 1, false⟩ (.node 2245 ⟨13, 1, false⟩ .nil .nil) .nil)) (.node 5058 ⟨2, 1, false⟩ (.node 5057 ⟨1, 1, false⟩ (.node 5056 ⟨0, 1, false⟩ .nil .nil) .nil) (.node 5120 ⟨0, 1, false⟩ (.node 5059 ⟨3, 1, false⟩ .nil .nil) .nil))))) (.node 9667 ⟨3, 1, false⟩ (.node 7296 ⟨0, 1, false⟩ (.node 5956 ⟨4, 1, false⟩ (.node 5953 ⟨1, 1, false⟩ (.node 5123 ⟨3, 1, false⟩ (.node 5122 ⟨2, 1, false⟩ .nil .nil) (.node 5952 ⟨0, 1, false⟩ .nil .nil)) (.node 5955 ⟨3, 1, false⟩ (.node 5954 ⟨2, 1, false⟩ .nil .nil) .nil)) (.node 6018 ⟨2, 1, false⟩ (.node 6017 ⟨1, 1, false⟩ (.node 6016 ⟨0, 1, false⟩ .nil .nil) .nil) (.node 6020 ⟨4, 1, false⟩ (.node 6019 ⟨3, 1, false⟩ .nil .nil) .nil))) (.node 9601 ⟨1, 1, false⟩ (.node 7361 ⟨1, 1, false⟩ (.node 7298 ⟨2, 1, false⟩ (.node 7297 ⟨1, 1, false⟩ .nil .nil) (.node 7360 ⟨0, 1, false⟩ .nil .nil)) (.node 9600 ⟨0, 1, false⟩ (.node 7362 ⟨2, 1, false⟩ .nil .nil) .nil)) (.node 9664 ⟨0, 1, false⟩ (.node 9603 ⟨3, 1, false⟩ (.node 9602 ⟨2, 1, false⟩ .nil .nil) .nil) (.node 9666 ⟨2, 1, false⟩ (.node 9665 ⟨1, 1, false⟩ .nil .nil) .nil)))) (.node 10378 ⟨10, 1, false⟩ (.node 10372 ⟨4, 1, false⟩ (.node 10369 ⟨1, 1, false⟩ (.node 9856 ⟨0, 0, true⟩ (.node 9792 ⟨0, 0, true⟩ .nil .nil) (.node 10368 ⟨0, 1, false⟩ .nil .nil)) (.node 10371 ⟨3, 1, false⟩ (.node 10370 ⟨2, 1, false⟩ .nil .nil) .nil)) (.node 10375 ⟨7, 1, false⟩ (.node 10374 ⟨6, 1, false⟩ (.node 10373 ⟨5, 1, false⟩ .nil .nil) .nil) (.node 10377 ⟨9, 1, false⟩ (.node 10376 ⟨8, 1, false⟩ .nil .nil) .nil))) (.node 10437 ⟨5, 1, false⟩ (.node 10434 ⟨2, 1, false⟩ (.node 10433 ⟨1, 1, false⟩ (.node 10432 ⟨0, 1, false⟩ .nil .nil) .nil) (.node 10436 ⟨4, 1, false⟩ (.node 10435 ⟨3, 1, false⟩ .nil .nil) .nil)) (.node 10440 ⟨8, 1, false⟩ (.node 10439 ⟨7, 1, false⟩ (.node 10438 ⟨6, 1, false⟩ .nil .nil) .nil) (.node 10442 ⟨10, 1, false⟩ (.node 10441 ⟨9, 1, false⟩ .nil .nil) .nil))))))
theorem flT : flTab.All (fun T i => fldI Try.prog (T / 64) (T % 64) = some i) := ⟨fl80_1, ⟨fl33_2, ⟨fl18_0, ⟨fl8_2, ⟨fl7_3, ⟨fl7_1, ⟨fl7_0, trivial, trivial⟩, ⟨fl7_2, trivial, trivial⟩⟩, ⟨fl8_1, ⟨fl8_0, trivial, trivial⟩, trivial⟩⟩, ⟨fl13_1, ⟨fl13_0, ⟨fl8_3, trivial, trivial⟩, trivial⟩, ⟨fl14_1, ⟨fl14_0, trivial, trivial⟩, trivial⟩⟩⟩, ⟨fl32_5, ⟨fl32_2, ⟨fl32_0, ⟨fl19_0, trivial, trivial⟩, ⟨fl32_1, trivial, trivial⟩⟩, ⟨fl32_4, ⟨fl32_3, trivial, trivial⟩, trivial⟩⟩, ⟨fl32_8, ⟨fl32_7, ⟨fl32_6, trivial, trivial⟩, trivial⟩, ⟨fl33_1, ⟨fl33_0, trivial, trivial⟩, trivial⟩⟩⟩⟩, ⟨fl35_0, ⟨fl34_0, ⟨fl33_6, ⟨fl33_4, ⟨fl33_3, trivial, trivial⟩, ⟨fl33_5, trivial, trivial⟩⟩, ⟨fl33_8, ⟨fl33_7, trivial, trivial⟩, trivial⟩⟩, ⟨fl34_3, ⟨fl34_2, ⟨fl34_1, trivial, trivial⟩, trivial⟩, ⟨fl34_5, ⟨fl34_4, trivial, trivial⟩, trivial⟩⟩⟩, ⟨fl53_0, ⟨fl35_4, ⟨fl35_2, ⟨fl35_1, trivial, trivial⟩, ⟨fl35_3, trivial, trivial⟩⟩, ⟨fl52_0, ⟨fl35_5, trivial, trivial⟩, trivial⟩⟩, ⟨fl79_2, ⟨fl79_1, ⟨fl79_0, trivial, trivial⟩, trivial⟩, ⟨fl80_0, ⟨fl79_3, trivial, trivial⟩, trivial⟩⟩⟩⟩⟩, ⟨fl151_3, ⟨fl114_0, ⟨fl93_4, ⟨fl93_1, ⟨fl80_3, ⟨fl80_2, trivial, trivial⟩, ⟨fl93_0, trivial, trivial⟩⟩, ⟨fl93_3, ⟨fl93_2, trivial, trivial⟩, trivial⟩⟩, ⟨fl94_2, ⟨fl94_1, ⟨fl94_0, trivial, trivial⟩, trivial⟩, ⟨fl94_4, ⟨fl94_3, trivial, trivial⟩, trivial⟩⟩⟩, ⟨fl150_1, ⟨fl115_1, ⟨fl114_2, ⟨fl114_1, trivial, trivial⟩, ⟨fl115_0, trivial, trivial⟩⟩, ⟨fl150_0, ⟨fl115_2, trivial, trivial⟩, trivial⟩⟩, ⟨fl151_0, ⟨fl150_3, ⟨fl150_2, trivial, trivial⟩, trivial⟩, ⟨fl151_2, ⟨fl151_1, trivial, trivial⟩, trivial⟩⟩⟩⟩, ⟨fl162_10, ⟨fl162_4, ⟨fl162_1, ⟨fl154_0, ⟨fl153_0, trivial, trivial⟩, ⟨fl162_0, trivial, trivial⟩⟩, ⟨fl162_3, ⟨fl162_2, trivial, trivial⟩, trivial⟩⟩, ⟨fl162_7, ⟨fl162_6, ⟨fl162_5, trivial, trivial⟩, trivial⟩, ⟨fl162_9, ⟨fl162_8, trivial, trivial⟩, trivial⟩⟩⟩, ⟨fl163_5, ⟨fl163_2, ⟨fl163_1, ⟨fl163_0, trivial, trivial⟩, trivial⟩, ⟨fl163_4, ⟨fl163_3, trivial, trivial⟩, trivial⟩⟩, ⟨fl163_8, ⟨fl163_7, ⟨fl163_6, trivial, trivial⟩, trivial⟩, ⟨fl163_10, ⟨fl163_9, trivial, trivial⟩, trivial⟩⟩⟩⟩⟩⟩
theorem flA {T : Nat} {j : Nat} {i : FldI} (h : lookT flTab (T * 64 + j) = some i) (hj : Nat.blt j 64 = true := by rfl) : fldI Try.prog T j = some i := by
  have := flT.look h
  have hj := Nat.le_of_ble_eq_true hj
  rwa [show (T * 64 + j) / 64 = T by omega, show (T * 64 + j) % 64 = j by omega] at this
theorem cb2 : callB Try.prog 2 = true := by kernel_rfl
theorem cb3 : callB Try.prog 3 = true := by kernel_rfl
theorem cb4 : callB Try.prog 4 = true := by kernel_rfl
theorem cb5 : callB Try.prog 5 = true := by kernel_rfl
theorem cb6 : callB Try.prog 6 = true := by kernel_rfl
theorem cb7 : callB Try.prog 7 = true := by kernel_rfl
theorem cb8 : callB Try.prog 8 = true := by kernel_rfl
theorem cb9 : callB Try.prog 9 = true := by kernel_rfl
theorem cb10 : callB Try.prog 10 = true := by kernel_rfl
theorem cb11 : callB Try.prog 11 = true := by kernel_rfl
theorem cb12 : callB Try.prog 12 = true := by kernel_rfl
theorem cb13 : callB Try.prog 13 = true := by kernel_rfl
theorem cb14 : callB Try.prog 14 = true := by kernel_rfl
theorem cb15 : callB Try.prog 15 = true := by kernel_rfl
theorem cb16 : callB Try.prog 16 = true := by kernel_rfl
theorem cb17 : callB Try.prog 17 = true := by kernel_rfl
theorem cb18 : callB Try.prog 18 = true := by kernel_rfl
theorem cb19 : callB Try.prog 19 = true := by kernel_rfl
theorem cb20 : callB Try.prog 20 = true := by kernel_rfl
theorem cb21 : callB Try.prog 21 = true := by kernel_rfl
theorem cb22 : callB Try.prog 22 = true := by kernel_rfl
theorem cb23 : callB Try.prog 23 = true := by kernel_rfl
theorem cb24 : callB Try.prog 24 = true := by kernel_rfl
theorem cb25 : callB Try.prog 25 = true := by kernel_rfl
theorem cb26 : callB Try.prog 26 = true := by kernel_rfl
theorem cb27 : callB Try.prog 27 = true := by kernel_rfl
theorem cb28 : callB Try.prog 28 = true := by kernel_rfl
theorem cb29 : callB Try.prog 29 = true := by kernel_rfl
theorem cb30 : callB Try.prog 30 = true := by kernel_rfl
theorem cb31 : callB Try.prog 31 = true := by kernel_rfl
theorem cb32 : callB Try.prog 32 = true := by kernel_rfl
theorem cb33 : callB Try.prog 33 = true := by kernel_rfl
theorem cb34 : callB Try.prog 34 = true := by kernel_rfl
theorem cb35 : callB Try.prog 35 = true := by kernel_rfl
theorem cb36 : callB Try.prog 36 = true := by kernel_rfl
theorem cb37 : callB Try.prog 37 = true := by kernel_rfl
theorem cb38 : callB Try.prog 38 = true := by kernel_rfl
theorem cb39 : callB Try.prog 39 = true := by kernel_rfl
theorem cb40 : callB Try.prog 40 = true := by kernel_rfl
theorem cb41 : callB Try.prog 41 = true := by kernel_rfl
theorem cb42 : callB Try.prog 42 = true := by kernel_rfl
theorem cb43 : callB Try.prog 43 = true := by kernel_rfl
theorem cb44 : callB Try.prog 44 = true := by kernel_rfl
theorem cb45 : callB Try.prog 45 = true := by kernel_rfl
theorem cb46 : callB Try.prog 46 = true := by kernel_rfl
theorem cb47 : callB Try.prog 47 = true := by kernel_rfl
theorem cb48 : callB Try.prog 48 = true := by kernel_rfl
theorem cb49 : callB Try.prog 49 = true := by kernel_rfl
theorem cb50 : callB Try.prog 50 = true := by kernel_rfl
theorem cb51 : callB Try.prog 51 = true := by kernel_rfl
theorem cb52 : callB Try.prog 52 = true := by kernel_rfl
theorem cb53 : callB Try.prog 53 = true := by kernel_rfl
theorem cb54 : callB Try.prog 54 = true := by kernel_rfl
theorem cb55 : callB Try.prog 55 = true := by kernel_rfl
theorem cb56 : callB Try.prog 56 = true := by kernel_rfl
theorem cb57 : callB Try.prog 57 = true := by kernel_rfl
theorem cb58 : callB Try.prog 58 = true := by kernel_rfl
theorem cb59 : callB Try.prog 59 = true := by kernel_rfl
theorem cb60 : callB Try.prog 60 = true := by kernel_rfl
theorem cb61 : callB Try.prog 61 = true := by kernel_rfl
theorem cb62 : callB Try.prog 62 = true := by kernel_rfl
theorem cb63 : callB Try.prog 63 = true := by kernel_rfl
theorem cb64 : callB Try.prog 64 = true := by kernel_rfl
theorem cb65 : callB Try.prog 65 = true := by kernel_rfl
theorem cb66 : callB Try.prog 66 = true := by kernel_rfl
theorem cb67 : callB Try.prog 67 = true := by kernel_rfl
theorem cb68 : callB Try.prog 68 = true := by kernel_rfl
theorem cb69 : callB Try.prog 69 = true := by kernel_rfl
theorem cb70 : callB Try.prog 70 = true := by kernel_rfl
theorem cb71 : callB Try.prog 71 = true := by kernel_rfl
theorem cb72 : callB Try.prog 72 = true := by kernel_rfl
theorem cb73 : callB Try.prog 73 = true := by kernel_rfl
theorem cb74 : callB Try.prog 74 = true := by kernel_rfl
theorem cb75 : callB Try.prog 75 = true := by kernel_rfl
theorem cb76 : callB Try.prog 76 = true := by kernel_rfl
theorem cb77 : callB Try.prog 77 = true := by kernel_rfl
theorem cb78 : callB Try.prog 78 = true := by kernel_rfl
theorem cb79 : callB Try.prog 79 = true := by kernel_rfl
theorem cb80 : callB Try.prog 80 = true := by kernel_rfl
theorem cb81 : callB Try.prog 81 = true := by kernel_rfl
theorem cb82 : callB Try.prog 82 = true := by kernel_rfl
theorem cb83 : callB Try.prog 83 = true := by kernel_rfl
theorem cb84 : callB Try.prog 84 = true := by kernel_rfl
theorem cb85 : callB Try.prog 85 = true := by kernel_rfl
theorem cb86 : callB Try.prog 86 = true := by kernel_rfl
theorem cb87 : callB Try.prog 87 = true := by kernel_rfl
theorem cb88 : callB Try.prog 88 = true := by kernel_rfl
theorem cb89 : callB Try.prog 89 = true := by kernel_rfl
theorem cb90 : callB Try.prog 90 = true := by kernel_rfl
theorem cb91 : callB Try.prog 91 = true := by kernel_rfl
theorem cb92 : callB Try.prog 92 = true := by kernel_rfl
theorem cb93 : callB Try.prog 93 = true := by kernel_rfl
theorem cb94 : callB Try.prog 94 = true := by kernel_rfl
theorem cb95 : callB Try.prog 95 = true := by kernel_rfl
theorem cb96 : callB Try.prog 96 = true := by kernel_rfl
theorem cb97 : callB Try.prog 97 = true := by kernel_rfl
theorem cb98 : callB Try.prog 98 = true := by kernel_rfl
theorem cb99 : callB Try.prog 99 = true := by kernel_rfl
theorem cb100 : callB Try.prog 100 = true := by kernel_rfl
theorem cb101 : callB Try.prog 101 = true := by kernel_rfl
theorem cb102 : callB Try.prog 102 = true := by kernel_rfl
theorem cb103 : callB Try.prog 103 = true := by kernel_rfl
theorem cb104 : callB Try.prog 104 = true := by kernel_rfl
theorem cb105 : callB Try.prog 105 = true := by kernel_rfl
theorem cb106 : callB Try.prog 106 = true := by kernel_rfl
theorem cb107 : callB Try.prog 107 = true := by kernel_rfl
theorem cb108 : callB Try.prog 108 = true := by kernel_rfl
theorem cb109 : callB Try.prog 109 = true := by kernel_rfl
theorem cb110 : callB Try.prog 110 = true := by kernel_rfl
theorem cb111 : callB Try.prog 111 = true := by kernel_rfl
theorem cb112 : callB Try.prog 112 = true := by kernel_rfl
theorem cb113 : callB Try.prog 113 = true := by kernel_rfl
theorem cb114 : callB Try.prog 114 = true := by kernel_rfl
theorem cb115 : callB Try.prog 115 = true := by kernel_rfl
theorem cb116 : callB Try.prog 116 = true := by kernel_rfl
theorem cb117 : callB Try.prog 117 = true := by kernel_rfl
theorem cb118 : callB Try.prog 118 = true := by kernel_rfl
theorem cb119 : callB Try.prog 119 = true := by kernel_rfl
theorem cb120 : callB Try.prog 120 = true := by kernel_rfl
theorem cb121 : callB Try.prog 121 = true := by kernel_rfl
theorem cb122 : callB Try.prog 122 = true := by kernel_rfl
theorem cb123 : callB Try.prog 123 = true := by kernel_rfl
theorem cb124 : callB Try.prog 124 = true := by kernel_rfl
theorem cb125 : callB Try.prog 125 = true := by kernel_rfl
theorem cb126 : callB Try.prog 126 = true := by kernel_rfl
theorem cb127 : callB Try.prog 127 = true := by kernel_rfl
theorem cb128 : callB Try.prog 128 = true := by kernel_rfl
theorem cb129 : callB Try.prog 129 = true := by kernel_rfl
theorem cb130 : callB Try.prog 130 = true := by kernel_rfl
theorem cb131 : callB Try.prog 131 = true := by kernel_rfl
theorem cb132 : callB Try.prog 132 = true := by kernel_rfl
theorem cb133 : callB Try.prog 133 = true := by kernel_rfl
theorem cb134 : callB Try.prog 134 = true := by kernel_rfl
theorem cb135 : callB Try.prog 135 = true := by kernel_rfl
theorem cb136 : callB Try.prog 136 = true := by kernel_rfl
theorem cb137 : callB Try.prog 137 = true := by kernel_rfl
theorem cb138 : callB Try.prog 138 = true := by kernel_rfl
theorem cb139 : callB Try.prog 139 = true := by kernel_rfl
theorem cb140 : callB Try.prog 140 = true := by kernel_rfl
theorem cb141 : callB Try.prog 141 = true := by kernel_rfl
theorem cb142 : callB Try.prog 142 = true := by kernel_rfl
theorem cb143 : callB Try.prog 143 = true := by kernel_rfl
theorem cb144 : callB Try.prog 144 = true := by kernel_rfl
theorem cb145 : callB Try.prog 145 = true := by kernel_rfl
theorem cb146 : callB Try.prog 146 = true := by kernel_rfl
theorem cb147 : callB Try.prog 147 = true := by kernel_rfl
theorem cb148 : callB Try.prog 148 = true := by kernel_rfl
theorem cb149 : callB Try.prog 149 = true := by kernel_rfl
theorem cb150 : callB Try.prog 150 = true := by kernel_rfl
theorem cb151 : callB Try.prog 151 = true := by kernel_rfl
theorem cb152 : callB Try.prog 152 = true := by kernel_rfl
theorem cb153 : callB Try.prog 153 = true := by kernel_rfl
theorem cb154 : callB Try.prog 154 = true := by kernel_rfl
theorem cb155 : callB Try.prog 155 = true := by kernel_rfl
theorem cb156 : callB Try.prog 156 = true := by kernel_rfl
theorem cb157 : callB Try.prog 157 = true := by kernel_rfl
theorem cb158 : callB Try.prog 158 = true := by kernel_rfl
theorem cb159 : callB Try.prog 159 = true := by kernel_rfl
theorem cb160 : callB Try.prog 160 = true := by kernel_rfl
theorem cb161 : callB Try.prog 161 = true := by kernel_rfl
theorem cb162 : callB Try.prog 162 = true := by kernel_rfl
theorem cb163 : callB Try.prog 163 = true := by kernel_rfl
theorem cb164 : callB Try.prog 164 = true := by kernel_rfl
theorem cb165 : callB Try.prog 165 = true := by kernel_rfl
theorem cb166 : callB Try.prog 166 = true := by kernel_rfl
theorem cb167 : callB Try.prog 167 = true := by kernel_rfl
theorem cb168 : callB Try.prog 168 = true := by kernel_rfl
theorem cb169 : callB Try.prog 169 = true := by kernel_rfl
theorem cb170 : callB Try.prog 170 = true := by kernel_rfl
theorem cb171 : callB Try.prog 171 = true := by kernel_rfl
theorem cb172 : callB Try.prog 172 = true := by kernel_rfl
theorem cb173 : callB Try.prog 173 = true := by kernel_rfl
theorem cb174 : callB Try.prog 174 = true := by kernel_rfl
theorem cb175 : callB Try.prog 175 = true := by kernel_rfl
theorem cb176 : callB Try.prog 176 = true := by kernel_rfl
theorem cb177 : callB Try.prog 177 = true := by kernel_rfl
theorem cb178 : callB Try.prog 178 = true := by kernel_rfl
theorem cb179 : callB Try.prog 179 = true := by kernel_rfl
theorem cb180 : callB Try.prog 180 = true := by kernel_rfl
theorem cb181 : callB Try.prog 181 = true := by kernel_rfl
theorem cb182 : callB Try.prog 182 = true := by kernel_rfl
theorem cb183 : callB Try.prog 183 = true := by kernel_rfl
theorem cb184 : callB Try.prog 184 = true := by kernel_rfl
theorem cb185 : callB Try.prog 185 = true := by kernel_rfl
theorem cb186 : callB Try.prog 186 = true := by kernel_rfl
theorem cb187 : callB Try.prog 187 = true := by kernel_rfl
theorem cb188 : callB Try.prog 188 = true := by kernel_rfl
theorem cb189 : callB Try.prog 189 = true := by kernel_rfl
theorem cb190 : callB Try.prog 190 = true := by kernel_rfl
def cbTab : Tr Unit := (.node 96 () (.node 49 () (.node 25 () (.node 13 () (.node 7 () (.node 4 () (.node 3 () (.node 2 () .nil .nil) .nil) (.node 6 () (.node 5 () .nil .nil) .nil)) (.node 10 () (.node 9 () (.node 8 () .nil .nil) .nil) (.node 12 () (.node 11 () .nil .nil) .nil))) (.node 19 () (.node 16 () (.node 15 () (.node 14 () .nil .nil) .nil) (.node 18 () (.node 17 () .nil .nil) .nil)) (.node 22 () (.node 21 () (.node 20 () .nil .nil) .nil) (.node 24 () (.node 23 () .nil .nil) .nil)))) (.node 37 () (.node 31 () (.node 28 () (.node 27 () (.node 26 () .nil .nil) .nil) (.node 30 () (.node 29 () .nil .nil) .nil)) (.node 34 () (.node 33 () (.node 32 () .nil .nil) .nil) (.node 36 () (.node 35 () .nil .nil) .nil))) (.node 43 () (.node 40 () (.node 39 () (.node 38 () .nil .nil) .nil) (.node 42 () (.node 41 () .nil .nil) .nil)) (.node 46 () (.node 45 () (.node 44 () .nil .nil) .nil) (.node 48 () (.node 47 () .nil .nil) .nil))))) (.node 73 () (.node 61 () (.node 55 () (.node 52 () (.node 51 () (.node 50 () .nil .nil) .nil) (.node 54 () (.node 53 () .nil .nil) .nil)) (.node 58 () (.node 57 () (.node 56 () .nil .nil) .nil) (.node 60 () (.node 59 () .nil .nil) .nil))) (.node 67 () (.node 64 () (.node 63 () (.node 62 () .nil .nil) .nil) (.node 66 () (.node 65 () .nil .nil) .nil)) (.node 70 () (.node 69 () (.node 68 () .nil .nil) .nil) (.node 72 () (.node 71 () .nil .nil) .nil)))) (.node 85 () (.node 79 () (.node 76 () (.node 75 () (.node 74 () .nil .nil) .nil) (.node 78 () (.node 77 () .nil .nil) .nil)) (.node 82 () (.node 81 () (.node 80 () .nil .nil) .nil) (.node 84 () (.node 83 () .nil .nil) .nil))) (.node 91 () (.node 88 () (.node 87 () (.node 86 () .nil .nil) .nil) (.node 90 () (.node 89 () .nil .nil) .nil)) (.node 94 () (.node 93 () (.node 92 () .nil .nil) .nil) (.node 95 () .nil .nil)))))) (.node 144 () (.node 120 () (.node 108 () (.node 102 () (.node 99 () (.node 98 () (.node 97 () .nil .nil) .nil) (.node 101 () (.node 100 () .nil .nil) .nil)) (.node 105 () (.node 104 () (.node 103 () .nil .nil) .nil) (.node 107 () (.node 106 () .nil .nil) .nil))) (.node 114 () (.node 111 () (.node 110 () (.node 109 () .nil .nil) .nil) (.node 113 () (.node 112 () .nil .nil) .nil)) (.node 117 () (.node 116 () (.node 115 () .nil .nil) .nil) (.node 119 () (.node 118 () .nil .nil) .nil)))) (.node 132 () (.node 126 () (.node 123 () (.node 122 () (.node 121 () .nil .nil) .nil) (.node 125 () (.node 124 () .nil .nil) .nil)) (.node 129 () (.node 128 () (.node 127 () .nil .nil) .nil) (.node 131 () (.node 130 () .nil .nil) .nil))) (.node 138 () (.node 135 () (.node 134 () (.node 133 () .nil .nil) .nil) (.node 137 () (.node 136 () .nil .nil) .nil)) (.node 141 () (.node 140 () (.node 139 () .nil .nil) .nil) (.node 143 () (.node 142 () .nil .nil) .nil))))) (.node 168 () (.node 156 () (.node 150 () (.node 147 () (.node 146 () (.node 145 () .nil .nil) .nil) (.node 149 () (.node 148 () .nil .nil) .nil)) (.node 153 () (.node 152 () (.node 151 () .nil .nil) .nil) (.node 155 () (.node 154 () .nil .nil) .nil))) (.node 162 () (.node 159 () (.node 158 () (.node 157 () .nil .nil) .nil) (.node 161 () (.node 160 () .nil .nil) .nil)) (.node 165 () (.node 164 () (.node 163 () .nil .nil) .nil) (.node 167 () (.node 166 () .nil .nil) .nil)))) (.node 180 () (.node 174 () (.node 171 () (.node 170 () (.node 169 () .nil .nil) .nil) (.node 173 () (.node 172 () .nil .nil) .nil)) (.node 177 () (.node 176 () (.node 175 () .nil .nil) .nil) (.node 179 () (.node 178 () .nil .nil) .nil))) (.node 186 () (.node 183 () (.node 182 () (.node 181 () .nil .nil) .nil) (.node 185 () (.node 184 () .nil .nil) .nil)) (.node 189 () (.node 188 () (.node 187 () .nil .nil) .nil) (.node 190 () .nil .nil)))))))
theorem cbT : cbTab.All (fun T i => callB Try.prog T = true) := ⟨cb96, ⟨cb49, ⟨cb25, ⟨cb13, ⟨cb7, ⟨cb4, ⟨cb3, ⟨cb2, trivial, trivial⟩, trivial⟩, ⟨cb6, ⟨cb5, trivial, trivial⟩, trivial⟩⟩, ⟨cb10, ⟨cb9, ⟨cb8, trivial, trivial⟩, trivial⟩, ⟨cb12, ⟨cb11, trivial, trivial⟩, trivial⟩⟩⟩, ⟨cb19, ⟨cb16, ⟨cb15, ⟨cb14, trivial, trivial⟩, trivial⟩, ⟨cb18, ⟨cb17, trivial, trivial⟩, trivial⟩⟩, ⟨cb22, ⟨cb21, ⟨cb20, trivial, trivial⟩, trivial⟩, ⟨cb24, ⟨cb23, trivial, trivial⟩, trivial⟩⟩⟩⟩, ⟨cb37, ⟨cb31, ⟨cb28, ⟨cb27, ⟨cb26, trivial, trivial⟩, trivial⟩, ⟨cb30, ⟨cb29, trivial, trivial⟩, trivial⟩⟩, ⟨cb34, ⟨cb33, ⟨cb32, trivial, trivial⟩, trivial⟩, ⟨cb36, ⟨cb35, trivial, trivial⟩, trivial⟩⟩⟩, ⟨cb43, ⟨cb40, ⟨cb39, ⟨cb38, trivial, trivial⟩, trivial⟩, ⟨cb42, ⟨cb41, trivial, trivial⟩, trivial⟩⟩, ⟨cb46, ⟨cb45, ⟨cb44, trivial, trivial⟩, trivial⟩, ⟨cb48, ⟨cb47, trivial, trivial⟩, trivial⟩⟩⟩⟩⟩, ⟨cb73, ⟨cb61, ⟨cb55, ⟨cb52, ⟨cb51, ⟨cb50, trivial, trivial⟩, trivial⟩, ⟨cb54, ⟨cb53, trivial, trivial⟩, trivial⟩⟩, ⟨cb58, ⟨cb57, ⟨cb56, trivial, trivial⟩, trivial⟩, ⟨cb60, ⟨cb59, trivial, trivial⟩, trivial⟩⟩⟩, ⟨cb67, ⟨cb64, ⟨cb63, ⟨cb62, trivial, trivial⟩, trivial⟩, ⟨cb66, ⟨cb65, trivial, trivial⟩, trivial⟩⟩, ⟨cb70, ⟨cb69, ⟨cb68, trivial, trivial⟩, trivial⟩, ⟨cb72, ⟨cb71, trivial, trivial⟩, trivial⟩⟩⟩⟩, ⟨cb85, ⟨cb79, ⟨cb76, ⟨cb75, ⟨cb74, trivial, trivial⟩, trivial⟩, ⟨cb78, ⟨cb77, trivial, trivial⟩, trivial⟩⟩, ⟨cb82, ⟨cb81, ⟨cb80, trivial, trivial⟩, trivial⟩, ⟨cb84, ⟨cb83, trivial, trivial⟩, trivial⟩⟩⟩, ⟨cb91, ⟨cb88, ⟨cb87, ⟨cb86, trivial, trivial⟩, trivial⟩, ⟨cb90, ⟨cb89, trivial, trivial⟩, trivial⟩⟩, ⟨cb94, ⟨cb93, ⟨cb92, trivial, trivial⟩, trivial⟩, ⟨cb95, trivial, trivial⟩⟩⟩⟩⟩⟩, ⟨cb144, ⟨cb120, ⟨cb108, ⟨cb102, ⟨cb99, ⟨cb98, ⟨cb97, trivial, trivial⟩, trivial⟩, ⟨cb101, ⟨cb100, trivial, trivial⟩, trivial⟩⟩, ⟨cb105, ⟨cb104, ⟨cb103, trivial, trivial⟩, trivial⟩, ⟨cb107, ⟨cb106, trivial, trivial⟩, trivial⟩⟩⟩, ⟨cb114, ⟨cb111, ⟨cb110, ⟨cb109, trivial, trivial⟩, trivial⟩, ⟨cb113, ⟨cb112, trivial, trivial⟩, trivial⟩⟩, ⟨cb117, ⟨cb116, ⟨cb115, trivial, trivial⟩, trivial⟩, ⟨cb119, ⟨cb118, trivial, trivial⟩, trivial⟩⟩⟩⟩, ⟨cb132, ⟨cb126, ⟨cb123, ⟨cb122, ⟨cb121, trivial, trivial⟩, trivial⟩, ⟨cb125, ⟨cb124, trivial, trivial⟩, trivial⟩⟩, ⟨cb129, ⟨cb128, ⟨cb127, trivial, trivial⟩, trivial⟩, ⟨cb131, ⟨cb130, trivial, trivial⟩, trivial⟩⟩⟩, ⟨cb138, ⟨cb135, ⟨cb134, ⟨cb133, trivial, trivial⟩, trivial⟩, ⟨cb137, ⟨cb136, trivial, trivial⟩, trivial⟩⟩, ⟨cb141, ⟨cb140, ⟨cb139, trivial, trivial⟩, trivial⟩, ⟨cb143, ⟨cb142, trivial, trivial⟩, trivial⟩⟩⟩⟩⟩, ⟨cb168, ⟨cb156, ⟨cb150, ⟨cb147, ⟨cb146, ⟨cb145, trivial, trivial⟩, trivial⟩, ⟨cb149, ⟨cb148, trivial, trivial⟩, trivial⟩⟩, ⟨cb153, ⟨cb152, ⟨cb151, trivial, trivial⟩, trivial⟩, ⟨cb155, ⟨cb154, trivial, trivial⟩, trivial⟩⟩⟩, ⟨cb162, ⟨cb159, ⟨cb158, ⟨cb157, trivial, trivial⟩, trivial⟩, ⟨cb161, ⟨cb160, trivial, trivial⟩, trivial⟩⟩, ⟨cb165, ⟨cb164, ⟨cb163, trivial, trivial⟩, trivial⟩, ⟨cb167, ⟨cb166, trivial, trivial⟩, trivial⟩⟩⟩⟩, ⟨cb180, ⟨cb174, ⟨cb171, ⟨cb170, ⟨cb169, trivial, trivial⟩, trivial⟩, ⟨cb173, ⟨cb172, trivial, trivial⟩, trivial⟩⟩, ⟨cb177, ⟨cb176, ⟨cb175, trivial, trivial⟩, trivial⟩, ⟨cb179, ⟨cb178, trivial, trivial⟩, trivial⟩⟩⟩, ⟨cb186, ⟨cb183, ⟨cb182, ⟨cb181, trivial, trivial⟩, trivial⟩, ⟨cb185, ⟨cb184, trivial, trivial⟩, trivial⟩⟩, ⟨cb189, ⟨cb188, ⟨cb187, trivial, trivial⟩, trivial⟩, ⟨cb190, trivial, trivial⟩⟩⟩⟩⟩⟩⟩
theorem cbA {T : FuncId} {i : Unit} (h : lookT cbTab T = some i) : callB Try.prog T = true := cbT.look h
end Go.Proofs.Ytjkidecaciomgaa
