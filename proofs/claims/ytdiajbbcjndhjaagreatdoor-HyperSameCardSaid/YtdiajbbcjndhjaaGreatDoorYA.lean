/- The place's own tables. -/
import Derived.Test.YtdiajbbcjndhjaaGreatDoorXZ
import Derived.Test.YtdiajbbcjndhjaaGreatDoorProg
namespace Go.Xa
open Go.RowKit Go.Proofs
set_option maxRecDepth 100000

def ti1 : TI := ⟨1, 8, TK.func, [(D.lit Value.nilFunc)]⟩
theorem ti1_ok : TOk Tryz.prog 1 ti1 := tblOf_ok (by kernel_rfl)
def ti2 : TI := ⟨1, 8, (TK.int IntKind.i64), [(D.int IntKind.i64 0)]⟩
theorem ti2_ok : TOk Tryz.prog 2 ti2 := tblOf_ok (by kernel_rfl)
def ti3 : TI := ⟨1, 8, (TK.int IntKind.i64), [(D.int IntKind.i64 0)]⟩
theorem ti3_ok : TOk Tryz.prog 3 ti3 := tblOf_ok (by kernel_rfl)
def ti4 : TI := ⟨1, 1, TK.bool, [(D.bool false)]⟩
theorem ti4_ok : TOk Tryz.prog 4 ti4 := tblOf_ok (by kernel_rfl)
def ti5 : TI := ⟨1, 1, (TK.int IntKind.u8), [(D.int IntKind.u8 0)]⟩
theorem ti5_ok : TOk Tryz.prog 5 ti5 := tblOf_ok (by kernel_rfl)
def ti6 : TI := ⟨1, 1, (TK.int IntKind.u8), [(D.int IntKind.u8 0)]⟩
theorem ti6_ok : TOk Tryz.prog 6 ti6 := tblOf_ok (by kernel_rfl)
def ti7 : TI := ⟨4, 24, (TK.struct [(0, 2), (1, 3), (2, 4), (3, 6)]), [(D.int IntKind.i64 0), (D.int IntKind.i64 0), (D.bool false), (D.int IntKind.u8 0)]⟩
theorem ti7_ok : TOk Tryz.prog 7 ti7 := tblOf_ok (by kernel_rfl)
def ti8 : TI := ⟨4, 24, (TK.struct [(0, 2), (1, 3), (2, 4), (3, 6)]), [(D.int IntKind.i64 0), (D.int IntKind.i64 0), (D.bool false), (D.int IntKind.u8 0)]⟩
theorem ti8_ok : TOk Tryz.prog 8 ti8 := tblOf_ok (by kernel_rfl)
def ti9 : TI := ⟨1, 16, TK.str, [(D.str [])]⟩
theorem ti9_ok : TOk Tryz.prog 9 ti9 := tblOf_ok (by kernel_rfl)
def ti10 : TI := ⟨1, 16, TK.str, [(D.str [])]⟩
theorem ti10_ok : TOk Tryz.prog 10 ti10 := tblOf_ok (by kernel_rfl)
def ti11 : TI := ⟨1, 16, TK.str, [(D.str [])]⟩
theorem ti11_ok : TOk Tryz.prog 11 ti11 := tblOf_ok (by kernel_rfl)
def ti12 : TI := ⟨1, 8, (TK.int IntKind.u64), [(D.int IntKind.u64 0)]⟩
theorem ti12_ok : TOk Tryz.prog 12 ti12 := tblOf_ok (by kernel_rfl)
def ti15 : TI := ⟨1, 8, (TK.ptr 377), [(D.lit (Value.pointer none))]⟩
theorem ti15_ok : TOk Tryz.prog 15 ti15 := tblOf_ok (by kernel_rfl)
def ti16 : TI := ⟨1, 8, (TK.ptr 380), [(D.lit (Value.pointer none))]⟩
theorem ti16_ok : TOk Tryz.prog 16 ti16 := tblOf_ok (by kernel_rfl)
def ti17 : TI := ⟨1, 8, (TK.ptr 387), [(D.lit (Value.pointer none))]⟩
theorem ti17_ok : TOk Tryz.prog 17 ti17 := tblOf_ok (by kernel_rfl)
def ti21 : TI := ⟨1, 4, (TK.int IntKind.i32), [(D.int IntKind.i32 0)]⟩
theorem ti21_ok : TOk Tryz.prog 21 ti21 := tblOf_ok (by kernel_rfl)
def ti22 : TI := ⟨1, 24, (TK.slice 151), [(D.lit (Value.slice none 0 0))]⟩
theorem ti22_ok : TOk Tryz.prog 22 ti22 := tblOf_ok (by kernel_rfl)
def ti23 : TI := ⟨1, 24, (TK.slice 3), [(D.lit (Value.slice none 0 0))]⟩
theorem ti23_ok : TOk Tryz.prog 23 ti23 := tblOf_ok (by kernel_rfl)
def ti24 : TI := ⟨2, 32, (TK.struct [(0, 23), (1, 3)]), [(D.lit (Value.slice none 0 0)), (D.int IntKind.i64 0)]⟩
theorem ti24_ok : TOk Tryz.prog 24 ti24 := tblOf_ok (by kernel_rfl)
def ti25 : TI := ⟨2, 32, (TK.struct [(0, 23), (1, 3)]), [(D.lit (Value.slice none 0 0)), (D.int IntKind.i64 0)]⟩
theorem ti25_ok : TOk Tryz.prog 25 ti25 := tblOf_ok (by kernel_rfl)
def ti26 : TI := ⟨1, 24, (TK.slice 86), [(D.lit (Value.slice none 0 0))]⟩
theorem ti26_ok : TOk Tryz.prog 26 ti26 := tblOf_ok (by kernel_rfl)
def ti27 : TI := ⟨1, 24, (TK.slice 88), [(D.lit (Value.slice none 0 0))]⟩
theorem ti27_ok : TOk Tryz.prog 27 ti27 := tblOf_ok (by kernel_rfl)
def ti28 : TI := ⟨1, 24, (TK.slice 91), [(D.lit (Value.slice none 0 0))]⟩
theorem ti28_ok : TOk Tryz.prog 28 ti28 := tblOf_ok (by kernel_rfl)
def ti29 : TI := ⟨2, 32, (TK.struct [(0, 3), (1, 28)]), [(D.int IntKind.i64 0), (D.lit (Value.slice none 0 0))]⟩
theorem ti29_ok : TOk Tryz.prog 29 ti29 := tblOf_ok (by kernel_rfl)
def ti30 : TI := ⟨2, 32, (TK.struct [(0, 3), (1, 28)]), [(D.int IntKind.i64 0), (D.lit (Value.slice none 0 0))]⟩
theorem ti30_ok : TOk Tryz.prog 30 ti30 := tblOf_ok (by kernel_rfl)
def ti31 : TI := ⟨1, 8, (TK.int IntKind.u64), [(D.int IntKind.u64 0)]⟩
theorem ti31_ok : TOk Tryz.prog 31 ti31 := tblOf_ok (by kernel_rfl)
def ti32 : TI := ⟨1, 24, (TK.slice 9), [(D.lit (Value.slice none 0 0))]⟩
theorem ti32_ok : TOk Tryz.prog 32 ti32 := tblOf_ok (by kernel_rfl)
def ti33 : TI := ⟨1, 24, (TK.slice 94), [(D.lit (Value.slice none 0 0))]⟩
theorem ti33_ok : TOk Tryz.prog 33 ti33 := tblOf_ok (by kernel_rfl)
def ti34 : TI := ⟨1, 24, (TK.slice 84), [(D.lit (Value.slice none 0 0))]⟩
theorem ti34_ok : TOk Tryz.prog 34 ti34 := tblOf_ok (by kernel_rfl)
def ti35 : TI := ⟨1, 24, (TK.slice 72), [(D.lit (Value.slice none 0 0))]⟩
theorem ti35_ok : TOk Tryz.prog 35 ti35 := tblOf_ok (by kernel_rfl)
def ti36 : TI := ⟨1, 24, (TK.slice 97), [(D.lit (Value.slice none 0 0))]⟩
theorem ti36_ok : TOk Tryz.prog 36 ti36 := tblOf_ok (by kernel_rfl)
def ti37 : TI := ⟨17, 320, (TK.struct [(0, 22), (1, 25), (3, 26), (4, 27), (5, 30), (7, 31), (8, 32), (9, 33), (10, 33), (11, 34), (12, 9), (13, 35), (14, 36), (15, 3), (16, 3)]), [(D.lit (Value.slice none 0 0)), (D.lit (Value.slice none 0 0)), (D.int IntKind.i64 0), (D.lit (Value.slice none 0 0)), (D.lit (Value.slice none 0 0)), (D.int IntKind.i64 0), (D.lit (Value.slice none 0 0)), (D.int IntKind.u64 0), (D.lit (Value.slice none 0 0)), (D.lit (Value.slice none 0 0)), (D.lit (Value.slice none 0 0)), (D.lit (Value.slice none 0 0)), (D.str []), (D.lit (Value.slice none 0 0)), (D.lit (Value.slice none 0 0)), (D.int IntKind.i64 0), (D.int IntKind.i64 0)]⟩
theorem ti37_ok : TOk Tryz.prog 37 ti37 := tblOf_ok (by kernel_rfl)
def ti38 : TI := ⟨17, 320, (TK.struct [(0, 22), (1, 25), (3, 26), (4, 27), (5, 30), (7, 31), (8, 32), (9, 33), (10, 33), (11, 34), (12, 9), (13, 35), (14, 36), (15, 3), (16, 3)]), [(D.lit (Value.slice none 0 0)), (D.lit (Value.slice none 0 0)), (D.int IntKind.i64 0), (D.lit (Value.slice none 0 0)), (D.lit (Value.slice none 0 0)), (D.int IntKind.i64 0), (D.lit (Value.slice none 0 0)), (D.int IntKind.u64 0), (D.lit (Value.slice none 0 0)), (D.lit (Value.slice none 0 0)), (D.lit (Value.slice none 0 0)), (D.lit (Value.slice none 0 0)), (D.str []), (D.lit (Value.slice none 0 0)), (D.lit (Value.slice none 0 0)), (D.int IntKind.i64 0), (D.int IntKind.i64 0)]⟩
theorem ti38_ok : TOk Tryz.prog 38 ti38 := tblOf_ok (by kernel_rfl)
def ti39 : TI := ⟨1, 8, TK.func, [(D.lit Value.nilFunc)]⟩
theorem ti39_ok : TOk Tryz.prog 39 ti39 := tblOf_ok (by kernel_rfl)
def ti40 : TI := ⟨1, 8, TK.func, [(D.lit Value.nilFunc)]⟩
theorem ti40_ok : TOk Tryz.prog 40 ti40 := tblOf_ok (by kernel_rfl)
def ti41 : TI := ⟨1, 24, (TK.slice 100), [(D.lit (Value.slice none 0 0))]⟩
theorem ti41_ok : TOk Tryz.prog 41 ti41 := tblOf_ok (by kernel_rfl)
def ti42 : TI := ⟨1, 24, (TK.slice 103), [(D.lit (Value.slice none 0 0))]⟩
theorem ti42_ok : TOk Tryz.prog 42 ti42 := tblOf_ok (by kernel_rfl)
def ti43 : TI := ⟨4, 80, (TK.struct [(0, 41), (1, 3), (2, 42), (3, 33)]), [(D.lit (Value.slice none 0 0)), (D.int IntKind.i64 0), (D.lit (Value.slice none 0 0)), (D.lit (Value.slice none 0 0))]⟩
theorem ti43_ok : TOk Tryz.prog 43 ti43 := tblOf_ok (by kernel_rfl)
def ti44 : TI := ⟨4, 80, (TK.struct [(0, 41), (1, 3), (2, 42), (3, 33)]), [(D.lit (Value.slice none 0 0)), (D.int IntKind.i64 0), (D.lit (Value.slice none 0 0)), (D.lit (Value.slice none 0 0))]⟩
theorem ti44_ok : TOk Tryz.prog 44 ti44 := tblOf_ok (by kernel_rfl)
def ti45 : TI := ⟨1, 24, (TK.slice 32), [(D.lit (Value.slice none 0 0))]⟩
theorem ti45_ok : TOk Tryz.prog 45 ti45 := tblOf_ok (by kernel_rfl)
def ti46 : TI := ⟨6, 112, (TK.struct [(0, 44), (4, 45), (5, 3)]), [(D.lit (Value.slice none 0 0)), (D.int IntKind.i64 0), (D.lit (Value.slice none 0 0)), (D.lit (Value.slice none 0 0)), (D.lit (Value.slice none 0 0)), (D.int IntKind.i64 0)]⟩
theorem ti46_ok : TOk Tryz.prog 46 ti46 := tblOf_ok (by kernel_rfl)
def ti47 : TI := ⟨6, 112, (TK.struct [(0, 44), (4, 45), (5, 3)]), [(D.lit (Value.slice none 0 0)), (D.int IntKind.i64 0), (D.lit (Value.slice none 0 0)), (D.lit (Value.slice none 0 0)), (D.lit (Value.slice none 0 0)), (D.int IntKind.i64 0)]⟩
theorem ti47_ok : TOk Tryz.prog 47 ti47 := tblOf_ok (by kernel_rfl)
def ti48 : TI := ⟨1, 8, TK.func, [(D.lit Value.nilFunc)]⟩
theorem ti48_ok : TOk Tryz.prog 48 ti48 := tblOf_ok (by kernel_rfl)
def ti49 : TI := ⟨1, 24, (TK.slice 63), [(D.lit (Value.slice none 0 0))]⟩
theorem ti49_ok : TOk Tryz.prog 49 ti49 := tblOf_ok (by kernel_rfl)
def ti50 : TI := ⟨1, 24, (TK.slice 112), [(D.lit (Value.slice none 0 0))]⟩
theorem ti50_ok : TOk Tryz.prog 50 ti50 := tblOf_ok (by kernel_rfl)
def ti51 : TI := ⟨11, 184, (TK.struct [(0, 44), (4, 45), (5, 31), (6, 3), (7, 3), (8, 49), (9, 50), (10, 3)]), [(D.lit (Value.slice none 0 0)), (D.int IntKind.i64 0), (D.lit (Value.slice none 0 0)), (D.lit (Value.slice none 0 0)), (D.lit (Value.slice none 0 0)), (D.int IntKind.u64 0), (D.int IntKind.i64 0), (D.int IntKind.i64 0), (D.lit (Value.slice none 0 0)), (D.lit (Value.slice none 0 0)), (D.int IntKind.i64 0)]⟩
theorem ti51_ok : TOk Tryz.prog 51 ti51 := tblOf_ok (by kernel_rfl)
def ti52 : TI := ⟨11, 184, (TK.struct [(0, 44), (4, 45), (5, 31), (6, 3), (7, 3), (8, 49), (9, 50), (10, 3)]), [(D.lit (Value.slice none 0 0)), (D.int IntKind.i64 0), (D.lit (Value.slice none 0 0)), (D.lit (Value.slice none 0 0)), (D.lit (Value.slice none 0 0)), (D.int IntKind.u64 0), (D.int IntKind.i64 0), (D.int IntKind.i64 0), (D.lit (Value.slice none 0 0)), (D.lit (Value.slice none 0 0)), (D.int IntKind.i64 0)]⟩
theorem ti52_ok : TOk Tryz.prog 52 ti52 := tblOf_ok (by kernel_rfl)
def ti53 : TI := ⟨1, 8, (TK.int IntKind.i64), [(D.int IntKind.i64 0)]⟩
theorem ti53_ok : TOk Tryz.prog 53 ti53 := tblOf_ok (by kernel_rfl)
def ti55 : TI := ⟨1, 8, TK.func, [(D.lit Value.nilFunc)]⟩
theorem ti55_ok : TOk Tryz.prog 55 ti55 := tblOf_ok (by kernel_rfl)
def ti57 : TI := ⟨1, 8, TK.func, [(D.lit Value.nilFunc)]⟩
theorem ti57_ok : TOk Tryz.prog 57 ti57 := tblOf_ok (by kernel_rfl)
def ti58 : TI := ⟨1, 8, TK.func, [(D.lit Value.nilFunc)]⟩
theorem ti58_ok : TOk Tryz.prog 58 ti58 := tblOf_ok (by kernel_rfl)
def ti59 : TI := ⟨1, 8, TK.func, [(D.lit Value.nilFunc)]⟩
theorem ti59_ok : TOk Tryz.prog 59 ti59 := tblOf_ok (by kernel_rfl)
def ti60 : TI := ⟨1, 8, TK.func, [(D.lit Value.nilFunc)]⟩
theorem ti60_ok : TOk Tryz.prog 60 ti60 := tblOf_ok (by kernel_rfl)
def ti61 : TI := ⟨1, 8, TK.func, [(D.lit Value.nilFunc)]⟩
theorem ti61_ok : TOk Tryz.prog 61 ti61 := tblOf_ok (by kernel_rfl)
def ti62 : TI := ⟨19, 336, (TK.struct [(0, 38), (17, 3), (18, 3)]), [(D.lit (Value.slice none 0 0)), (D.lit (Value.slice none 0 0)), (D.int IntKind.i64 0), (D.lit (Value.slice none 0 0)), (D.lit (Value.slice none 0 0)), (D.int IntKind.i64 0), (D.lit (Value.slice none 0 0)), (D.int IntKind.u64 0), (D.lit (Value.slice none 0 0)), (D.lit (Value.slice none 0 0)), (D.lit (Value.slice none 0 0)), (D.lit (Value.slice none 0 0)), (D.str []), (D.lit (Value.slice none 0 0)), (D.lit (Value.slice none 0 0)), (D.int IntKind.i64 0), (D.int IntKind.i64 0), (D.int IntKind.i64 0), (D.int IntKind.i64 0)]⟩
theorem ti62_ok : TOk Tryz.prog 62 ti62 := tblOf_ok (by kernel_rfl)
def ti63 : TI := ⟨19, 336, (TK.struct [(0, 38), (17, 3), (18, 3)]), [(D.lit (Value.slice none 0 0)), (D.lit (Value.slice none 0 0)), (D.int IntKind.i64 0), (D.lit (Value.slice none 0 0)), (D.lit (Value.slice none 0 0)), (D.int IntKind.i64 0), (D.lit (Value.slice none 0 0)), (D.int IntKind.u64 0), (D.lit (Value.slice none 0 0)), (D.lit (Value.slice none 0 0)), (D.lit (Value.slice none 0 0)), (D.lit (Value.slice none 0 0)), (D.str []), (D.lit (Value.slice none 0 0)), (D.lit (Value.slice none 0 0)), (D.int IntKind.i64 0), (D.int IntKind.i64 0), (D.int IntKind.i64 0), (D.int IntKind.i64 0)]⟩
theorem ti63_ok : TOk Tryz.prog 63 ti63 := tblOf_ok (by kernel_rfl)
def ti64 : TI := ⟨1, 8, TK.func, [(D.lit Value.nilFunc)]⟩
theorem ti64_ok : TOk Tryz.prog 64 ti64 := tblOf_ok (by kernel_rfl)
def ti65 : TI := ⟨1, 8, TK.func, [(D.lit Value.nilFunc)]⟩
theorem ti65_ok : TOk Tryz.prog 65 ti65 := tblOf_ok (by kernel_rfl)
def ti66 : TI := ⟨1, 8, TK.func, [(D.lit Value.nilFunc)]⟩
theorem ti66_ok : TOk Tryz.prog 66 ti66 := tblOf_ok (by kernel_rfl)
def ti67 : TI := ⟨1, 8, TK.func, [(D.lit Value.nilFunc)]⟩
theorem ti67_ok : TOk Tryz.prog 67 ti67 := tblOf_ok (by kernel_rfl)
def ti68 : TI := ⟨4, 32, (TK.struct [(0, 3), (1, 3), (2, 3), (3, 3)]), [(D.int IntKind.i64 0), (D.int IntKind.i64 0), (D.int IntKind.i64 0), (D.int IntKind.i64 0)]⟩
theorem ti68_ok : TOk Tryz.prog 68 ti68 := tblOf_ok (by kernel_rfl)
def ti69 : TI := ⟨4, 32, (TK.struct [(0, 3), (1, 3), (2, 3), (3, 3)]), [(D.int IntKind.i64 0), (D.int IntKind.i64 0), (D.int IntKind.i64 0), (D.int IntKind.i64 0)]⟩
theorem ti69_ok : TOk Tryz.prog 69 ti69 := tblOf_ok (by kernel_rfl)
def ti70 : TI := ⟨1, 4, (TK.int IntKind.u32), [(D.int IntKind.u32 0)]⟩
theorem ti70_ok : TOk Tryz.prog 70 ti70 := tblOf_ok (by kernel_rfl)
def ti71 : TI := ⟨4, 24, (TK.struct [(0, 3), (1, 70), (2, 70), (3, 31)]), [(D.int IntKind.i64 0), (D.int IntKind.u32 0), (D.int IntKind.u32 0), (D.int IntKind.u64 0)]⟩
theorem ti71_ok : TOk Tryz.prog 71 ti71 := tblOf_ok (by kernel_rfl)
def ti72 : TI := ⟨4, 24, (TK.struct [(0, 3), (1, 70), (2, 70), (3, 31)]), [(D.int IntKind.i64 0), (D.int IntKind.u32 0), (D.int IntKind.u32 0), (D.int IntKind.u64 0)]⟩
theorem ti72_ok : TOk Tryz.prog 72 ti72 := tblOf_ok (by kernel_rfl)
def ti73 : TI := ⟨1, 8, TK.func, [(D.lit Value.nilFunc)]⟩
theorem ti73_ok : TOk Tryz.prog 73 ti73 := tblOf_ok (by kernel_rfl)
def ti74 : TI := ⟨1, 8, TK.func, [(D.lit Value.nilFunc)]⟩
theorem ti74_ok : TOk Tryz.prog 74 ti74 := tblOf_ok (by kernel_rfl)
def ti75 : TI := ⟨1, 8, TK.func, [(D.lit Value.nilFunc)]⟩
theorem ti75_ok : TOk Tryz.prog 75 ti75 := tblOf_ok (by kernel_rfl)
def ti76 : TI := ⟨1, 8, TK.func, [(D.lit Value.nilFunc)]⟩
theorem ti76_ok : TOk Tryz.prog 76 ti76 := tblOf_ok (by kernel_rfl)
def ti77 : TI := ⟨1, 8, TK.func, [(D.lit Value.nilFunc)]⟩
theorem ti77_ok : TOk Tryz.prog 77 ti77 := tblOf_ok (by kernel_rfl)
def ti78 : TI := ⟨1, 8, TK.func, [(D.lit Value.nilFunc)]⟩
theorem ti78_ok : TOk Tryz.prog 78 ti78 := tblOf_ok (by kernel_rfl)
def ti79 : TI := ⟨1, 8, TK.func, [(D.lit Value.nilFunc)]⟩
theorem ti79_ok : TOk Tryz.prog 79 ti79 := tblOf_ok (by kernel_rfl)
def ti80 : TI := ⟨1, 8, TK.func, [(D.lit Value.nilFunc)]⟩
theorem ti80_ok : TOk Tryz.prog 80 ti80 := tblOf_ok (by kernel_rfl)
def ti81 : TI := ⟨1, 8, TK.func, [(D.lit Value.nilFunc)]⟩
theorem ti81_ok : TOk Tryz.prog 81 ti81 := tblOf_ok (by kernel_rfl)
def ti82 : TI := ⟨1, 24, (TK.slice 157), [(D.lit (Value.slice none 0 0))]⟩
theorem ti82_ok : TOk Tryz.prog 82 ti82 := tblOf_ok (by kernel_rfl)
def ti83 : TI := ⟨2, 32, (TK.struct [(0, 82), (1, 3)]), [(D.lit (Value.slice none 0 0)), (D.int IntKind.i64 0)]⟩
theorem ti83_ok : TOk Tryz.prog 83 ti83 := tblOf_ok (by kernel_rfl)
def ti84 : TI := ⟨2, 32, (TK.struct [(0, 82), (1, 3)]), [(D.lit (Value.slice none 0 0)), (D.int IntKind.i64 0)]⟩
theorem ti84_ok : TOk Tryz.prog 84 ti84 := tblOf_ok (by kernel_rfl)
def ti85 : TI := ⟨2, 16, (TK.struct [(0, 31), (1, 3)]), [(D.int IntKind.u64 0), (D.int IntKind.i64 0)]⟩
theorem ti85_ok : TOk Tryz.prog 85 ti85 := tblOf_ok (by kernel_rfl)
def ti86 : TI := ⟨2, 16, (TK.struct [(0, 31), (1, 3)]), [(D.int IntKind.u64 0), (D.int IntKind.i64 0)]⟩
theorem ti86_ok : TOk Tryz.prog 86 ti86 := tblOf_ok (by kernel_rfl)
def ti87 : TI := ⟨3, 32, (TK.struct [(0, 9), (1, 3), (2, 3)]), [(D.str []), (D.int IntKind.i64 0), (D.int IntKind.i64 0)]⟩
theorem ti87_ok : TOk Tryz.prog 87 ti87 := tblOf_ok (by kernel_rfl)
def ti88 : TI := ⟨3, 32, (TK.struct [(0, 9), (1, 3), (2, 3)]), [(D.str []), (D.int IntKind.i64 0), (D.int IntKind.i64 0)]⟩
theorem ti88_ok : TOk Tryz.prog 88 ti88 := tblOf_ok (by kernel_rfl)
def ti89 : TI := ⟨1, 8, TK.func, [(D.lit Value.nilFunc)]⟩
theorem ti89_ok : TOk Tryz.prog 89 ti89 := tblOf_ok (by kernel_rfl)
def ti90 : TI := ⟨3, 24, (TK.struct [(0, 3), (1, 3), (2, 3)]), [(D.int IntKind.i64 0), (D.int IntKind.i64 0), (D.int IntKind.i64 0)]⟩
theorem ti90_ok : TOk Tryz.prog 90 ti90 := tblOf_ok (by kernel_rfl)
def ti91 : TI := ⟨3, 24, (TK.struct [(0, 3), (1, 3), (2, 3)]), [(D.int IntKind.i64 0), (D.int IntKind.i64 0), (D.int IntKind.i64 0)]⟩
theorem ti91_ok : TOk Tryz.prog 91 ti91 := tblOf_ok (by kernel_rfl)
def ti92 : TI := ⟨1, 8, TK.func, [(D.lit Value.nilFunc)]⟩
theorem ti92_ok : TOk Tryz.prog 92 ti92 := tblOf_ok (by kernel_rfl)
def ti93 : TI := ⟨5, 40, (TK.struct [(0, 3), (1, 3), (2, 3), (3, 3), (4, 3)]), [(D.int IntKind.i64 0), (D.int IntKind.i64 0), (D.int IntKind.i64 0), (D.int IntKind.i64 0), (D.int IntKind.i64 0)]⟩
theorem ti93_ok : TOk Tryz.prog 93 ti93 := tblOf_ok (by kernel_rfl)
def ti94 : TI := ⟨5, 40, (TK.struct [(0, 3), (1, 3), (2, 3), (3, 3), (4, 3)]), [(D.int IntKind.i64 0), (D.int IntKind.i64 0), (D.int IntKind.i64 0), (D.int IntKind.i64 0), (D.int IntKind.i64 0)]⟩
theorem ti94_ok : TOk Tryz.prog 94 ti94 := tblOf_ok (by kernel_rfl)
def ti95 : TI := ⟨1, 8, TK.func, [(D.lit Value.nilFunc)]⟩
theorem ti95_ok : TOk Tryz.prog 95 ti95 := tblOf_ok (by kernel_rfl)
def ti96 : TI := ⟨2, 24, (TK.struct [(0, 3), (1, 9)]), [(D.int IntKind.i64 0), (D.str [])]⟩
theorem ti96_ok : TOk Tryz.prog 96 ti96 := tblOf_ok (by kernel_rfl)
def ti97 : TI := ⟨2, 24, (TK.struct [(0, 3), (1, 9)]), [(D.int IntKind.i64 0), (D.str [])]⟩
theorem ti97_ok : TOk Tryz.prog 97 ti97 := tblOf_ok (by kernel_rfl)
def ti98 : TI := ⟨3, 24, (TK.arr 3 3), [(D.int IntKind.i64 0), (D.int IntKind.i64 0), (D.int IntKind.i64 0)]⟩
theorem ti98_ok : TOk Tryz.prog 98 ti98 := tblOf_ok (by kernel_rfl)
def ti99 : TI := ⟨4, 32, (TK.struct [(0, 3), (1, 98)]), [(D.int IntKind.i64 0), (D.int IntKind.i64 0), (D.int IntKind.i64 0), (D.int IntKind.i64 0)]⟩
theorem ti99_ok : TOk Tryz.prog 99 ti99 := tblOf_ok (by kernel_rfl)
def ti100 : TI := ⟨4, 32, (TK.struct [(0, 3), (1, 98)]), [(D.int IntKind.i64 0), (D.int IntKind.i64 0), (D.int IntKind.i64 0), (D.int IntKind.i64 0)]⟩
theorem ti100_ok : TOk Tryz.prog 100 ti100 := tblOf_ok (by kernel_rfl)
def ti101 : TI := ⟨3, 24, (TK.struct [(0, 3), (1, 3), (2, 3)]), [(D.int IntKind.i64 0), (D.int IntKind.i64 0), (D.int IntKind.i64 0)]⟩
theorem ti101_ok : TOk Tryz.prog 101 ti101 := tblOf_ok (by kernel_rfl)
def ti102 : TI := ⟨3, 24, (TK.struct [(0, 3), (1, 3), (2, 3)]), [(D.int IntKind.i64 0), (D.int IntKind.i64 0), (D.int IntKind.i64 0)]⟩
theorem ti102_ok : TOk Tryz.prog 102 ti102 := tblOf_ok (by kernel_rfl)
def ti103 : TI := ⟨1, 24, (TK.slice 102), [(D.lit (Value.slice none 0 0))]⟩
theorem ti103_ok : TOk Tryz.prog 103 ti103 := tblOf_ok (by kernel_rfl)
def ti104 : TI := ⟨1, 8, TK.func, [(D.lit Value.nilFunc)]⟩
theorem ti104_ok : TOk Tryz.prog 104 ti104 := tblOf_ok (by kernel_rfl)
def ti105 : TI := ⟨1, 8, TK.func, [(D.lit Value.nilFunc)]⟩
theorem ti105_ok : TOk Tryz.prog 105 ti105 := tblOf_ok (by kernel_rfl)
def ti106 : TI := ⟨1, 8, TK.func, [(D.lit Value.nilFunc)]⟩
theorem ti106_ok : TOk Tryz.prog 106 ti106 := tblOf_ok (by kernel_rfl)
def ti107 : TI := ⟨1, 8, TK.func, [(D.lit Value.nilFunc)]⟩
theorem ti107_ok : TOk Tryz.prog 107 ti107 := tblOf_ok (by kernel_rfl)
def ti108 : TI := ⟨1, 8, TK.func, [(D.lit Value.nilFunc)]⟩
theorem ti108_ok : TOk Tryz.prog 108 ti108 := tblOf_ok (by kernel_rfl)
def ti109 : TI := ⟨1, 8, TK.func, [(D.lit Value.nilFunc)]⟩
theorem ti109_ok : TOk Tryz.prog 109 ti109 := tblOf_ok (by kernel_rfl)
def ti110 : TI := ⟨1, 8, TK.func, [(D.lit Value.nilFunc)]⟩
theorem ti110_ok : TOk Tryz.prog 110 ti110 := tblOf_ok (by kernel_rfl)
def ti111 : TI := ⟨1, 8, TK.func, [(D.lit Value.nilFunc)]⟩
theorem ti111_ok : TOk Tryz.prog 111 ti111 := tblOf_ok (by kernel_rfl)
def ti112 : TI := ⟨1, 24, (TK.slice 125), [(D.lit (Value.slice none 0 0))]⟩
theorem ti112_ok : TOk Tryz.prog 112 ti112 := tblOf_ok (by kernel_rfl)
def ti114 : TI := ⟨1, 8, TK.func, [(D.lit Value.nilFunc)]⟩
theorem ti114_ok : TOk Tryz.prog 114 ti114 := tblOf_ok (by kernel_rfl)
def ti115 : TI := ⟨1, 8, TK.func, [(D.lit Value.nilFunc)]⟩
theorem ti115_ok : TOk Tryz.prog 115 ti115 := tblOf_ok (by kernel_rfl)
def ti116 : TI := ⟨1, 8, TK.func, [(D.lit Value.nilFunc)]⟩
theorem ti116_ok : TOk Tryz.prog 116 ti116 := tblOf_ok (by kernel_rfl)
def ti117 : TI := ⟨1, 8, TK.func, [(D.lit Value.nilFunc)]⟩
theorem ti117_ok : TOk Tryz.prog 117 ti117 := tblOf_ok (by kernel_rfl)
def ti118 : TI := ⟨1, 8, TK.func, [(D.lit Value.nilFunc)]⟩
theorem ti118_ok : TOk Tryz.prog 118 ti118 := tblOf_ok (by kernel_rfl)
def ti119 : TI := ⟨1, 8, TK.func, [(D.lit Value.nilFunc)]⟩
theorem ti119_ok : TOk Tryz.prog 119 ti119 := tblOf_ok (by kernel_rfl)
def ti120 : TI := ⟨2, 16, (TK.struct [(0, 3), (1, 3)]), [(D.int IntKind.i64 0), (D.int IntKind.i64 0)]⟩
theorem ti120_ok : TOk Tryz.prog 120 ti120 := tblOf_ok (by kernel_rfl)
def ti121 : TI := ⟨2, 16, (TK.struct [(0, 3), (1, 3)]), [(D.int IntKind.i64 0), (D.int IntKind.i64 0)]⟩
theorem ti121_ok : TOk Tryz.prog 121 ti121 := tblOf_ok (by kernel_rfl)
def ti123 : TI := ⟨1, 8, TK.func, [(D.lit Value.nilFunc)]⟩
theorem ti123_ok : TOk Tryz.prog 123 ti123 := tblOf_ok (by kernel_rfl)
def ti124 : TI := ⟨3, 32, (TK.struct [(0, 31), (1, 3), (2, 9)]), [(D.int IntKind.u64 0), (D.int IntKind.i64 0), (D.str [])]⟩
theorem ti124_ok : TOk Tryz.prog 124 ti124 := tblOf_ok (by kernel_rfl)
def ti125 : TI := ⟨3, 32, (TK.struct [(0, 31), (1, 3), (2, 9)]), [(D.int IntKind.u64 0), (D.int IntKind.i64 0), (D.str [])]⟩
theorem ti125_ok : TOk Tryz.prog 125 ti125 := tblOf_ok (by kernel_rfl)
def ti126 : TI := ⟨1, 8, TK.func, [(D.lit Value.nilFunc)]⟩
theorem ti126_ok : TOk Tryz.prog 126 ti126 := tblOf_ok (by kernel_rfl)
def ti127 : TI := ⟨1, 8, TK.func, [(D.lit Value.nilFunc)]⟩
theorem ti127_ok : TOk Tryz.prog 127 ti127 := tblOf_ok (by kernel_rfl)
def ti128 : TI := ⟨1, 8, TK.func, [(D.lit Value.nilFunc)]⟩
theorem ti128_ok : TOk Tryz.prog 128 ti128 := tblOf_ok (by kernel_rfl)
def ti129 : TI := ⟨1, 8, TK.func, [(D.lit Value.nilFunc)]⟩
theorem ti129_ok : TOk Tryz.prog 129 ti129 := tblOf_ok (by kernel_rfl)
def ti130 : TI := ⟨1, 8, TK.func, [(D.lit Value.nilFunc)]⟩
theorem ti130_ok : TOk Tryz.prog 130 ti130 := tblOf_ok (by kernel_rfl)
def ti131 : TI := ⟨1, 8, (TK.ptr 135), [(D.lit (Value.pointer none))]⟩
theorem ti131_ok : TOk Tryz.prog 131 ti131 := tblOf_ok (by kernel_rfl)
def ti132 : TI := ⟨1, 8, TK.func, [(D.lit Value.nilFunc)]⟩
theorem ti132_ok : TOk Tryz.prog 132 ti132 := tblOf_ok (by kernel_rfl)
def ti133 : TI := ⟨1, 8, TK.func, [(D.lit Value.nilFunc)]⟩
theorem ti133_ok : TOk Tryz.prog 133 ti133 := tblOf_ok (by kernel_rfl)
def ti134 : TI := ⟨17, 320, (TK.struct [(0, 38)]), [(D.lit (Value.slice none 0 0)), (D.lit (Value.slice none 0 0)), (D.int IntKind.i64 0), (D.lit (Value.slice none 0 0)), (D.lit (Value.slice none 0 0)), (D.int IntKind.i64 0), (D.lit (Value.slice none 0 0)), (D.int IntKind.u64 0), (D.lit (Value.slice none 0 0)), (D.lit (Value.slice none 0 0)), (D.lit (Value.slice none 0 0)), (D.lit (Value.slice none 0 0)), (D.str []), (D.lit (Value.slice none 0 0)), (D.lit (Value.slice none 0 0)), (D.int IntKind.i64 0), (D.int IntKind.i64 0)]⟩
theorem ti134_ok : TOk Tryz.prog 134 ti134 := tblOf_ok (by kernel_rfl)
def ti135 : TI := ⟨17, 320, (TK.struct [(0, 38)]), [(D.lit (Value.slice none 0 0)), (D.lit (Value.slice none 0 0)), (D.int IntKind.i64 0), (D.lit (Value.slice none 0 0)), (D.lit (Value.slice none 0 0)), (D.int IntKind.i64 0), (D.lit (Value.slice none 0 0)), (D.int IntKind.u64 0), (D.lit (Value.slice none 0 0)), (D.lit (Value.slice none 0 0)), (D.lit (Value.slice none 0 0)), (D.lit (Value.slice none 0 0)), (D.str []), (D.lit (Value.slice none 0 0)), (D.lit (Value.slice none 0 0)), (D.int IntKind.i64 0), (D.int IntKind.i64 0)]⟩
theorem ti135_ok : TOk Tryz.prog 135 ti135 := tblOf_ok (by kernel_rfl)
def ti137 : TI := ⟨1, 8, TK.func, [(D.lit Value.nilFunc)]⟩
theorem ti137_ok : TOk Tryz.prog 137 ti137 := tblOf_ok (by kernel_rfl)
def ti139 : TI := ⟨1, 8, TK.func, [(D.lit Value.nilFunc)]⟩
theorem ti139_ok : TOk Tryz.prog 139 ti139 := tblOf_ok (by kernel_rfl)
def ti141 : TI := ⟨1, 8, TK.func, [(D.lit Value.nilFunc)]⟩
theorem ti141_ok : TOk Tryz.prog 141 ti141 := tblOf_ok (by kernel_rfl)
def ti142 : TI := ⟨8, 32, (TK.arr 8 70), [(D.int IntKind.u32 0), (D.int IntKind.u32 0), (D.int IntKind.u32 0), (D.int IntKind.u32 0), (D.int IntKind.u32 0), (D.int IntKind.u32 0), (D.int IntKind.u32 0), (D.int IntKind.u32 0)]⟩
theorem ti142_ok : TOk Tryz.prog 142 ti142 := tblOf_ok (by kernel_rfl)
def ti143 : TI := ⟨9, 36, (TK.struct [(0, 142), (8, 70)]), [(D.int IntKind.u32 0), (D.int IntKind.u32 0), (D.int IntKind.u32 0), (D.int IntKind.u32 0), (D.int IntKind.u32 0), (D.int IntKind.u32 0), (D.int IntKind.u32 0), (D.int IntKind.u32 0), (D.int IntKind.u32 0)]⟩
theorem ti143_ok : TOk Tryz.prog 143 ti143 := tblOf_ok (by kernel_rfl)
def ti144 : TI := ⟨9, 36, (TK.struct [(0, 142), (8, 70)]), [(D.int IntKind.u32 0), (D.int IntKind.u32 0), (D.int IntKind.u32 0), (D.int IntKind.u32 0), (D.int IntKind.u32 0), (D.int IntKind.u32 0), (D.int IntKind.u32 0), (D.int IntKind.u32 0), (D.int IntKind.u32 0)]⟩
theorem ti144_ok : TOk Tryz.prog 144 ti144 := tblOf_ok (by kernel_rfl)
def ti145 : TI := ⟨2, 16, (TK.struct [(0, 3), (1, 4)]), [(D.int IntKind.i64 0), (D.bool false)]⟩
theorem ti145_ok : TOk Tryz.prog 145 ti145 := tblOf_ok (by kernel_rfl)
def ti146 : TI := ⟨2, 16, (TK.struct [(0, 3), (1, 4)]), [(D.int IntKind.i64 0), (D.bool false)]⟩
theorem ti146_ok : TOk Tryz.prog 146 ti146 := tblOf_ok (by kernel_rfl)
def ti147 : TI := ⟨8, 64, (TK.arr 4 146), [(D.int IntKind.i64 0), (D.bool false), (D.int IntKind.i64 0), (D.bool false), (D.int IntKind.i64 0), (D.bool false), (D.int IntKind.i64 0), (D.bool false)]⟩
theorem ti147_ok : TOk Tryz.prog 147 ti147 := tblOf_ok (by kernel_rfl)
def ti148 : TI := ⟨4, 16, (TK.struct [(0, 70), (1, 70), (2, 70), (3, 70)]), [(D.int IntKind.u32 0), (D.int IntKind.u32 0), (D.int IntKind.u32 0), (D.int IntKind.u32 0)]⟩
theorem ti148_ok : TOk Tryz.prog 148 ti148 := tblOf_ok (by kernel_rfl)
def ti149 : TI := ⟨4, 16, (TK.struct [(0, 70), (1, 70), (2, 70), (3, 70)]), [(D.int IntKind.u32 0), (D.int IntKind.u32 0), (D.int IntKind.u32 0), (D.int IntKind.u32 0)]⟩
theorem ti149_ok : TOk Tryz.prog 149 ti149 := tblOf_ok (by kernel_rfl)
def ti150 : TI := ⟨26, 168, (TK.struct [(0, 3), (1, 3), (2, 3), (3, 144), (12, 9), (13, 3), (14, 147), (22, 149)]), [(D.int IntKind.i64 0), (D.int IntKind.i64 0), (D.int IntKind.i64 0), (D.int IntKind.u32 0), (D.int IntKind.u32 0), (D.int IntKind.u32 0), (D.int IntKind.u32 0), (D.int IntKind.u32 0), (D.int IntKind.u32 0), (D.int IntKind.u32 0), (D.int IntKind.u32 0), (D.int IntKind.u32 0), (D.str []), (D.int IntKind.i64 0), (D.int IntKind.i64 0), (D.bool false), (D.int IntKind.i64 0), (D.bool false), (D.int IntKind.i64 0), (D.bool false), (D.int IntKind.i64 0), (D.bool false), (D.int IntKind.u32 0), (D.int IntKind.u32 0), (D.int IntKind.u32 0), (D.int IntKind.u32 0)]⟩
theorem ti150_ok : TOk Tryz.prog 150 ti150 := tblOf_ok (by kernel_rfl)
def ti151 : TI := ⟨26, 168, (TK.struct [(0, 3), (1, 3), (2, 3), (3, 144), (12, 9), (13, 3), (14, 147), (22, 149)]), [(D.int IntKind.i64 0), (D.int IntKind.i64 0), (D.int IntKind.i64 0), (D.int IntKind.u32 0), (D.int IntKind.u32 0), (D.int IntKind.u32 0), (D.int IntKind.u32 0), (D.int IntKind.u32 0), (D.int IntKind.u32 0), (D.int IntKind.u32 0), (D.int IntKind.u32 0), (D.int IntKind.u32 0), (D.str []), (D.int IntKind.i64 0), (D.int IntKind.i64 0), (D.bool false), (D.int IntKind.i64 0), (D.bool false), (D.int IntKind.i64 0), (D.bool false), (D.int IntKind.i64 0), (D.bool false), (D.int IntKind.u32 0), (D.int IntKind.u32 0), (D.int IntKind.u32 0), (D.int IntKind.u32 0)]⟩
theorem ti151_ok : TOk Tryz.prog 151 ti151 := tblOf_ok (by kernel_rfl)
def ti152 : TI := ⟨1, 24, (TK.slice 69), [(D.lit (Value.slice none 0 0))]⟩
theorem ti152_ok : TOk Tryz.prog 152 ti152 := tblOf_ok (by kernel_rfl)
def ti154 : TI := ⟨1, 8, TK.func, [(D.lit Value.nilFunc)]⟩
theorem ti154_ok : TOk Tryz.prog 154 ti154 := tblOf_ok (by kernel_rfl)
def ti155 : TI := ⟨1, 8, TK.func, [(D.lit Value.nilFunc)]⟩
theorem ti155_ok : TOk Tryz.prog 155 ti155 := tblOf_ok (by kernel_rfl)
def ti156 : TI := ⟨2, 24, (TK.struct [(0, 31), (1, 9)]), [(D.int IntKind.u64 0), (D.str [])]⟩
theorem ti156_ok : TOk Tryz.prog 156 ti156 := tblOf_ok (by kernel_rfl)
def ti157 : TI := ⟨2, 24, (TK.struct [(0, 31), (1, 9)]), [(D.int IntKind.u64 0), (D.str [])]⟩
theorem ti157_ok : TOk Tryz.prog 157 ti157 := tblOf_ok (by kernel_rfl)
def ti158 : TI := ⟨1, 8, TK.func, [(D.lit Value.nilFunc)]⟩
theorem ti158_ok : TOk Tryz.prog 158 ti158 := tblOf_ok (by kernel_rfl)
def ti159 : TI := ⟨1, 8, TK.func, [(D.lit Value.nilFunc)]⟩
theorem ti159_ok : TOk Tryz.prog 159 ti159 := tblOf_ok (by kernel_rfl)
def ti160 : TI := ⟨1, 8, TK.func, [(D.lit Value.nilFunc)]⟩
theorem ti160_ok : TOk Tryz.prog 160 ti160 := tblOf_ok (by kernel_rfl)
def ti161 : TI := ⟨1, 24, (TK.slice 157), [(D.lit (Value.slice none 0 0))]⟩
theorem ti161_ok : TOk Tryz.prog 161 ti161 := tblOf_ok (by kernel_rfl)
def ti162 : TI := ⟨1, 8, TK.func, [(D.lit Value.nilFunc)]⟩
theorem ti162_ok : TOk Tryz.prog 162 ti162 := tblOf_ok (by kernel_rfl)
def ti163 : TI := ⟨1, 8, TK.func, [(D.lit Value.nilFunc)]⟩
theorem ti163_ok : TOk Tryz.prog 163 ti163 := tblOf_ok (by kernel_rfl)
def ti164 : TI := ⟨1, 8, TK.func, [(D.lit Value.nilFunc)]⟩
theorem ti164_ok : TOk Tryz.prog 164 ti164 := tblOf_ok (by kernel_rfl)
def ti165 : TI := ⟨1, 8, TK.func, [(D.lit Value.nilFunc)]⟩
theorem ti165_ok : TOk Tryz.prog 165 ti165 := tblOf_ok (by kernel_rfl)
def ti166 : TI := ⟨1, 8, TK.func, [(D.lit Value.nilFunc)]⟩
theorem ti166_ok : TOk Tryz.prog 166 ti166 := tblOf_ok (by kernel_rfl)
def ti167 : TI := ⟨1, 8, TK.func, [(D.lit Value.nilFunc)]⟩
theorem ti167_ok : TOk Tryz.prog 167 ti167 := tblOf_ok (by kernel_rfl)
def ti168 : TI := ⟨1, 8, TK.func, [(D.lit Value.nilFunc)]⟩
theorem ti168_ok : TOk Tryz.prog 168 ti168 := tblOf_ok (by kernel_rfl)
def ti169 : TI := ⟨1, 8, TK.func, [(D.lit Value.nilFunc)]⟩
theorem ti169_ok : TOk Tryz.prog 169 ti169 := tblOf_ok (by kernel_rfl)
def ti170 : TI := ⟨1, 8, (TK.ptr 172), [(D.lit (Value.pointer none))]⟩
theorem ti170_ok : TOk Tryz.prog 170 ti170 := tblOf_ok (by kernel_rfl)
def ti171 : TI := ⟨23, 368, (TK.struct [(0, 63), (19, 100)]), [(D.lit (Value.slice none 0 0)), (D.lit (Value.slice none 0 0)), (D.int IntKind.i64 0), (D.lit (Value.slice none 0 0)), (D.lit (Value.slice none 0 0)), (D.int IntKind.i64 0), (D.lit (Value.slice none 0 0)), (D.int IntKind.u64 0), (D.lit (Value.slice none 0 0)), (D.lit (Value.slice none 0 0)), (D.lit (Value.slice none 0 0)), (D.lit (Value.slice none 0 0)), (D.str []), (D.lit (Value.slice none 0 0)), (D.lit (Value.slice none 0 0)), (D.int IntKind.i64 0), (D.int IntKind.i64 0), (D.int IntKind.i64 0), (D.int IntKind.i64 0), (D.int IntKind.i64 0), (D.int IntKind.i64 0), (D.int IntKind.i64 0), (D.int IntKind.i64 0)]⟩
theorem ti171_ok : TOk Tryz.prog 171 ti171 := tblOf_ok (by kernel_rfl)
def ti172 : TI := ⟨23, 368, (TK.struct [(0, 63), (19, 100)]), [(D.lit (Value.slice none 0 0)), (D.lit (Value.slice none 0 0)), (D.int IntKind.i64 0), (D.lit (Value.slice none 0 0)), (D.lit (Value.slice none 0 0)), (D.int IntKind.i64 0), (D.lit (Value.slice none 0 0)), (D.int IntKind.u64 0), (D.lit (Value.slice none 0 0)), (D.lit (Value.slice none 0 0)), (D.lit (Value.slice none 0 0)), (D.lit (Value.slice none 0 0)), (D.str []), (D.lit (Value.slice none 0 0)), (D.lit (Value.slice none 0 0)), (D.int IntKind.i64 0), (D.int IntKind.i64 0), (D.int IntKind.i64 0), (D.int IntKind.i64 0), (D.int IntKind.i64 0), (D.int IntKind.i64 0), (D.int IntKind.i64 0), (D.int IntKind.i64 0)]⟩
theorem ti172_ok : TOk Tryz.prog 172 ti172 := tblOf_ok (by kernel_rfl)
def ti173 : TI := ⟨1, 8, TK.func, [(D.lit Value.nilFunc)]⟩
theorem ti173_ok : TOk Tryz.prog 173 ti173 := tblOf_ok (by kernel_rfl)
def ti174 : TI := ⟨1, 8, TK.func, [(D.lit Value.nilFunc)]⟩
theorem ti174_ok : TOk Tryz.prog 174 ti174 := tblOf_ok (by kernel_rfl)
def ti175 : TI := ⟨1, 8, TK.func, [(D.lit Value.nilFunc)]⟩
theorem ti175_ok : TOk Tryz.prog 175 ti175 := tblOf_ok (by kernel_rfl)
def ti176 : TI := ⟨1, 8, TK.func, [(D.lit Value.nilFunc)]⟩
theorem ti176_ok : TOk Tryz.prog 176 ti176 := tblOf_ok (by kernel_rfl)
def ti177 : TI := ⟨1, 8, TK.func, [(D.lit Value.nilFunc)]⟩
theorem ti177_ok : TOk Tryz.prog 177 ti177 := tblOf_ok (by kernel_rfl)
def ti178 : TI := ⟨1, 8, TK.func, [(D.lit Value.nilFunc)]⟩
theorem ti178_ok : TOk Tryz.prog 178 ti178 := tblOf_ok (by kernel_rfl)
def ti179 : TI := ⟨1, 8, TK.func, [(D.lit Value.nilFunc)]⟩
theorem ti179_ok : TOk Tryz.prog 179 ti179 := tblOf_ok (by kernel_rfl)
def ti180 : TI := ⟨1, 8, TK.func, [(D.lit Value.nilFunc)]⟩
theorem ti180_ok : TOk Tryz.prog 180 ti180 := tblOf_ok (by kernel_rfl)
def ti181 : TI := ⟨1, 8, TK.func, [(D.lit Value.nilFunc)]⟩
theorem ti181_ok : TOk Tryz.prog 181 ti181 := tblOf_ok (by kernel_rfl)
def ti182 : TI := ⟨1, 8, TK.func, [(D.lit Value.nilFunc)]⟩
theorem ti182_ok : TOk Tryz.prog 182 ti182 := tblOf_ok (by kernel_rfl)
def ti183 : TI := ⟨1, 8, TK.func, [(D.lit Value.nilFunc)]⟩
theorem ti183_ok : TOk Tryz.prog 183 ti183 := tblOf_ok (by kernel_rfl)
def ti184 : TI := ⟨1, 8, TK.func, [(D.lit Value.nilFunc)]⟩
theorem ti184_ok : TOk Tryz.prog 184 ti184 := tblOf_ok (by kernel_rfl)
def ti185 : TI := ⟨1, 8, TK.func, [(D.lit Value.nilFunc)]⟩
theorem ti185_ok : TOk Tryz.prog 185 ti185 := tblOf_ok (by kernel_rfl)
def ti186 : TI := ⟨1, 8, TK.func, [(D.lit Value.nilFunc)]⟩
theorem ti186_ok : TOk Tryz.prog 186 ti186 := tblOf_ok (by kernel_rfl)
def ti187 : TI := ⟨1, 8, TK.func, [(D.lit Value.nilFunc)]⟩
theorem ti187_ok : TOk Tryz.prog 187 ti187 := tblOf_ok (by kernel_rfl)
def ti189 : TI := ⟨1, 8, TK.func, [(D.lit Value.nilFunc)]⟩
theorem ti189_ok : TOk Tryz.prog 189 ti189 := tblOf_ok (by kernel_rfl)
def ti190 : TI := ⟨1, 8, TK.func, [(D.lit Value.nilFunc)]⟩
theorem ti190_ok : TOk Tryz.prog 190 ti190 := tblOf_ok (by kernel_rfl)
def ti191 : TI := ⟨1, 8, TK.func, [(D.lit Value.nilFunc)]⟩
theorem ti191_ok : TOk Tryz.prog 191 ti191 := tblOf_ok (by kernel_rfl)
def ti192 : TI := ⟨1, 8, TK.func, [(D.lit Value.nilFunc)]⟩
theorem ti192_ok : TOk Tryz.prog 192 ti192 := tblOf_ok (by kernel_rfl)
def ti193 : TI := ⟨1, 24, (TK.slice 5), [(D.lit (Value.slice none 0 0))]⟩
theorem ti193_ok : TOk Tryz.prog 193 ti193 := tblOf_ok (by kernel_rfl)
def ti195 : TI := ⟨1, 8, TK.func, [(D.lit Value.nilFunc)]⟩
theorem ti195_ok : TOk Tryz.prog 195 ti195 := tblOf_ok (by kernel_rfl)
def ti196 : TI := ⟨1, 8, TK.func, [(D.lit Value.nilFunc)]⟩
theorem ti196_ok : TOk Tryz.prog 196 ti196 := tblOf_ok (by kernel_rfl)
def ti197 : TI := ⟨1, 8, TK.func, [(D.lit Value.nilFunc)]⟩
theorem ti197_ok : TOk Tryz.prog 197 ti197 := tblOf_ok (by kernel_rfl)
def ti198 : TI := ⟨1, 8, TK.func, [(D.lit Value.nilFunc)]⟩
theorem ti198_ok : TOk Tryz.prog 198 ti198 := tblOf_ok (by kernel_rfl)
def ti199 : TI := ⟨1, 8, TK.func, [(D.lit Value.nilFunc)]⟩
theorem ti199_ok : TOk Tryz.prog 199 ti199 := tblOf_ok (by kernel_rfl)
def ti200 : TI := ⟨1, 8, TK.func, [(D.lit Value.nilFunc)]⟩
theorem ti200_ok : TOk Tryz.prog 200 ti200 := tblOf_ok (by kernel_rfl)
def ti201 : TI := ⟨1, 8, TK.func, [(D.lit Value.nilFunc)]⟩
theorem ti201_ok : TOk Tryz.prog 201 ti201 := tblOf_ok (by kernel_rfl)
def ti202 : TI := ⟨1, 8, TK.func, [(D.lit Value.nilFunc)]⟩
theorem ti202_ok : TOk Tryz.prog 202 ti202 := tblOf_ok (by kernel_rfl)
def ti204 : TI := ⟨1, 8, TK.func, [(D.lit Value.nilFunc)]⟩
theorem ti204_ok : TOk Tryz.prog 204 ti204 := tblOf_ok (by kernel_rfl)
def ti205 : TI := ⟨1, 8, TK.func, [(D.lit Value.nilFunc)]⟩
theorem ti205_ok : TOk Tryz.prog 205 ti205 := tblOf_ok (by kernel_rfl)
def ti207 : TI := ⟨1, 8, TK.func, [(D.lit Value.nilFunc)]⟩
theorem ti207_ok : TOk Tryz.prog 207 ti207 := tblOf_ok (by kernel_rfl)
def ti208 : TI := ⟨1, 8, TK.func, [(D.lit Value.nilFunc)]⟩
theorem ti208_ok : TOk Tryz.prog 208 ti208 := tblOf_ok (by kernel_rfl)
def ti209 : TI := ⟨1, 8, TK.func, [(D.lit Value.nilFunc)]⟩
theorem ti209_ok : TOk Tryz.prog 209 ti209 := tblOf_ok (by kernel_rfl)
def ti210 : TI := ⟨1, 8, TK.func, [(D.lit Value.nilFunc)]⟩
theorem ti210_ok : TOk Tryz.prog 210 ti210 := tblOf_ok (by kernel_rfl)
def ti212 : TI := ⟨1, 8, TK.func, [(D.lit Value.nilFunc)]⟩
theorem ti212_ok : TOk Tryz.prog 212 ti212 := tblOf_ok (by kernel_rfl)
def ti214 : TI := ⟨1, 8, TK.func, [(D.lit Value.nilFunc)]⟩
theorem ti214_ok : TOk Tryz.prog 214 ti214 := tblOf_ok (by kernel_rfl)
def ti215 : TI := ⟨1, 8, TK.func, [(D.lit Value.nilFunc)]⟩
theorem ti215_ok : TOk Tryz.prog 215 ti215 := tblOf_ok (by kernel_rfl)
def ti217 : TI := ⟨1, 8, TK.func, [(D.lit Value.nilFunc)]⟩
theorem ti217_ok : TOk Tryz.prog 217 ti217 := tblOf_ok (by kernel_rfl)
def ti219 : TI := ⟨1, 8, TK.func, [(D.lit Value.nilFunc)]⟩
theorem ti219_ok : TOk Tryz.prog 219 ti219 := tblOf_ok (by kernel_rfl)
def ti220 : TI := ⟨1, 8, TK.func, [(D.lit Value.nilFunc)]⟩
theorem ti220_ok : TOk Tryz.prog 220 ti220 := tblOf_ok (by kernel_rfl)
def ti221 : TI := ⟨1, 8, TK.func, [(D.lit Value.nilFunc)]⟩
theorem ti221_ok : TOk Tryz.prog 221 ti221 := tblOf_ok (by kernel_rfl)
def ti222 : TI := ⟨1, 8, TK.func, [(D.lit Value.nilFunc)]⟩
theorem ti222_ok : TOk Tryz.prog 222 ti222 := tblOf_ok (by kernel_rfl)
def ti223 : TI := ⟨1, 8, TK.func, [(D.lit Value.nilFunc)]⟩
theorem ti223_ok : TOk Tryz.prog 223 ti223 := tblOf_ok (by kernel_rfl)
def ti225 : TI := ⟨1, 8, TK.func, [(D.lit Value.nilFunc)]⟩
theorem ti225_ok : TOk Tryz.prog 225 ti225 := tblOf_ok (by kernel_rfl)
def ti226 : TI := ⟨1, 8, TK.func, [(D.lit Value.nilFunc)]⟩
theorem ti226_ok : TOk Tryz.prog 226 ti226 := tblOf_ok (by kernel_rfl)
def ti227 : TI := ⟨1, 8, TK.func, [(D.lit Value.nilFunc)]⟩
theorem ti227_ok : TOk Tryz.prog 227 ti227 := tblOf_ok (by kernel_rfl)
def ti229 : TI := ⟨1, 8, TK.func, [(D.lit Value.nilFunc)]⟩
theorem ti229_ok : TOk Tryz.prog 229 ti229 := tblOf_ok (by kernel_rfl)
def ti230 : TI := ⟨1, 8, TK.func, [(D.lit Value.nilFunc)]⟩
theorem ti230_ok : TOk Tryz.prog 230 ti230 := tblOf_ok (by kernel_rfl)
def ti231 : TI := ⟨1, 8, TK.func, [(D.lit Value.nilFunc)]⟩
theorem ti231_ok : TOk Tryz.prog 231 ti231 := tblOf_ok (by kernel_rfl)
def ti232 : TI := ⟨1, 8, TK.func, [(D.lit Value.nilFunc)]⟩
theorem ti232_ok : TOk Tryz.prog 232 ti232 := tblOf_ok (by kernel_rfl)
def ti233 : TI := ⟨1, 8, TK.func, [(D.lit Value.nilFunc)]⟩
theorem ti233_ok : TOk Tryz.prog 233 ti233 := tblOf_ok (by kernel_rfl)
def ti234 : TI := ⟨1, 8, TK.func, [(D.lit Value.nilFunc)]⟩
theorem ti234_ok : TOk Tryz.prog 234 ti234 := tblOf_ok (by kernel_rfl)
def ti235 : TI := ⟨1, 8, TK.func, [(D.lit Value.nilFunc)]⟩
theorem ti235_ok : TOk Tryz.prog 235 ti235 := tblOf_ok (by kernel_rfl)
def ti236 : TI := ⟨1, 8, TK.func, [(D.lit Value.nilFunc)]⟩
theorem ti236_ok : TOk Tryz.prog 236 ti236 := tblOf_ok (by kernel_rfl)
def ti237 : TI := ⟨1, 8, TK.func, [(D.lit Value.nilFunc)]⟩
theorem ti237_ok : TOk Tryz.prog 237 ti237 := tblOf_ok (by kernel_rfl)
def ti238 : TI := ⟨1, 8, TK.func, [(D.lit Value.nilFunc)]⟩
theorem ti238_ok : TOk Tryz.prog 238 ti238 := tblOf_ok (by kernel_rfl)
def ti239 : TI := ⟨1, 8, TK.func, [(D.lit Value.nilFunc)]⟩
theorem ti239_ok : TOk Tryz.prog 239 ti239 := tblOf_ok (by kernel_rfl)
def ti240 : TI := ⟨1, 8, (TK.ptr 88), [(D.lit (Value.pointer none))]⟩
theorem ti240_ok : TOk Tryz.prog 240 ti240 := tblOf_ok (by kernel_rfl)
def ti241 : TI := ⟨1, 8, TK.func, [(D.lit Value.nilFunc)]⟩
theorem ti241_ok : TOk Tryz.prog 241 ti241 := tblOf_ok (by kernel_rfl)
def ti242 : TI := ⟨1, 8, TK.func, [(D.lit Value.nilFunc)]⟩
theorem ti242_ok : TOk Tryz.prog 242 ti242 := tblOf_ok (by kernel_rfl)
def ti243 : TI := ⟨1, 8, TK.func, [(D.lit Value.nilFunc)]⟩
theorem ti243_ok : TOk Tryz.prog 243 ti243 := tblOf_ok (by kernel_rfl)
def ti244 : TI := ⟨1, 8, TK.func, [(D.lit Value.nilFunc)]⟩
theorem ti244_ok : TOk Tryz.prog 244 ti244 := tblOf_ok (by kernel_rfl)
def ti245 : TI := ⟨1, 8, TK.func, [(D.lit Value.nilFunc)]⟩
theorem ti245_ok : TOk Tryz.prog 245 ti245 := tblOf_ok (by kernel_rfl)
def ti246 : TI := ⟨1, 8, TK.func, [(D.lit Value.nilFunc)]⟩
theorem ti246_ok : TOk Tryz.prog 246 ti246 := tblOf_ok (by kernel_rfl)
def ti247 : TI := ⟨1, 8, TK.func, [(D.lit Value.nilFunc)]⟩
theorem ti247_ok : TOk Tryz.prog 247 ti247 := tblOf_ok (by kernel_rfl)
def ti248 : TI := ⟨1, 8, TK.func, [(D.lit Value.nilFunc)]⟩
theorem ti248_ok : TOk Tryz.prog 248 ti248 := tblOf_ok (by kernel_rfl)
def ti249 : TI := ⟨1, 8, TK.func, [(D.lit Value.nilFunc)]⟩
theorem ti249_ok : TOk Tryz.prog 249 ti249 := tblOf_ok (by kernel_rfl)
def ti250 : TI := ⟨1, 8, TK.func, [(D.lit Value.nilFunc)]⟩
theorem ti250_ok : TOk Tryz.prog 250 ti250 := tblOf_ok (by kernel_rfl)
def ti252 : TI := ⟨1, 8, TK.func, [(D.lit Value.nilFunc)]⟩
theorem ti252_ok : TOk Tryz.prog 252 ti252 := tblOf_ok (by kernel_rfl)
def ti253 : TI := ⟨1, 8, TK.func, [(D.lit Value.nilFunc)]⟩
theorem ti253_ok : TOk Tryz.prog 253 ti253 := tblOf_ok (by kernel_rfl)
def ti254 : TI := ⟨1, 8, TK.func, [(D.lit Value.nilFunc)]⟩
theorem ti254_ok : TOk Tryz.prog 254 ti254 := tblOf_ok (by kernel_rfl)
def ti255 : TI := ⟨1, 8, TK.func, [(D.lit Value.nilFunc)]⟩
theorem ti255_ok : TOk Tryz.prog 255 ti255 := tblOf_ok (by kernel_rfl)
def ti256 : TI := ⟨1, 8, TK.func, [(D.lit Value.nilFunc)]⟩
theorem ti256_ok : TOk Tryz.prog 256 ti256 := tblOf_ok (by kernel_rfl)
def ti257 : TI := ⟨1, 8, TK.func, [(D.lit Value.nilFunc)]⟩
theorem ti257_ok : TOk Tryz.prog 257 ti257 := tblOf_ok (by kernel_rfl)
def ti258 : TI := ⟨1, 8, TK.func, [(D.lit Value.nilFunc)]⟩
theorem ti258_ok : TOk Tryz.prog 258 ti258 := tblOf_ok (by kernel_rfl)
def ti259 : TI := ⟨1, 8, TK.func, [(D.lit Value.nilFunc)]⟩
theorem ti259_ok : TOk Tryz.prog 259 ti259 := tblOf_ok (by kernel_rfl)
def ti260 : TI := ⟨1, 8, TK.func, [(D.lit Value.nilFunc)]⟩
theorem ti260_ok : TOk Tryz.prog 260 ti260 := tblOf_ok (by kernel_rfl)
def ti262 : TI := ⟨1, 8, TK.func, [(D.lit Value.nilFunc)]⟩
theorem ti262_ok : TOk Tryz.prog 262 ti262 := tblOf_ok (by kernel_rfl)
def ti264 : TI := ⟨1, 8, TK.func, [(D.lit Value.nilFunc)]⟩
theorem ti264_ok : TOk Tryz.prog 264 ti264 := tblOf_ok (by kernel_rfl)
def ti265 : TI := ⟨1, 8, TK.func, [(D.lit Value.nilFunc)]⟩
theorem ti265_ok : TOk Tryz.prog 265 ti265 := tblOf_ok (by kernel_rfl)
def ti267 : TI := ⟨1, 8, TK.func, [(D.lit Value.nilFunc)]⟩
theorem ti267_ok : TOk Tryz.prog 267 ti267 := tblOf_ok (by kernel_rfl)
def ti268 : TI := ⟨1, 8, TK.func, [(D.lit Value.nilFunc)]⟩
theorem ti268_ok : TOk Tryz.prog 268 ti268 := tblOf_ok (by kernel_rfl)
def ti270 : TI := ⟨1, 8, TK.func, [(D.lit Value.nilFunc)]⟩
theorem ti270_ok : TOk Tryz.prog 270 ti270 := tblOf_ok (by kernel_rfl)
def ti271 : TI := ⟨1, 8, TK.func, [(D.lit Value.nilFunc)]⟩
theorem ti271_ok : TOk Tryz.prog 271 ti271 := tblOf_ok (by kernel_rfl)
def ti272 : TI := ⟨1, 8, TK.func, [(D.lit Value.nilFunc)]⟩
theorem ti272_ok : TOk Tryz.prog 272 ti272 := tblOf_ok (by kernel_rfl)
def ti274 : TI := ⟨1, 8, TK.func, [(D.lit Value.nilFunc)]⟩
theorem ti274_ok : TOk Tryz.prog 274 ti274 := tblOf_ok (by kernel_rfl)
def ti276 : TI := ⟨1, 8, TK.func, [(D.lit Value.nilFunc)]⟩
theorem ti276_ok : TOk Tryz.prog 276 ti276 := tblOf_ok (by kernel_rfl)
def ti277 : TI := ⟨1, 8, TK.func, [(D.lit Value.nilFunc)]⟩
theorem ti277_ok : TOk Tryz.prog 277 ti277 := tblOf_ok (by kernel_rfl)
def ti278 : TI := ⟨1, 8, TK.func, [(D.lit Value.nilFunc)]⟩
theorem ti278_ok : TOk Tryz.prog 278 ti278 := tblOf_ok (by kernel_rfl)
def ti279 : TI := ⟨1, 8, TK.func, [(D.lit Value.nilFunc)]⟩
theorem ti279_ok : TOk Tryz.prog 279 ti279 := tblOf_ok (by kernel_rfl)
def ti280 : TI := ⟨1, 8, TK.func, [(D.lit Value.nilFunc)]⟩
theorem ti280_ok : TOk Tryz.prog 280 ti280 := tblOf_ok (by kernel_rfl)
def ti281 : TI := ⟨1, 8, TK.func, [(D.lit Value.nilFunc)]⟩
theorem ti281_ok : TOk Tryz.prog 281 ti281 := tblOf_ok (by kernel_rfl)
def ti282 : TI := ⟨1, 8, TK.func, [(D.lit Value.nilFunc)]⟩
theorem ti282_ok : TOk Tryz.prog 282 ti282 := tblOf_ok (by kernel_rfl)
def ti283 : TI := ⟨1, 8, TK.func, [(D.lit Value.nilFunc)]⟩
theorem ti283_ok : TOk Tryz.prog 283 ti283 := tblOf_ok (by kernel_rfl)
def ti284 : TI := ⟨1, 8, TK.func, [(D.lit Value.nilFunc)]⟩
theorem ti284_ok : TOk Tryz.prog 284 ti284 := tblOf_ok (by kernel_rfl)
def ti285 : TI := ⟨1, 8, TK.func, [(D.lit Value.nilFunc)]⟩
theorem ti285_ok : TOk Tryz.prog 285 ti285 := tblOf_ok (by kernel_rfl)
def ti286 : TI := ⟨1, 8, (TK.struct [(0, 285)]), [(D.lit Value.nilFunc)]⟩
theorem ti286_ok : TOk Tryz.prog 286 ti286 := tblOf_ok (by kernel_rfl)
def ti287 : TI := ⟨1, 8, (TK.struct [(0, 285)]), [(D.lit Value.nilFunc)]⟩
theorem ti287_ok : TOk Tryz.prog 287 ti287 := tblOf_ok (by kernel_rfl)
def ti289 : TI := ⟨1, 8, TK.func, [(D.lit Value.nilFunc)]⟩
theorem ti289_ok : TOk Tryz.prog 289 ti289 := tblOf_ok (by kernel_rfl)
def ti290 : TI := ⟨1, 8, TK.func, [(D.lit Value.nilFunc)]⟩
theorem ti290_ok : TOk Tryz.prog 290 ti290 := tblOf_ok (by kernel_rfl)
def ti292 : TI := ⟨1, 8, TK.func, [(D.lit Value.nilFunc)]⟩
theorem ti292_ok : TOk Tryz.prog 292 ti292 := tblOf_ok (by kernel_rfl)
def ti293 : TI := ⟨1, 8, TK.func, [(D.lit Value.nilFunc)]⟩
theorem ti293_ok : TOk Tryz.prog 293 ti293 := tblOf_ok (by kernel_rfl)
def ti294 : TI := ⟨1, 8, TK.func, [(D.lit Value.nilFunc)]⟩
theorem ti294_ok : TOk Tryz.prog 294 ti294 := tblOf_ok (by kernel_rfl)
def ti295 : TI := ⟨1, 8, (TK.int IntKind.u64), [(D.int IntKind.u64 0)]⟩
theorem ti295_ok : TOk Tryz.prog 295 ti295 := tblOf_ok (by kernel_rfl)
def ti297 : TI := ⟨1, 8, TK.func, [(D.lit Value.nilFunc)]⟩
theorem ti297_ok : TOk Tryz.prog 297 ti297 := tblOf_ok (by kernel_rfl)
def ti298 : TI := ⟨1, 8, TK.func, [(D.lit Value.nilFunc)]⟩
theorem ti298_ok : TOk Tryz.prog 298 ti298 := tblOf_ok (by kernel_rfl)
def ti299 : TI := ⟨1, 8, (TK.ptr 301), [(D.lit (Value.pointer none))]⟩
theorem ti299_ok : TOk Tryz.prog 299 ti299 := tblOf_ok (by kernel_rfl)
def ti300 : TI := ⟨2, 32, (TK.struct [(0, 299), (1, 193)]), [(D.lit (Value.pointer none)), (D.lit (Value.slice none 0 0))]⟩
theorem ti300_ok : TOk Tryz.prog 300 ti300 := tblOf_ok (by kernel_rfl)
def ti301 : TI := ⟨2, 32, (TK.struct [(0, 299), (1, 193)]), [(D.lit (Value.pointer none)), (D.lit (Value.slice none 0 0))]⟩
theorem ti301_ok : TOk Tryz.prog 301 ti301 := tblOf_ok (by kernel_rfl)
def ti302 : TI := ⟨1, 8, TK.func, [(D.lit Value.nilFunc)]⟩
theorem ti302_ok : TOk Tryz.prog 302 ti302 := tblOf_ok (by kernel_rfl)
def ti306 : TI := ⟨1, 8, TK.func, [(D.lit Value.nilFunc)]⟩
theorem ti306_ok : TOk Tryz.prog 306 ti306 := tblOf_ok (by kernel_rfl)
def ti307 : TI := ⟨1, 8, TK.func, [(D.lit Value.nilFunc)]⟩
theorem ti307_ok : TOk Tryz.prog 307 ti307 := tblOf_ok (by kernel_rfl)
def ti308 : TI := ⟨1, 8, TK.func, [(D.lit Value.nilFunc)]⟩
theorem ti308_ok : TOk Tryz.prog 308 ti308 := tblOf_ok (by kernel_rfl)
def ti309 : TI := ⟨1, 8, TK.func, [(D.lit Value.nilFunc)]⟩
theorem ti309_ok : TOk Tryz.prog 309 ti309 := tblOf_ok (by kernel_rfl)
def ti310 : TI := ⟨1, 8, TK.func, [(D.lit Value.nilFunc)]⟩
theorem ti310_ok : TOk Tryz.prog 310 ti310 := tblOf_ok (by kernel_rfl)
def ti311 : TI := ⟨1, 8, TK.func, [(D.lit Value.nilFunc)]⟩
theorem ti311_ok : TOk Tryz.prog 311 ti311 := tblOf_ok (by kernel_rfl)
def ti312 : TI := ⟨1, 24, (TK.slice 23), [(D.lit (Value.slice none 0 0))]⟩
theorem ti312_ok : TOk Tryz.prog 312 ti312 := tblOf_ok (by kernel_rfl)
def ti313 : TI := ⟨1, 8, TK.func, [(D.lit Value.nilFunc)]⟩
theorem ti313_ok : TOk Tryz.prog 313 ti313 := tblOf_ok (by kernel_rfl)
def ti315 : TI := ⟨1, 8, TK.func, [(D.lit Value.nilFunc)]⟩
theorem ti315_ok : TOk Tryz.prog 315 ti315 := tblOf_ok (by kernel_rfl)
def ti316 : TI := ⟨1, 8, TK.func, [(D.lit Value.nilFunc)]⟩
theorem ti316_ok : TOk Tryz.prog 316 ti316 := tblOf_ok (by kernel_rfl)
def ti318 : TI := ⟨1, 8, TK.func, [(D.lit Value.nilFunc)]⟩
theorem ti318_ok : TOk Tryz.prog 318 ti318 := tblOf_ok (by kernel_rfl)
def ti319 : TI := ⟨1, 8, TK.func, [(D.lit Value.nilFunc)]⟩
theorem ti319_ok : TOk Tryz.prog 319 ti319 := tblOf_ok (by kernel_rfl)
def ti321 : TI := ⟨1, 8, TK.func, [(D.lit Value.nilFunc)]⟩
theorem ti321_ok : TOk Tryz.prog 321 ti321 := tblOf_ok (by kernel_rfl)
def ti322 : TI := ⟨1, 8, TK.func, [(D.lit Value.nilFunc)]⟩
theorem ti322_ok : TOk Tryz.prog 322 ti322 := tblOf_ok (by kernel_rfl)
def ti323 : TI := ⟨1, 8, TK.func, [(D.lit Value.nilFunc)]⟩
theorem ti323_ok : TOk Tryz.prog 323 ti323 := tblOf_ok (by kernel_rfl)
def ti324 : TI := ⟨1, 8, TK.func, [(D.lit Value.nilFunc)]⟩
theorem ti324_ok : TOk Tryz.prog 324 ti324 := tblOf_ok (by kernel_rfl)
def ti325 : TI := ⟨1, 8, TK.func, [(D.lit Value.nilFunc)]⟩
theorem ti325_ok : TOk Tryz.prog 325 ti325 := tblOf_ok (by kernel_rfl)
def ti326 : TI := ⟨1, 2, (TK.int IntKind.i16), [(D.int IntKind.i16 0)]⟩
theorem ti326_ok : TOk Tryz.prog 326 ti326 := tblOf_ok (by kernel_rfl)
def ti327 : TI := ⟨1, 2, (TK.int IntKind.u16), [(D.int IntKind.u16 0)]⟩
theorem ti327_ok : TOk Tryz.prog 327 ti327 := tblOf_ok (by kernel_rfl)
def ti328 : TI := ⟨1, 8, TK.func, [(D.lit Value.nilFunc)]⟩
theorem ti328_ok : TOk Tryz.prog 328 ti328 := tblOf_ok (by kernel_rfl)
def ti329 : TI := ⟨4, 4, (TK.arr 4 5), [(D.int IntKind.u8 0), (D.int IntKind.u8 0), (D.int IntKind.u8 0), (D.int IntKind.u8 0)]⟩
theorem ti329_ok : TOk Tryz.prog 329 ti329 := tblOf_ok (by kernel_rfl)
def ti330 : TI := ⟨1, 8, TK.func, [(D.lit Value.nilFunc)]⟩
theorem ti330_ok : TOk Tryz.prog 330 ti330 := tblOf_ok (by kernel_rfl)
def ti331 : TI := ⟨1, 8, TK.func, [(D.lit Value.nilFunc)]⟩
theorem ti331_ok : TOk Tryz.prog 331 ti331 := tblOf_ok (by kernel_rfl)
def ti332 : TI := ⟨1, 8, TK.func, [(D.lit Value.nilFunc)]⟩
theorem ti332_ok : TOk Tryz.prog 332 ti332 := tblOf_ok (by kernel_rfl)
def ti333 : TI := ⟨1, 8, TK.func, [(D.lit Value.nilFunc)]⟩
theorem ti333_ok : TOk Tryz.prog 333 ti333 := tblOf_ok (by kernel_rfl)
def ti334 : TI := ⟨1, 8, TK.func, [(D.lit Value.nilFunc)]⟩
theorem ti334_ok : TOk Tryz.prog 334 ti334 := tblOf_ok (by kernel_rfl)
def ti335 : TI := ⟨1, 8, TK.func, [(D.lit Value.nilFunc)]⟩
theorem ti335_ok : TOk Tryz.prog 335 ti335 := tblOf_ok (by kernel_rfl)
def ti336 : TI := ⟨1, 8, TK.func, [(D.lit Value.nilFunc)]⟩
theorem ti336_ok : TOk Tryz.prog 336 ti336 := tblOf_ok (by kernel_rfl)
def ti337 : TI := ⟨1, 8, TK.func, [(D.lit Value.nilFunc)]⟩
theorem ti337_ok : TOk Tryz.prog 337 ti337 := tblOf_ok (by kernel_rfl)
def ti338 : TI := ⟨1, 8, TK.func, [(D.lit Value.nilFunc)]⟩
theorem ti338_ok : TOk Tryz.prog 338 ti338 := tblOf_ok (by kernel_rfl)
def ti339 : TI := ⟨1, 8, TK.func, [(D.lit Value.nilFunc)]⟩
theorem ti339_ok : TOk Tryz.prog 339 ti339 := tblOf_ok (by kernel_rfl)
def ti340 : TI := ⟨1, 8, TK.func, [(D.lit Value.nilFunc)]⟩
theorem ti340_ok : TOk Tryz.prog 340 ti340 := tblOf_ok (by kernel_rfl)
def ti342 : TI := ⟨1, 8, TK.func, [(D.lit Value.nilFunc)]⟩
theorem ti342_ok : TOk Tryz.prog 342 ti342 := tblOf_ok (by kernel_rfl)
def ti344 : TI := ⟨1, 8, TK.func, [(D.lit Value.nilFunc)]⟩
theorem ti344_ok : TOk Tryz.prog 344 ti344 := tblOf_ok (by kernel_rfl)
def ti345 : TI := ⟨1, 8, (TK.ptr 5), [(D.lit (Value.pointer none))]⟩
theorem ti345_ok : TOk Tryz.prog 345 ti345 := tblOf_ok (by kernel_rfl)
def ti346 : TI := ⟨1, 8, TK.func, [(D.lit Value.nilFunc)]⟩
theorem ti346_ok : TOk Tryz.prog 346 ti346 := tblOf_ok (by kernel_rfl)
def ti348 : TI := ⟨1, 8, TK.func, [(D.lit Value.nilFunc)]⟩
theorem ti348_ok : TOk Tryz.prog 348 ti348 := tblOf_ok (by kernel_rfl)
def ti350 : TI := ⟨1, 8, TK.func, [(D.lit Value.nilFunc)]⟩
theorem ti350_ok : TOk Tryz.prog 350 ti350 := tblOf_ok (by kernel_rfl)
def ti351 : TI := ⟨1, 8, TK.func, [(D.lit Value.nilFunc)]⟩
theorem ti351_ok : TOk Tryz.prog 351 ti351 := tblOf_ok (by kernel_rfl)
def ti353 : TI := ⟨1, 8, TK.func, [(D.lit Value.nilFunc)]⟩
theorem ti353_ok : TOk Tryz.prog 353 ti353 := tblOf_ok (by kernel_rfl)
def ti355 : TI := ⟨1, 8, TK.func, [(D.lit Value.nilFunc)]⟩
theorem ti355_ok : TOk Tryz.prog 355 ti355 := tblOf_ok (by kernel_rfl)
def ti356 : TI := ⟨1, 8, TK.func, [(D.lit Value.nilFunc)]⟩
theorem ti356_ok : TOk Tryz.prog 356 ti356 := tblOf_ok (by kernel_rfl)
def ti357 : TI := ⟨1, 8, TK.func, [(D.lit Value.nilFunc)]⟩
theorem ti357_ok : TOk Tryz.prog 357 ti357 := tblOf_ok (by kernel_rfl)
def ti359 : TI := ⟨1, 8, TK.func, [(D.lit Value.nilFunc)]⟩
theorem ti359_ok : TOk Tryz.prog 359 ti359 := tblOf_ok (by kernel_rfl)
def ti360 : TI := ⟨25, 200, (TK.arr 25 3), [(D.int IntKind.i64 0), (D.int IntKind.i64 0), (D.int IntKind.i64 0), (D.int IntKind.i64 0), (D.int IntKind.i64 0), (D.int IntKind.i64 0), (D.int IntKind.i64 0), (D.int IntKind.i64 0), (D.int IntKind.i64 0), (D.int IntKind.i64 0), (D.int IntKind.i64 0), (D.int IntKind.i64 0), (D.int IntKind.i64 0), (D.int IntKind.i64 0), (D.int IntKind.i64 0), (D.int IntKind.i64 0), (D.int IntKind.i64 0), (D.int IntKind.i64 0), (D.int IntKind.i64 0), (D.int IntKind.i64 0), (D.int IntKind.i64 0), (D.int IntKind.i64 0), (D.int IntKind.i64 0), (D.int IntKind.i64 0), (D.int IntKind.i64 0)]⟩
theorem ti360_ok : TOk Tryz.prog 360 ti360 := tblOf_ok (by kernel_rfl)
def ti361 : TI := ⟨1, 8, TK.func, [(D.lit Value.nilFunc)]⟩
theorem ti361_ok : TOk Tryz.prog 361 ti361 := tblOf_ok (by kernel_rfl)
def ti363 : TI := ⟨1, 8, TK.func, [(D.lit Value.nilFunc)]⟩
theorem ti363_ok : TOk Tryz.prog 363 ti363 := tblOf_ok (by kernel_rfl)
def ti364 : TI := ⟨1, 8, TK.func, [(D.lit Value.nilFunc)]⟩
theorem ti364_ok : TOk Tryz.prog 364 ti364 := tblOf_ok (by kernel_rfl)
def ti365 : TI := ⟨1, 8, TK.func, [(D.lit Value.nilFunc)]⟩
theorem ti365_ok : TOk Tryz.prog 365 ti365 := tblOf_ok (by kernel_rfl)
def ti366 : TI := ⟨1, 8, TK.func, [(D.lit Value.nilFunc)]⟩
theorem ti366_ok : TOk Tryz.prog 366 ti366 := tblOf_ok (by kernel_rfl)
def ti367 : TI := ⟨1, 8, TK.func, [(D.lit Value.nilFunc)]⟩
theorem ti367_ok : TOk Tryz.prog 367 ti367 := tblOf_ok (by kernel_rfl)
def ti368 : TI := ⟨1, 8, TK.func, [(D.lit Value.nilFunc)]⟩
theorem ti368_ok : TOk Tryz.prog 368 ti368 := tblOf_ok (by kernel_rfl)
def ti369 : TI := ⟨1, 8, TK.func, [(D.lit Value.nilFunc)]⟩
theorem ti369_ok : TOk Tryz.prog 369 ti369 := tblOf_ok (by kernel_rfl)
def ti370 : TI := ⟨1, 8, TK.func, [(D.lit Value.nilFunc)]⟩
theorem ti370_ok : TOk Tryz.prog 370 ti370 := tblOf_ok (by kernel_rfl)
def ti371 : TI := ⟨1, 8, TK.func, [(D.lit Value.nilFunc)]⟩
theorem ti371_ok : TOk Tryz.prog 371 ti371 := tblOf_ok (by kernel_rfl)
def ti373 : TI := ⟨1, 8, TK.func, [(D.lit Value.nilFunc)]⟩
theorem ti373_ok : TOk Tryz.prog 373 ti373 := tblOf_ok (by kernel_rfl)
def ti374 : TI := ⟨1, 8, TK.func, [(D.lit Value.nilFunc)]⟩
theorem ti374_ok : TOk Tryz.prog 374 ti374 := tblOf_ok (by kernel_rfl)
def ti375 : TI := ⟨1, 8, TK.func, [(D.lit Value.nilFunc)]⟩
theorem ti375_ok : TOk Tryz.prog 375 ti375 := tblOf_ok (by kernel_rfl)
def ti378 : TI := ⟨0, 0, (TK.arr 0 16), []⟩
theorem ti378_ok : TOk Tryz.prog 378 ti378 := tblOf_ok (by kernel_rfl)
def ti381 : TI := ⟨1, 1, (TK.int IntKind.u8), [(D.int IntKind.u8 0)]⟩
theorem ti381_ok : TOk Tryz.prog 381 ti381 := tblOf_ok (by kernel_rfl)
def ti382 : TI := ⟨1, 1, (TK.int IntKind.u8), [(D.int IntKind.u8 0)]⟩
theorem ti382_ok : TOk Tryz.prog 382 ti382 := tblOf_ok (by kernel_rfl)
def ti383 : TI := ⟨1, 8, TK.func, [(D.lit Value.nilFunc)]⟩
theorem ti383_ok : TOk Tryz.prog 383 ti383 := tblOf_ok (by kernel_rfl)
def ti384 : TI := ⟨1, 4, (TK.int IntKind.i32), [(D.int IntKind.i32 0)]⟩
theorem ti384_ok : TOk Tryz.prog 384 ti384 := tblOf_ok (by kernel_rfl)
def ti385 : TI := ⟨1, 4, (TK.int IntKind.i32), [(D.int IntKind.i32 0)]⟩
theorem ti385_ok : TOk Tryz.prog 385 ti385 := tblOf_ok (by kernel_rfl)
abbrev TyP : Nat → TI → Prop := fun t i => TOk Tryz.prog t i
abbrev FnP : Nat → Func → Prop := fun f fn => Tryz.prog.funcs[f]? = some fn
noncomputable def tyN1 : Tr TI := .node .leaf 1 ti1 .leaf
theorem tyN1_ok : tyN1.All TyP := ⟨trivial, ti1_ok, trivial⟩
noncomputable def tyN2 : Tr TI := .node tyN1 2 ti2 .leaf
theorem tyN2_ok : tyN2.All TyP := ⟨tyN1_ok, ti2_ok, trivial⟩
noncomputable def tyN3 : Tr TI := .node .leaf 4 ti4 .leaf
theorem tyN3_ok : tyN3.All TyP := ⟨trivial, ti4_ok, trivial⟩
noncomputable def tyN4 : Tr TI := .node tyN3 5 ti5 .leaf
theorem tyN4_ok : tyN4.All TyP := ⟨tyN3_ok, ti5_ok, trivial⟩
noncomputable def tyN5 : Tr TI := .node tyN2 3 ti3 tyN4
theorem tyN5_ok : tyN5.All TyP := ⟨tyN2_ok, ti3_ok, tyN4_ok⟩
noncomputable def tyN6 : Tr TI := .node .leaf 7 ti7 .leaf
theorem tyN6_ok : tyN6.All TyP := ⟨trivial, ti7_ok, trivial⟩
noncomputable def tyN7 : Tr TI := .node tyN6 8 ti8 .leaf
theorem tyN7_ok : tyN7.All TyP := ⟨tyN6_ok, ti8_ok, trivial⟩
noncomputable def tyN8 : Tr TI := .node .leaf 10 ti10 .leaf
theorem tyN8_ok : tyN8.All TyP := ⟨trivial, ti10_ok, trivial⟩
noncomputable def tyN9 : Tr TI := .node tyN7 9 ti9 tyN8
theorem tyN9_ok : tyN9.All TyP := ⟨tyN7_ok, ti9_ok, tyN8_ok⟩
noncomputable def tyN10 : Tr TI := .node tyN5 6 ti6 tyN9
theorem tyN10_ok : tyN10.All TyP := ⟨tyN5_ok, ti6_ok, tyN9_ok⟩
noncomputable def tyN11 : Tr TI := .node .leaf 12 ti12 .leaf
theorem tyN11_ok : tyN11.All TyP := ⟨trivial, ti12_ok, trivial⟩
noncomputable def tyN12 : Tr TI := .node tyN11 15 ti15 .leaf
theorem tyN12_ok : tyN12.All TyP := ⟨tyN11_ok, ti15_ok, trivial⟩
noncomputable def tyN13 : Tr TI := .node .leaf 17 ti17 .leaf
theorem tyN13_ok : tyN13.All TyP := ⟨trivial, ti17_ok, trivial⟩
noncomputable def tyN14 : Tr TI := .node tyN12 16 ti16 tyN13
theorem tyN14_ok : tyN14.All TyP := ⟨tyN12_ok, ti16_ok, tyN13_ok⟩
noncomputable def tyN15 : Tr TI := .node .leaf 22 ti22 .leaf
theorem tyN15_ok : tyN15.All TyP := ⟨trivial, ti22_ok, trivial⟩
noncomputable def tyN16 : Tr TI := .node tyN15 23 ti23 .leaf
theorem tyN16_ok : tyN16.All TyP := ⟨tyN15_ok, ti23_ok, trivial⟩
noncomputable def tyN17 : Tr TI := .node .leaf 25 ti25 .leaf
theorem tyN17_ok : tyN17.All TyP := ⟨trivial, ti25_ok, trivial⟩
noncomputable def tyN18 : Tr TI := .node tyN16 24 ti24 tyN17
theorem tyN18_ok : tyN18.All TyP := ⟨tyN16_ok, ti24_ok, tyN17_ok⟩
noncomputable def tyN19 : Tr TI := .node tyN14 21 ti21 tyN18
theorem tyN19_ok : tyN19.All TyP := ⟨tyN14_ok, ti21_ok, tyN18_ok⟩
noncomputable def tyN20 : Tr TI := .node tyN10 11 ti11 tyN19
theorem tyN20_ok : tyN20.All TyP := ⟨tyN10_ok, ti11_ok, tyN19_ok⟩
noncomputable def tyN21 : Tr TI := .node .leaf 27 ti27 .leaf
theorem tyN21_ok : tyN21.All TyP := ⟨trivial, ti27_ok, trivial⟩
noncomputable def tyN22 : Tr TI := .node tyN21 28 ti28 .leaf
theorem tyN22_ok : tyN22.All TyP := ⟨tyN21_ok, ti28_ok, trivial⟩
noncomputable def tyN23 : Tr TI := .node .leaf 30 ti30 .leaf
theorem tyN23_ok : tyN23.All TyP := ⟨trivial, ti30_ok, trivial⟩
noncomputable def tyN24 : Tr TI := .node tyN23 31 ti31 .leaf
theorem tyN24_ok : tyN24.All TyP := ⟨tyN23_ok, ti31_ok, trivial⟩
noncomputable def tyN25 : Tr TI := .node tyN22 29 ti29 tyN24
theorem tyN25_ok : tyN25.All TyP := ⟨tyN22_ok, ti29_ok, tyN24_ok⟩
noncomputable def tyN26 : Tr TI := .node .leaf 33 ti33 .leaf
theorem tyN26_ok : tyN26.All TyP := ⟨trivial, ti33_ok, trivial⟩
noncomputable def tyN27 : Tr TI := .node tyN26 34 ti34 .leaf
theorem tyN27_ok : tyN27.All TyP := ⟨tyN26_ok, ti34_ok, trivial⟩
noncomputable def tyN28 : Tr TI := .node .leaf 36 ti36 .leaf
theorem tyN28_ok : tyN28.All TyP := ⟨trivial, ti36_ok, trivial⟩
noncomputable def tyN29 : Tr TI := .node tyN27 35 ti35 tyN28
theorem tyN29_ok : tyN29.All TyP := ⟨tyN27_ok, ti35_ok, tyN28_ok⟩
noncomputable def tyN30 : Tr TI := .node tyN25 32 ti32 tyN29
theorem tyN30_ok : tyN30.All TyP := ⟨tyN25_ok, ti32_ok, tyN29_ok⟩
noncomputable def tyN31 : Tr TI := .node .leaf 38 ti38 .leaf
theorem tyN31_ok : tyN31.All TyP := ⟨trivial, ti38_ok, trivial⟩
noncomputable def tyN32 : Tr TI := .node tyN31 39 ti39 .leaf
theorem tyN32_ok : tyN32.All TyP := ⟨tyN31_ok, ti39_ok, trivial⟩
noncomputable def tyN33 : Tr TI := .node .leaf 41 ti41 .leaf
theorem tyN33_ok : tyN33.All TyP := ⟨trivial, ti41_ok, trivial⟩
noncomputable def tyN34 : Tr TI := .node tyN32 40 ti40 tyN33
theorem tyN34_ok : tyN34.All TyP := ⟨tyN32_ok, ti40_ok, tyN33_ok⟩
noncomputable def tyN35 : Tr TI := .node .leaf 43 ti43 .leaf
theorem tyN35_ok : tyN35.All TyP := ⟨trivial, ti43_ok, trivial⟩
noncomputable def tyN36 : Tr TI := .node tyN35 44 ti44 .leaf
theorem tyN36_ok : tyN36.All TyP := ⟨tyN35_ok, ti44_ok, trivial⟩
noncomputable def tyN37 : Tr TI := .node .leaf 46 ti46 .leaf
theorem tyN37_ok : tyN37.All TyP := ⟨trivial, ti46_ok, trivial⟩
noncomputable def tyN38 : Tr TI := .node tyN36 45 ti45 tyN37
theorem tyN38_ok : tyN38.All TyP := ⟨tyN36_ok, ti45_ok, tyN37_ok⟩
noncomputable def tyN39 : Tr TI := .node tyN34 42 ti42 tyN38
theorem tyN39_ok : tyN39.All TyP := ⟨tyN34_ok, ti42_ok, tyN38_ok⟩
noncomputable def tyN40 : Tr TI := .node tyN30 37 ti37 tyN39
theorem tyN40_ok : tyN40.All TyP := ⟨tyN30_ok, ti37_ok, tyN39_ok⟩
noncomputable def tyN41 : Tr TI := .node tyN20 26 ti26 tyN40
theorem tyN41_ok : tyN41.All TyP := ⟨tyN20_ok, ti26_ok, tyN40_ok⟩
noncomputable def tyN42 : Tr TI := .node .leaf 48 ti48 .leaf
theorem tyN42_ok : tyN42.All TyP := ⟨trivial, ti48_ok, trivial⟩
noncomputable def tyN43 : Tr TI := .node tyN42 49 ti49 .leaf
theorem tyN43_ok : tyN43.All TyP := ⟨tyN42_ok, ti49_ok, trivial⟩
noncomputable def tyN44 : Tr TI := .node .leaf 51 ti51 .leaf
theorem tyN44_ok : tyN44.All TyP := ⟨trivial, ti51_ok, trivial⟩
noncomputable def tyN45 : Tr TI := .node tyN44 52 ti52 .leaf
theorem tyN45_ok : tyN45.All TyP := ⟨tyN44_ok, ti52_ok, trivial⟩
noncomputable def tyN46 : Tr TI := .node tyN43 50 ti50 tyN45
theorem tyN46_ok : tyN46.All TyP := ⟨tyN43_ok, ti50_ok, tyN45_ok⟩
noncomputable def tyN47 : Tr TI := .node .leaf 55 ti55 .leaf
theorem tyN47_ok : tyN47.All TyP := ⟨trivial, ti55_ok, trivial⟩
noncomputable def tyN48 : Tr TI := .node tyN47 57 ti57 .leaf
theorem tyN48_ok : tyN48.All TyP := ⟨tyN47_ok, ti57_ok, trivial⟩
noncomputable def tyN49 : Tr TI := .node .leaf 59 ti59 .leaf
theorem tyN49_ok : tyN49.All TyP := ⟨trivial, ti59_ok, trivial⟩
noncomputable def tyN50 : Tr TI := .node tyN48 58 ti58 tyN49
theorem tyN50_ok : tyN50.All TyP := ⟨tyN48_ok, ti58_ok, tyN49_ok⟩
noncomputable def tyN51 : Tr TI := .node tyN46 53 ti53 tyN50
theorem tyN51_ok : tyN51.All TyP := ⟨tyN46_ok, ti53_ok, tyN50_ok⟩
noncomputable def tyN52 : Tr TI := .node .leaf 61 ti61 .leaf
theorem tyN52_ok : tyN52.All TyP := ⟨trivial, ti61_ok, trivial⟩
noncomputable def tyN53 : Tr TI := .node tyN52 62 ti62 .leaf
theorem tyN53_ok : tyN53.All TyP := ⟨tyN52_ok, ti62_ok, trivial⟩
noncomputable def tyN54 : Tr TI := .node .leaf 64 ti64 .leaf
theorem tyN54_ok : tyN54.All TyP := ⟨trivial, ti64_ok, trivial⟩
noncomputable def tyN55 : Tr TI := .node tyN53 63 ti63 tyN54
theorem tyN55_ok : tyN55.All TyP := ⟨tyN53_ok, ti63_ok, tyN54_ok⟩
noncomputable def tyN56 : Tr TI := .node .leaf 66 ti66 .leaf
theorem tyN56_ok : tyN56.All TyP := ⟨trivial, ti66_ok, trivial⟩
noncomputable def tyN57 : Tr TI := .node tyN56 67 ti67 .leaf
theorem tyN57_ok : tyN57.All TyP := ⟨tyN56_ok, ti67_ok, trivial⟩
noncomputable def tyN58 : Tr TI := .node .leaf 69 ti69 .leaf
theorem tyN58_ok : tyN58.All TyP := ⟨trivial, ti69_ok, trivial⟩
noncomputable def tyN59 : Tr TI := .node tyN57 68 ti68 tyN58
theorem tyN59_ok : tyN59.All TyP := ⟨tyN57_ok, ti68_ok, tyN58_ok⟩
noncomputable def tyN60 : Tr TI := .node tyN55 65 ti65 tyN59
theorem tyN60_ok : tyN60.All TyP := ⟨tyN55_ok, ti65_ok, tyN59_ok⟩
noncomputable def tyN61 : Tr TI := .node tyN51 60 ti60 tyN60
theorem tyN61_ok : tyN61.All TyP := ⟨tyN51_ok, ti60_ok, tyN60_ok⟩
noncomputable def tyN62 : Tr TI := .node .leaf 71 ti71 .leaf
theorem tyN62_ok : tyN62.All TyP := ⟨trivial, ti71_ok, trivial⟩
noncomputable def tyN63 : Tr TI := .node tyN62 72 ti72 .leaf
theorem tyN63_ok : tyN63.All TyP := ⟨tyN62_ok, ti72_ok, trivial⟩
noncomputable def tyN64 : Tr TI := .node .leaf 74 ti74 .leaf
theorem tyN64_ok : tyN64.All TyP := ⟨trivial, ti74_ok, trivial⟩
noncomputable def tyN65 : Tr TI := .node tyN64 75 ti75 .leaf
theorem tyN65_ok : tyN65.All TyP := ⟨tyN64_ok, ti75_ok, trivial⟩
noncomputable def tyN66 : Tr TI := .node tyN63 73 ti73 tyN65
theorem tyN66_ok : tyN66.All TyP := ⟨tyN63_ok, ti73_ok, tyN65_ok⟩
noncomputable def tyN67 : Tr TI := .node .leaf 77 ti77 .leaf
theorem tyN67_ok : tyN67.All TyP := ⟨trivial, ti77_ok, trivial⟩
noncomputable def tyN68 : Tr TI := .node tyN67 78 ti78 .leaf
theorem tyN68_ok : tyN68.All TyP := ⟨tyN67_ok, ti78_ok, trivial⟩
noncomputable def tyN69 : Tr TI := .node .leaf 80 ti80 .leaf
theorem tyN69_ok : tyN69.All TyP := ⟨trivial, ti80_ok, trivial⟩
noncomputable def tyN70 : Tr TI := .node tyN68 79 ti79 tyN69
theorem tyN70_ok : tyN70.All TyP := ⟨tyN68_ok, ti79_ok, tyN69_ok⟩
noncomputable def tyN71 : Tr TI := .node tyN66 76 ti76 tyN70
theorem tyN71_ok : tyN71.All TyP := ⟨tyN66_ok, ti76_ok, tyN70_ok⟩
noncomputable def tyN72 : Tr TI := .node .leaf 82 ti82 .leaf
theorem tyN72_ok : tyN72.All TyP := ⟨trivial, ti82_ok, trivial⟩
noncomputable def tyN73 : Tr TI := .node tyN72 83 ti83 .leaf
theorem tyN73_ok : tyN73.All TyP := ⟨tyN72_ok, ti83_ok, trivial⟩
noncomputable def tyN74 : Tr TI := .node .leaf 85 ti85 .leaf
theorem tyN74_ok : tyN74.All TyP := ⟨trivial, ti85_ok, trivial⟩
noncomputable def tyN75 : Tr TI := .node tyN73 84 ti84 tyN74
theorem tyN75_ok : tyN75.All TyP := ⟨tyN73_ok, ti84_ok, tyN74_ok⟩
noncomputable def tyN76 : Tr TI := .node .leaf 87 ti87 .leaf
theorem tyN76_ok : tyN76.All TyP := ⟨trivial, ti87_ok, trivial⟩
noncomputable def tyN77 : Tr TI := .node tyN76 88 ti88 .leaf
theorem tyN77_ok : tyN77.All TyP := ⟨tyN76_ok, ti88_ok, trivial⟩
noncomputable def tyN78 : Tr TI := .node .leaf 90 ti90 .leaf
theorem tyN78_ok : tyN78.All TyP := ⟨trivial, ti90_ok, trivial⟩
noncomputable def tyN79 : Tr TI := .node tyN77 89 ti89 tyN78
theorem tyN79_ok : tyN79.All TyP := ⟨tyN77_ok, ti89_ok, tyN78_ok⟩
noncomputable def tyN80 : Tr TI := .node tyN75 86 ti86 tyN79
theorem tyN80_ok : tyN80.All TyP := ⟨tyN75_ok, ti86_ok, tyN79_ok⟩
noncomputable def tyN81 : Tr TI := .node tyN71 81 ti81 tyN80
theorem tyN81_ok : tyN81.All TyP := ⟨tyN71_ok, ti81_ok, tyN80_ok⟩
noncomputable def tyN82 : Tr TI := .node tyN61 70 ti70 tyN81
theorem tyN82_ok : tyN82.All TyP := ⟨tyN61_ok, ti70_ok, tyN81_ok⟩
noncomputable def tyN83 : Tr TI := .node tyN41 47 ti47 tyN82
theorem tyN83_ok : tyN83.All TyP := ⟨tyN41_ok, ti47_ok, tyN82_ok⟩
noncomputable def tyN84 : Tr TI := .node .leaf 92 ti92 .leaf
theorem tyN84_ok : tyN84.All TyP := ⟨trivial, ti92_ok, trivial⟩
noncomputable def tyN85 : Tr TI := .node tyN84 93 ti93 .leaf
theorem tyN85_ok : tyN85.All TyP := ⟨tyN84_ok, ti93_ok, trivial⟩
noncomputable def tyN86 : Tr TI := .node .leaf 95 ti95 .leaf
theorem tyN86_ok : tyN86.All TyP := ⟨trivial, ti95_ok, trivial⟩
noncomputable def tyN87 : Tr TI := .node tyN86 96 ti96 .leaf
theorem tyN87_ok : tyN87.All TyP := ⟨tyN86_ok, ti96_ok, trivial⟩
noncomputable def tyN88 : Tr TI := .node tyN85 94 ti94 tyN87
theorem tyN88_ok : tyN88.All TyP := ⟨tyN85_ok, ti94_ok, tyN87_ok⟩
noncomputable def tyN89 : Tr TI := .node .leaf 98 ti98 .leaf
theorem tyN89_ok : tyN89.All TyP := ⟨trivial, ti98_ok, trivial⟩
noncomputable def tyN90 : Tr TI := .node tyN89 99 ti99 .leaf
theorem tyN90_ok : tyN90.All TyP := ⟨tyN89_ok, ti99_ok, trivial⟩
noncomputable def tyN91 : Tr TI := .node .leaf 101 ti101 .leaf
theorem tyN91_ok : tyN91.All TyP := ⟨trivial, ti101_ok, trivial⟩
noncomputable def tyN92 : Tr TI := .node tyN90 100 ti100 tyN91
theorem tyN92_ok : tyN92.All TyP := ⟨tyN90_ok, ti100_ok, tyN91_ok⟩
noncomputable def tyN93 : Tr TI := .node tyN88 97 ti97 tyN92
theorem tyN93_ok : tyN93.All TyP := ⟨tyN88_ok, ti97_ok, tyN92_ok⟩
noncomputable def tyN94 : Tr TI := .node .leaf 103 ti103 .leaf
theorem tyN94_ok : tyN94.All TyP := ⟨trivial, ti103_ok, trivial⟩
noncomputable def tyN95 : Tr TI := .node tyN94 104 ti104 .leaf
theorem tyN95_ok : tyN95.All TyP := ⟨tyN94_ok, ti104_ok, trivial⟩
noncomputable def tyN96 : Tr TI := .node .leaf 106 ti106 .leaf
theorem tyN96_ok : tyN96.All TyP := ⟨trivial, ti106_ok, trivial⟩
noncomputable def tyN97 : Tr TI := .node tyN95 105 ti105 tyN96
theorem tyN97_ok : tyN97.All TyP := ⟨tyN95_ok, ti105_ok, tyN96_ok⟩
noncomputable def tyN98 : Tr TI := .node .leaf 108 ti108 .leaf
theorem tyN98_ok : tyN98.All TyP := ⟨trivial, ti108_ok, trivial⟩
noncomputable def tyN99 : Tr TI := .node tyN98 109 ti109 .leaf
theorem tyN99_ok : tyN99.All TyP := ⟨tyN98_ok, ti109_ok, trivial⟩
noncomputable def tyN100 : Tr TI := .node .leaf 111 ti111 .leaf
theorem tyN100_ok : tyN100.All TyP := ⟨trivial, ti111_ok, trivial⟩
noncomputable def tyN101 : Tr TI := .node tyN99 110 ti110 tyN100
theorem tyN101_ok : tyN101.All TyP := ⟨tyN99_ok, ti110_ok, tyN100_ok⟩
noncomputable def tyN102 : Tr TI := .node tyN97 107 ti107 tyN101
theorem tyN102_ok : tyN102.All TyP := ⟨tyN97_ok, ti107_ok, tyN101_ok⟩
noncomputable def tyN103 : Tr TI := .node tyN93 102 ti102 tyN102
theorem tyN103_ok : tyN103.All TyP := ⟨tyN93_ok, ti102_ok, tyN102_ok⟩
noncomputable def tyN104 : Tr TI := .node .leaf 114 ti114 .leaf
theorem tyN104_ok : tyN104.All TyP := ⟨trivial, ti114_ok, trivial⟩
noncomputable def tyN105 : Tr TI := .node tyN104 115 ti115 .leaf
theorem tyN105_ok : tyN105.All TyP := ⟨tyN104_ok, ti115_ok, trivial⟩
noncomputable def tyN106 : Tr TI := .node .leaf 117 ti117 .leaf
theorem tyN106_ok : tyN106.All TyP := ⟨trivial, ti117_ok, trivial⟩
noncomputable def tyN107 : Tr TI := .node tyN106 118 ti118 .leaf
theorem tyN107_ok : tyN107.All TyP := ⟨tyN106_ok, ti118_ok, trivial⟩
noncomputable def tyN108 : Tr TI := .node tyN105 116 ti116 tyN107
theorem tyN108_ok : tyN108.All TyP := ⟨tyN105_ok, ti116_ok, tyN107_ok⟩
noncomputable def tyN109 : Tr TI := .node .leaf 120 ti120 .leaf
theorem tyN109_ok : tyN109.All TyP := ⟨trivial, ti120_ok, trivial⟩
noncomputable def tyN110 : Tr TI := .node tyN109 121 ti121 .leaf
theorem tyN110_ok : tyN110.All TyP := ⟨tyN109_ok, ti121_ok, trivial⟩
noncomputable def tyN111 : Tr TI := .node .leaf 124 ti124 .leaf
theorem tyN111_ok : tyN111.All TyP := ⟨trivial, ti124_ok, trivial⟩
noncomputable def tyN112 : Tr TI := .node tyN110 123 ti123 tyN111
theorem tyN112_ok : tyN112.All TyP := ⟨tyN110_ok, ti123_ok, tyN111_ok⟩
noncomputable def tyN113 : Tr TI := .node tyN108 119 ti119 tyN112
theorem tyN113_ok : tyN113.All TyP := ⟨tyN108_ok, ti119_ok, tyN112_ok⟩
noncomputable def tyN114 : Tr TI := .node .leaf 126 ti126 .leaf
theorem tyN114_ok : tyN114.All TyP := ⟨trivial, ti126_ok, trivial⟩
noncomputable def tyN115 : Tr TI := .node tyN114 127 ti127 .leaf
theorem tyN115_ok : tyN115.All TyP := ⟨tyN114_ok, ti127_ok, trivial⟩
noncomputable def tyN116 : Tr TI := .node .leaf 129 ti129 .leaf
theorem tyN116_ok : tyN116.All TyP := ⟨trivial, ti129_ok, trivial⟩
noncomputable def tyN117 : Tr TI := .node tyN115 128 ti128 tyN116
theorem tyN117_ok : tyN117.All TyP := ⟨tyN115_ok, ti128_ok, tyN116_ok⟩
noncomputable def tyN118 : Tr TI := .node .leaf 131 ti131 .leaf
theorem tyN118_ok : tyN118.All TyP := ⟨trivial, ti131_ok, trivial⟩
noncomputable def tyN119 : Tr TI := .node tyN118 132 ti132 .leaf
theorem tyN119_ok : tyN119.All TyP := ⟨tyN118_ok, ti132_ok, trivial⟩
noncomputable def tyN120 : Tr TI := .node .leaf 134 ti134 .leaf
theorem tyN120_ok : tyN120.All TyP := ⟨trivial, ti134_ok, trivial⟩
noncomputable def tyN121 : Tr TI := .node tyN119 133 ti133 tyN120
theorem tyN121_ok : tyN121.All TyP := ⟨tyN119_ok, ti133_ok, tyN120_ok⟩
noncomputable def tyN122 : Tr TI := .node tyN117 130 ti130 tyN121
theorem tyN122_ok : tyN122.All TyP := ⟨tyN117_ok, ti130_ok, tyN121_ok⟩
noncomputable def tyN123 : Tr TI := .node tyN113 125 ti125 tyN122
theorem tyN123_ok : tyN123.All TyP := ⟨tyN113_ok, ti125_ok, tyN122_ok⟩
noncomputable def tyN124 : Tr TI := .node tyN103 112 ti112 tyN123
theorem tyN124_ok : tyN124.All TyP := ⟨tyN103_ok, ti112_ok, tyN123_ok⟩
noncomputable def tyN125 : Tr TI := .node .leaf 137 ti137 .leaf
theorem tyN125_ok : tyN125.All TyP := ⟨trivial, ti137_ok, trivial⟩
noncomputable def tyN126 : Tr TI := .node tyN125 139 ti139 .leaf
theorem tyN126_ok : tyN126.All TyP := ⟨tyN125_ok, ti139_ok, trivial⟩
noncomputable def tyN127 : Tr TI := .node .leaf 142 ti142 .leaf
theorem tyN127_ok : tyN127.All TyP := ⟨trivial, ti142_ok, trivial⟩
noncomputable def tyN128 : Tr TI := .node tyN127 143 ti143 .leaf
theorem tyN128_ok : tyN128.All TyP := ⟨tyN127_ok, ti143_ok, trivial⟩
noncomputable def tyN129 : Tr TI := .node tyN126 141 ti141 tyN128
theorem tyN129_ok : tyN129.All TyP := ⟨tyN126_ok, ti141_ok, tyN128_ok⟩
noncomputable def tyN130 : Tr TI := .node .leaf 145 ti145 .leaf
theorem tyN130_ok : tyN130.All TyP := ⟨trivial, ti145_ok, trivial⟩
noncomputable def tyN131 : Tr TI := .node tyN130 146 ti146 .leaf
theorem tyN131_ok : tyN131.All TyP := ⟨tyN130_ok, ti146_ok, trivial⟩
noncomputable def tyN132 : Tr TI := .node .leaf 148 ti148 .leaf
theorem tyN132_ok : tyN132.All TyP := ⟨trivial, ti148_ok, trivial⟩
noncomputable def tyN133 : Tr TI := .node tyN131 147 ti147 tyN132
theorem tyN133_ok : tyN133.All TyP := ⟨tyN131_ok, ti147_ok, tyN132_ok⟩
noncomputable def tyN134 : Tr TI := .node tyN129 144 ti144 tyN133
theorem tyN134_ok : tyN134.All TyP := ⟨tyN129_ok, ti144_ok, tyN133_ok⟩
noncomputable def tyN135 : Tr TI := .node .leaf 150 ti150 .leaf
theorem tyN135_ok : tyN135.All TyP := ⟨trivial, ti150_ok, trivial⟩
noncomputable def tyN136 : Tr TI := .node tyN135 151 ti151 .leaf
theorem tyN136_ok : tyN136.All TyP := ⟨tyN135_ok, ti151_ok, trivial⟩
noncomputable def tyN137 : Tr TI := .node .leaf 154 ti154 .leaf
theorem tyN137_ok : tyN137.All TyP := ⟨trivial, ti154_ok, trivial⟩
noncomputable def tyN138 : Tr TI := .node tyN136 152 ti152 tyN137
theorem tyN138_ok : tyN138.All TyP := ⟨tyN136_ok, ti152_ok, tyN137_ok⟩
noncomputable def tyN139 : Tr TI := .node .leaf 156 ti156 .leaf
theorem tyN139_ok : tyN139.All TyP := ⟨trivial, ti156_ok, trivial⟩
noncomputable def tyN140 : Tr TI := .node tyN139 157 ti157 .leaf
theorem tyN140_ok : tyN140.All TyP := ⟨tyN139_ok, ti157_ok, trivial⟩
noncomputable def tyN141 : Tr TI := .node .leaf 159 ti159 .leaf
theorem tyN141_ok : tyN141.All TyP := ⟨trivial, ti159_ok, trivial⟩
noncomputable def tyN142 : Tr TI := .node tyN140 158 ti158 tyN141
theorem tyN142_ok : tyN142.All TyP := ⟨tyN140_ok, ti158_ok, tyN141_ok⟩
noncomputable def tyN143 : Tr TI := .node tyN138 155 ti155 tyN142
theorem tyN143_ok : tyN143.All TyP := ⟨tyN138_ok, ti155_ok, tyN142_ok⟩
noncomputable def tyN144 : Tr TI := .node tyN134 149 ti149 tyN143
theorem tyN144_ok : tyN144.All TyP := ⟨tyN134_ok, ti149_ok, tyN143_ok⟩
noncomputable def tyN145 : Tr TI := .node .leaf 161 ti161 .leaf
theorem tyN145_ok : tyN145.All TyP := ⟨trivial, ti161_ok, trivial⟩
noncomputable def tyN146 : Tr TI := .node tyN145 162 ti162 .leaf
theorem tyN146_ok : tyN146.All TyP := ⟨tyN145_ok, ti162_ok, trivial⟩
noncomputable def tyN147 : Tr TI := .node .leaf 164 ti164 .leaf
theorem tyN147_ok : tyN147.All TyP := ⟨trivial, ti164_ok, trivial⟩
noncomputable def tyN148 : Tr TI := .node tyN146 163 ti163 tyN147
theorem tyN148_ok : tyN148.All TyP := ⟨tyN146_ok, ti163_ok, tyN147_ok⟩
noncomputable def tyN149 : Tr TI := .node .leaf 166 ti166 .leaf
theorem tyN149_ok : tyN149.All TyP := ⟨trivial, ti166_ok, trivial⟩
noncomputable def tyN150 : Tr TI := .node tyN149 167 ti167 .leaf
theorem tyN150_ok : tyN150.All TyP := ⟨tyN149_ok, ti167_ok, trivial⟩
noncomputable def tyN151 : Tr TI := .node .leaf 169 ti169 .leaf
theorem tyN151_ok : tyN151.All TyP := ⟨trivial, ti169_ok, trivial⟩
noncomputable def tyN152 : Tr TI := .node tyN150 168 ti168 tyN151
theorem tyN152_ok : tyN152.All TyP := ⟨tyN150_ok, ti168_ok, tyN151_ok⟩
noncomputable def tyN153 : Tr TI := .node tyN148 165 ti165 tyN152
theorem tyN153_ok : tyN153.All TyP := ⟨tyN148_ok, ti165_ok, tyN152_ok⟩
noncomputable def tyN154 : Tr TI := .node .leaf 171 ti171 .leaf
theorem tyN154_ok : tyN154.All TyP := ⟨trivial, ti171_ok, trivial⟩
noncomputable def tyN155 : Tr TI := .node tyN154 172 ti172 .leaf
theorem tyN155_ok : tyN155.All TyP := ⟨tyN154_ok, ti172_ok, trivial⟩
noncomputable def tyN156 : Tr TI := .node .leaf 174 ti174 .leaf
theorem tyN156_ok : tyN156.All TyP := ⟨trivial, ti174_ok, trivial⟩
noncomputable def tyN157 : Tr TI := .node tyN155 173 ti173 tyN156
theorem tyN157_ok : tyN157.All TyP := ⟨tyN155_ok, ti173_ok, tyN156_ok⟩
noncomputable def tyN158 : Tr TI := .node .leaf 176 ti176 .leaf
theorem tyN158_ok : tyN158.All TyP := ⟨trivial, ti176_ok, trivial⟩
noncomputable def tyN159 : Tr TI := .node tyN158 177 ti177 .leaf
theorem tyN159_ok : tyN159.All TyP := ⟨tyN158_ok, ti177_ok, trivial⟩
noncomputable def tyN160 : Tr TI := .node .leaf 179 ti179 .leaf
theorem tyN160_ok : tyN160.All TyP := ⟨trivial, ti179_ok, trivial⟩
noncomputable def tyN161 : Tr TI := .node tyN159 178 ti178 tyN160
theorem tyN161_ok : tyN161.All TyP := ⟨tyN159_ok, ti178_ok, tyN160_ok⟩
noncomputable def tyN162 : Tr TI := .node tyN157 175 ti175 tyN161
theorem tyN162_ok : tyN162.All TyP := ⟨tyN157_ok, ti175_ok, tyN161_ok⟩
noncomputable def tyN163 : Tr TI := .node tyN153 170 ti170 tyN162
theorem tyN163_ok : tyN163.All TyP := ⟨tyN153_ok, ti170_ok, tyN162_ok⟩
noncomputable def tyN164 : Tr TI := .node tyN144 160 ti160 tyN163
theorem tyN164_ok : tyN164.All TyP := ⟨tyN144_ok, ti160_ok, tyN163_ok⟩
noncomputable def tyN165 : Tr TI := .node tyN124 135 ti135 tyN164
theorem tyN165_ok : tyN165.All TyP := ⟨tyN124_ok, ti135_ok, tyN164_ok⟩
noncomputable def tyN166 : Tr TI := .node tyN83 91 ti91 tyN165
theorem tyN166_ok : tyN166.All TyP := ⟨tyN83_ok, ti91_ok, tyN165_ok⟩
noncomputable def tyN167 : Tr TI := .node .leaf 181 ti181 .leaf
theorem tyN167_ok : tyN167.All TyP := ⟨trivial, ti181_ok, trivial⟩
noncomputable def tyN168 : Tr TI := .node tyN167 182 ti182 .leaf
theorem tyN168_ok : tyN168.All TyP := ⟨tyN167_ok, ti182_ok, trivial⟩
noncomputable def tyN169 : Tr TI := .node .leaf 184 ti184 .leaf
theorem tyN169_ok : tyN169.All TyP := ⟨trivial, ti184_ok, trivial⟩
noncomputable def tyN170 : Tr TI := .node tyN169 185 ti185 .leaf
theorem tyN170_ok : tyN170.All TyP := ⟨tyN169_ok, ti185_ok, trivial⟩
noncomputable def tyN171 : Tr TI := .node tyN168 183 ti183 tyN170
theorem tyN171_ok : tyN171.All TyP := ⟨tyN168_ok, ti183_ok, tyN170_ok⟩
noncomputable def tyN172 : Tr TI := .node .leaf 187 ti187 .leaf
theorem tyN172_ok : tyN172.All TyP := ⟨trivial, ti187_ok, trivial⟩
noncomputable def tyN173 : Tr TI := .node tyN172 189 ti189 .leaf
theorem tyN173_ok : tyN173.All TyP := ⟨tyN172_ok, ti189_ok, trivial⟩
noncomputable def tyN174 : Tr TI := .node .leaf 191 ti191 .leaf
theorem tyN174_ok : tyN174.All TyP := ⟨trivial, ti191_ok, trivial⟩
noncomputable def tyN175 : Tr TI := .node tyN173 190 ti190 tyN174
theorem tyN175_ok : tyN175.All TyP := ⟨tyN173_ok, ti190_ok, tyN174_ok⟩
noncomputable def tyN176 : Tr TI := .node tyN171 186 ti186 tyN175
theorem tyN176_ok : tyN176.All TyP := ⟨tyN171_ok, ti186_ok, tyN175_ok⟩
noncomputable def tyN177 : Tr TI := .node .leaf 193 ti193 .leaf
theorem tyN177_ok : tyN177.All TyP := ⟨trivial, ti193_ok, trivial⟩
noncomputable def tyN178 : Tr TI := .node tyN177 195 ti195 .leaf
theorem tyN178_ok : tyN178.All TyP := ⟨tyN177_ok, ti195_ok, trivial⟩
noncomputable def tyN179 : Tr TI := .node .leaf 197 ti197 .leaf
theorem tyN179_ok : tyN179.All TyP := ⟨trivial, ti197_ok, trivial⟩
noncomputable def tyN180 : Tr TI := .node tyN178 196 ti196 tyN179
theorem tyN180_ok : tyN180.All TyP := ⟨tyN178_ok, ti196_ok, tyN179_ok⟩
noncomputable def tyN181 : Tr TI := .node .leaf 199 ti199 .leaf
theorem tyN181_ok : tyN181.All TyP := ⟨trivial, ti199_ok, trivial⟩
noncomputable def tyN182 : Tr TI := .node tyN181 200 ti200 .leaf
theorem tyN182_ok : tyN182.All TyP := ⟨tyN181_ok, ti200_ok, trivial⟩
noncomputable def tyN183 : Tr TI := .node .leaf 202 ti202 .leaf
theorem tyN183_ok : tyN183.All TyP := ⟨trivial, ti202_ok, trivial⟩
noncomputable def tyN184 : Tr TI := .node tyN182 201 ti201 tyN183
theorem tyN184_ok : tyN184.All TyP := ⟨tyN182_ok, ti201_ok, tyN183_ok⟩
noncomputable def tyN185 : Tr TI := .node tyN180 198 ti198 tyN184
theorem tyN185_ok : tyN185.All TyP := ⟨tyN180_ok, ti198_ok, tyN184_ok⟩
noncomputable def tyN186 : Tr TI := .node tyN176 192 ti192 tyN185
theorem tyN186_ok : tyN186.All TyP := ⟨tyN176_ok, ti192_ok, tyN185_ok⟩
noncomputable def tyN187 : Tr TI := .node .leaf 205 ti205 .leaf
theorem tyN187_ok : tyN187.All TyP := ⟨trivial, ti205_ok, trivial⟩
noncomputable def tyN188 : Tr TI := .node tyN187 207 ti207 .leaf
theorem tyN188_ok : tyN188.All TyP := ⟨tyN187_ok, ti207_ok, trivial⟩
noncomputable def tyN189 : Tr TI := .node .leaf 209 ti209 .leaf
theorem tyN189_ok : tyN189.All TyP := ⟨trivial, ti209_ok, trivial⟩
noncomputable def tyN190 : Tr TI := .node tyN189 210 ti210 .leaf
theorem tyN190_ok : tyN190.All TyP := ⟨tyN189_ok, ti210_ok, trivial⟩
noncomputable def tyN191 : Tr TI := .node tyN188 208 ti208 tyN190
theorem tyN191_ok : tyN191.All TyP := ⟨tyN188_ok, ti208_ok, tyN190_ok⟩
noncomputable def tyN192 : Tr TI := .node .leaf 214 ti214 .leaf
theorem tyN192_ok : tyN192.All TyP := ⟨trivial, ti214_ok, trivial⟩
noncomputable def tyN193 : Tr TI := .node tyN192 215 ti215 .leaf
theorem tyN193_ok : tyN193.All TyP := ⟨tyN192_ok, ti215_ok, trivial⟩
noncomputable def tyN194 : Tr TI := .node .leaf 219 ti219 .leaf
theorem tyN194_ok : tyN194.All TyP := ⟨trivial, ti219_ok, trivial⟩
noncomputable def tyN195 : Tr TI := .node tyN193 217 ti217 tyN194
theorem tyN195_ok : tyN195.All TyP := ⟨tyN193_ok, ti217_ok, tyN194_ok⟩
noncomputable def tyN196 : Tr TI := .node tyN191 212 ti212 tyN195
theorem tyN196_ok : tyN196.All TyP := ⟨tyN191_ok, ti212_ok, tyN195_ok⟩
noncomputable def tyN197 : Tr TI := .node .leaf 221 ti221 .leaf
theorem tyN197_ok : tyN197.All TyP := ⟨trivial, ti221_ok, trivial⟩
noncomputable def tyN198 : Tr TI := .node tyN197 222 ti222 .leaf
theorem tyN198_ok : tyN198.All TyP := ⟨tyN197_ok, ti222_ok, trivial⟩
noncomputable def tyN199 : Tr TI := .node .leaf 225 ti225 .leaf
theorem tyN199_ok : tyN199.All TyP := ⟨trivial, ti225_ok, trivial⟩
noncomputable def tyN200 : Tr TI := .node tyN198 223 ti223 tyN199
theorem tyN200_ok : tyN200.All TyP := ⟨tyN198_ok, ti223_ok, tyN199_ok⟩
noncomputable def tyN201 : Tr TI := .node .leaf 227 ti227 .leaf
theorem tyN201_ok : tyN201.All TyP := ⟨trivial, ti227_ok, trivial⟩
noncomputable def tyN202 : Tr TI := .node tyN201 229 ti229 .leaf
theorem tyN202_ok : tyN202.All TyP := ⟨tyN201_ok, ti229_ok, trivial⟩
noncomputable def tyN203 : Tr TI := .node .leaf 231 ti231 .leaf
theorem tyN203_ok : tyN203.All TyP := ⟨trivial, ti231_ok, trivial⟩
noncomputable def tyN204 : Tr TI := .node tyN202 230 ti230 tyN203
theorem tyN204_ok : tyN204.All TyP := ⟨tyN202_ok, ti230_ok, tyN203_ok⟩
noncomputable def tyN205 : Tr TI := .node tyN200 226 ti226 tyN204
theorem tyN205_ok : tyN205.All TyP := ⟨tyN200_ok, ti226_ok, tyN204_ok⟩
noncomputable def tyN206 : Tr TI := .node tyN196 220 ti220 tyN205
theorem tyN206_ok : tyN206.All TyP := ⟨tyN196_ok, ti220_ok, tyN205_ok⟩
noncomputable def tyN207 : Tr TI := .node tyN186 204 ti204 tyN206
theorem tyN207_ok : tyN207.All TyP := ⟨tyN186_ok, ti204_ok, tyN206_ok⟩
noncomputable def tyN208 : Tr TI := .node .leaf 233 ti233 .leaf
theorem tyN208_ok : tyN208.All TyP := ⟨trivial, ti233_ok, trivial⟩
noncomputable def tyN209 : Tr TI := .node tyN208 234 ti234 .leaf
theorem tyN209_ok : tyN209.All TyP := ⟨tyN208_ok, ti234_ok, trivial⟩
noncomputable def tyN210 : Tr TI := .node .leaf 236 ti236 .leaf
theorem tyN210_ok : tyN210.All TyP := ⟨trivial, ti236_ok, trivial⟩
noncomputable def tyN211 : Tr TI := .node tyN210 237 ti237 .leaf
theorem tyN211_ok : tyN211.All TyP := ⟨tyN210_ok, ti237_ok, trivial⟩
noncomputable def tyN212 : Tr TI := .node tyN209 235 ti235 tyN211
theorem tyN212_ok : tyN212.All TyP := ⟨tyN209_ok, ti235_ok, tyN211_ok⟩
noncomputable def tyN213 : Tr TI := .node .leaf 239 ti239 .leaf
theorem tyN213_ok : tyN213.All TyP := ⟨trivial, ti239_ok, trivial⟩
noncomputable def tyN214 : Tr TI := .node tyN213 240 ti240 .leaf
theorem tyN214_ok : tyN214.All TyP := ⟨tyN213_ok, ti240_ok, trivial⟩
noncomputable def tyN215 : Tr TI := .node .leaf 242 ti242 .leaf
theorem tyN215_ok : tyN215.All TyP := ⟨trivial, ti242_ok, trivial⟩
noncomputable def tyN216 : Tr TI := .node tyN214 241 ti241 tyN215
theorem tyN216_ok : tyN216.All TyP := ⟨tyN214_ok, ti241_ok, tyN215_ok⟩
noncomputable def tyN217 : Tr TI := .node tyN212 238 ti238 tyN216
theorem tyN217_ok : tyN217.All TyP := ⟨tyN212_ok, ti238_ok, tyN216_ok⟩
noncomputable def tyN218 : Tr TI := .node .leaf 244 ti244 .leaf
theorem tyN218_ok : tyN218.All TyP := ⟨trivial, ti244_ok, trivial⟩
noncomputable def tyN219 : Tr TI := .node tyN218 245 ti245 .leaf
theorem tyN219_ok : tyN219.All TyP := ⟨tyN218_ok, ti245_ok, trivial⟩
noncomputable def tyN220 : Tr TI := .node .leaf 247 ti247 .leaf
theorem tyN220_ok : tyN220.All TyP := ⟨trivial, ti247_ok, trivial⟩
noncomputable def tyN221 : Tr TI := .node tyN219 246 ti246 tyN220
theorem tyN221_ok : tyN221.All TyP := ⟨tyN219_ok, ti246_ok, tyN220_ok⟩
noncomputable def tyN222 : Tr TI := .node .leaf 249 ti249 .leaf
theorem tyN222_ok : tyN222.All TyP := ⟨trivial, ti249_ok, trivial⟩
noncomputable def tyN223 : Tr TI := .node tyN222 250 ti250 .leaf
theorem tyN223_ok : tyN223.All TyP := ⟨tyN222_ok, ti250_ok, trivial⟩
noncomputable def tyN224 : Tr TI := .node .leaf 253 ti253 .leaf
theorem tyN224_ok : tyN224.All TyP := ⟨trivial, ti253_ok, trivial⟩
noncomputable def tyN225 : Tr TI := .node tyN223 252 ti252 tyN224
theorem tyN225_ok : tyN225.All TyP := ⟨tyN223_ok, ti252_ok, tyN224_ok⟩
noncomputable def tyN226 : Tr TI := .node tyN221 248 ti248 tyN225
theorem tyN226_ok : tyN226.All TyP := ⟨tyN221_ok, ti248_ok, tyN225_ok⟩
noncomputable def tyN227 : Tr TI := .node tyN217 243 ti243 tyN226
theorem tyN227_ok : tyN227.All TyP := ⟨tyN217_ok, ti243_ok, tyN226_ok⟩
noncomputable def tyN228 : Tr TI := .node .leaf 255 ti255 .leaf
theorem tyN228_ok : tyN228.All TyP := ⟨trivial, ti255_ok, trivial⟩
noncomputable def tyN229 : Tr TI := .node tyN228 256 ti256 .leaf
theorem tyN229_ok : tyN229.All TyP := ⟨tyN228_ok, ti256_ok, trivial⟩
noncomputable def tyN230 : Tr TI := .node .leaf 258 ti258 .leaf
theorem tyN230_ok : tyN230.All TyP := ⟨trivial, ti258_ok, trivial⟩
noncomputable def tyN231 : Tr TI := .node tyN230 259 ti259 .leaf
theorem tyN231_ok : tyN231.All TyP := ⟨tyN230_ok, ti259_ok, trivial⟩
noncomputable def tyN232 : Tr TI := .node tyN229 257 ti257 tyN231
theorem tyN232_ok : tyN232.All TyP := ⟨tyN229_ok, ti257_ok, tyN231_ok⟩
noncomputable def tyN233 : Tr TI := .node .leaf 262 ti262 .leaf
theorem tyN233_ok : tyN233.All TyP := ⟨trivial, ti262_ok, trivial⟩
noncomputable def tyN234 : Tr TI := .node tyN233 264 ti264 .leaf
theorem tyN234_ok : tyN234.All TyP := ⟨tyN233_ok, ti264_ok, trivial⟩
noncomputable def tyN235 : Tr TI := .node .leaf 267 ti267 .leaf
theorem tyN235_ok : tyN235.All TyP := ⟨trivial, ti267_ok, trivial⟩
noncomputable def tyN236 : Tr TI := .node tyN234 265 ti265 tyN235
theorem tyN236_ok : tyN236.All TyP := ⟨tyN234_ok, ti265_ok, tyN235_ok⟩
noncomputable def tyN237 : Tr TI := .node tyN232 260 ti260 tyN236
theorem tyN237_ok : tyN237.All TyP := ⟨tyN232_ok, ti260_ok, tyN236_ok⟩
noncomputable def tyN238 : Tr TI := .node .leaf 270 ti270 .leaf
theorem tyN238_ok : tyN238.All TyP := ⟨trivial, ti270_ok, trivial⟩
noncomputable def tyN239 : Tr TI := .node tyN238 271 ti271 .leaf
theorem tyN239_ok : tyN239.All TyP := ⟨tyN238_ok, ti271_ok, trivial⟩
noncomputable def tyN240 : Tr TI := .node .leaf 274 ti274 .leaf
theorem tyN240_ok : tyN240.All TyP := ⟨trivial, ti274_ok, trivial⟩
noncomputable def tyN241 : Tr TI := .node tyN239 272 ti272 tyN240
theorem tyN241_ok : tyN241.All TyP := ⟨tyN239_ok, ti272_ok, tyN240_ok⟩
noncomputable def tyN242 : Tr TI := .node .leaf 277 ti277 .leaf
theorem tyN242_ok : tyN242.All TyP := ⟨trivial, ti277_ok, trivial⟩
noncomputable def tyN243 : Tr TI := .node tyN242 278 ti278 .leaf
theorem tyN243_ok : tyN243.All TyP := ⟨tyN242_ok, ti278_ok, trivial⟩
noncomputable def tyN244 : Tr TI := .node .leaf 280 ti280 .leaf
theorem tyN244_ok : tyN244.All TyP := ⟨trivial, ti280_ok, trivial⟩
noncomputable def tyN245 : Tr TI := .node tyN243 279 ti279 tyN244
theorem tyN245_ok : tyN245.All TyP := ⟨tyN243_ok, ti279_ok, tyN244_ok⟩
noncomputable def tyN246 : Tr TI := .node tyN241 276 ti276 tyN245
theorem tyN246_ok : tyN246.All TyP := ⟨tyN241_ok, ti276_ok, tyN245_ok⟩
noncomputable def tyN247 : Tr TI := .node tyN237 268 ti268 tyN246
theorem tyN247_ok : tyN247.All TyP := ⟨tyN237_ok, ti268_ok, tyN246_ok⟩
noncomputable def tyN248 : Tr TI := .node tyN227 254 ti254 tyN247
theorem tyN248_ok : tyN248.All TyP := ⟨tyN227_ok, ti254_ok, tyN247_ok⟩
noncomputable def tyN249 : Tr TI := .node tyN207 232 ti232 tyN248
theorem tyN249_ok : tyN249.All TyP := ⟨tyN207_ok, ti232_ok, tyN248_ok⟩
noncomputable def tyN250 : Tr TI := .node .leaf 282 ti282 .leaf
theorem tyN250_ok : tyN250.All TyP := ⟨trivial, ti282_ok, trivial⟩
noncomputable def tyN251 : Tr TI := .node tyN250 283 ti283 .leaf
theorem tyN251_ok : tyN251.All TyP := ⟨tyN250_ok, ti283_ok, trivial⟩
noncomputable def tyN252 : Tr TI := .node .leaf 285 ti285 .leaf
theorem tyN252_ok : tyN252.All TyP := ⟨trivial, ti285_ok, trivial⟩
noncomputable def tyN253 : Tr TI := .node tyN252 286 ti286 .leaf
theorem tyN253_ok : tyN253.All TyP := ⟨tyN252_ok, ti286_ok, trivial⟩
noncomputable def tyN254 : Tr TI := .node tyN251 284 ti284 tyN253
theorem tyN254_ok : tyN254.All TyP := ⟨tyN251_ok, ti284_ok, tyN253_ok⟩
noncomputable def tyN255 : Tr TI := .node .leaf 289 ti289 .leaf
theorem tyN255_ok : tyN255.All TyP := ⟨trivial, ti289_ok, trivial⟩
noncomputable def tyN256 : Tr TI := .node tyN255 290 ti290 .leaf
theorem tyN256_ok : tyN256.All TyP := ⟨tyN255_ok, ti290_ok, trivial⟩
noncomputable def tyN257 : Tr TI := .node .leaf 293 ti293 .leaf
theorem tyN257_ok : tyN257.All TyP := ⟨trivial, ti293_ok, trivial⟩
noncomputable def tyN258 : Tr TI := .node tyN256 292 ti292 tyN257
theorem tyN258_ok : tyN258.All TyP := ⟨tyN256_ok, ti292_ok, tyN257_ok⟩
noncomputable def tyN259 : Tr TI := .node tyN254 287 ti287 tyN258
theorem tyN259_ok : tyN259.All TyP := ⟨tyN254_ok, ti287_ok, tyN258_ok⟩
noncomputable def tyN260 : Tr TI := .node .leaf 295 ti295 .leaf
theorem tyN260_ok : tyN260.All TyP := ⟨trivial, ti295_ok, trivial⟩
noncomputable def tyN261 : Tr TI := .node tyN260 297 ti297 .leaf
theorem tyN261_ok : tyN261.All TyP := ⟨tyN260_ok, ti297_ok, trivial⟩
noncomputable def tyN262 : Tr TI := .node .leaf 299 ti299 .leaf
theorem tyN262_ok : tyN262.All TyP := ⟨trivial, ti299_ok, trivial⟩
noncomputable def tyN263 : Tr TI := .node tyN261 298 ti298 tyN262
theorem tyN263_ok : tyN263.All TyP := ⟨tyN261_ok, ti298_ok, tyN262_ok⟩
noncomputable def tyN264 : Tr TI := .node .leaf 301 ti301 .leaf
theorem tyN264_ok : tyN264.All TyP := ⟨trivial, ti301_ok, trivial⟩
noncomputable def tyN265 : Tr TI := .node tyN264 302 ti302 .leaf
theorem tyN265_ok : tyN265.All TyP := ⟨tyN264_ok, ti302_ok, trivial⟩
noncomputable def tyN266 : Tr TI := .node .leaf 307 ti307 .leaf
theorem tyN266_ok : tyN266.All TyP := ⟨trivial, ti307_ok, trivial⟩
noncomputable def tyN267 : Tr TI := .node tyN265 306 ti306 tyN266
theorem tyN267_ok : tyN267.All TyP := ⟨tyN265_ok, ti306_ok, tyN266_ok⟩
noncomputable def tyN268 : Tr TI := .node tyN263 300 ti300 tyN267
theorem tyN268_ok : tyN268.All TyP := ⟨tyN263_ok, ti300_ok, tyN267_ok⟩
noncomputable def tyN269 : Tr TI := .node tyN259 294 ti294 tyN268
theorem tyN269_ok : tyN269.All TyP := ⟨tyN259_ok, ti294_ok, tyN268_ok⟩
noncomputable def tyN270 : Tr TI := .node .leaf 309 ti309 .leaf
theorem tyN270_ok : tyN270.All TyP := ⟨trivial, ti309_ok, trivial⟩
noncomputable def tyN271 : Tr TI := .node tyN270 310 ti310 .leaf
theorem tyN271_ok : tyN271.All TyP := ⟨tyN270_ok, ti310_ok, trivial⟩
noncomputable def tyN272 : Tr TI := .node .leaf 312 ti312 .leaf
theorem tyN272_ok : tyN272.All TyP := ⟨trivial, ti312_ok, trivial⟩
noncomputable def tyN273 : Tr TI := .node tyN272 313 ti313 .leaf
theorem tyN273_ok : tyN273.All TyP := ⟨tyN272_ok, ti313_ok, trivial⟩
noncomputable def tyN274 : Tr TI := .node tyN271 311 ti311 tyN273
theorem tyN274_ok : tyN274.All TyP := ⟨tyN271_ok, ti311_ok, tyN273_ok⟩
noncomputable def tyN275 : Tr TI := .node .leaf 316 ti316 .leaf
theorem tyN275_ok : tyN275.All TyP := ⟨trivial, ti316_ok, trivial⟩
noncomputable def tyN276 : Tr TI := .node tyN275 318 ti318 .leaf
theorem tyN276_ok : tyN276.All TyP := ⟨tyN275_ok, ti318_ok, trivial⟩
noncomputable def tyN277 : Tr TI := .node .leaf 321 ti321 .leaf
theorem tyN277_ok : tyN277.All TyP := ⟨trivial, ti321_ok, trivial⟩
noncomputable def tyN278 : Tr TI := .node tyN276 319 ti319 tyN277
theorem tyN278_ok : tyN278.All TyP := ⟨tyN276_ok, ti319_ok, tyN277_ok⟩
noncomputable def tyN279 : Tr TI := .node tyN274 315 ti315 tyN278
theorem tyN279_ok : tyN279.All TyP := ⟨tyN274_ok, ti315_ok, tyN278_ok⟩
noncomputable def tyN280 : Tr TI := .node .leaf 323 ti323 .leaf
theorem tyN280_ok : tyN280.All TyP := ⟨trivial, ti323_ok, trivial⟩
noncomputable def tyN281 : Tr TI := .node tyN280 324 ti324 .leaf
theorem tyN281_ok : tyN281.All TyP := ⟨tyN280_ok, ti324_ok, trivial⟩
noncomputable def tyN282 : Tr TI := .node .leaf 326 ti326 .leaf
theorem tyN282_ok : tyN282.All TyP := ⟨trivial, ti326_ok, trivial⟩
noncomputable def tyN283 : Tr TI := .node tyN281 325 ti325 tyN282
theorem tyN283_ok : tyN283.All TyP := ⟨tyN281_ok, ti325_ok, tyN282_ok⟩
noncomputable def tyN284 : Tr TI := .node .leaf 328 ti328 .leaf
theorem tyN284_ok : tyN284.All TyP := ⟨trivial, ti328_ok, trivial⟩
noncomputable def tyN285 : Tr TI := .node tyN284 329 ti329 .leaf
theorem tyN285_ok : tyN285.All TyP := ⟨tyN284_ok, ti329_ok, trivial⟩
noncomputable def tyN286 : Tr TI := .node .leaf 331 ti331 .leaf
theorem tyN286_ok : tyN286.All TyP := ⟨trivial, ti331_ok, trivial⟩
noncomputable def tyN287 : Tr TI := .node tyN285 330 ti330 tyN286
theorem tyN287_ok : tyN287.All TyP := ⟨tyN285_ok, ti330_ok, tyN286_ok⟩
noncomputable def tyN288 : Tr TI := .node tyN283 327 ti327 tyN287
theorem tyN288_ok : tyN288.All TyP := ⟨tyN283_ok, ti327_ok, tyN287_ok⟩
noncomputable def tyN289 : Tr TI := .node tyN279 322 ti322 tyN288
theorem tyN289_ok : tyN289.All TyP := ⟨tyN279_ok, ti322_ok, tyN288_ok⟩
noncomputable def tyN290 : Tr TI := .node tyN269 308 ti308 tyN289
theorem tyN290_ok : tyN290.All TyP := ⟨tyN269_ok, ti308_ok, tyN289_ok⟩
noncomputable def tyN291 : Tr TI := .node .leaf 333 ti333 .leaf
theorem tyN291_ok : tyN291.All TyP := ⟨trivial, ti333_ok, trivial⟩
noncomputable def tyN292 : Tr TI := .node tyN291 334 ti334 .leaf
theorem tyN292_ok : tyN292.All TyP := ⟨tyN291_ok, ti334_ok, trivial⟩
noncomputable def tyN293 : Tr TI := .node .leaf 336 ti336 .leaf
theorem tyN293_ok : tyN293.All TyP := ⟨trivial, ti336_ok, trivial⟩
noncomputable def tyN294 : Tr TI := .node tyN293 337 ti337 .leaf
theorem tyN294_ok : tyN294.All TyP := ⟨tyN293_ok, ti337_ok, trivial⟩
noncomputable def tyN295 : Tr TI := .node tyN292 335 ti335 tyN294
theorem tyN295_ok : tyN295.All TyP := ⟨tyN292_ok, ti335_ok, tyN294_ok⟩
noncomputable def tyN296 : Tr TI := .node .leaf 339 ti339 .leaf
theorem tyN296_ok : tyN296.All TyP := ⟨trivial, ti339_ok, trivial⟩
noncomputable def tyN297 : Tr TI := .node tyN296 340 ti340 .leaf
theorem tyN297_ok : tyN297.All TyP := ⟨tyN296_ok, ti340_ok, trivial⟩
noncomputable def tyN298 : Tr TI := .node .leaf 344 ti344 .leaf
theorem tyN298_ok : tyN298.All TyP := ⟨trivial, ti344_ok, trivial⟩
noncomputable def tyN299 : Tr TI := .node tyN297 342 ti342 tyN298
theorem tyN299_ok : tyN299.All TyP := ⟨tyN297_ok, ti342_ok, tyN298_ok⟩
noncomputable def tyN300 : Tr TI := .node tyN295 338 ti338 tyN299
theorem tyN300_ok : tyN300.All TyP := ⟨tyN295_ok, ti338_ok, tyN299_ok⟩
noncomputable def tyN301 : Tr TI := .node .leaf 346 ti346 .leaf
theorem tyN301_ok : tyN301.All TyP := ⟨trivial, ti346_ok, trivial⟩
noncomputable def tyN302 : Tr TI := .node tyN301 348 ti348 .leaf
theorem tyN302_ok : tyN302.All TyP := ⟨tyN301_ok, ti348_ok, trivial⟩
noncomputable def tyN303 : Tr TI := .node .leaf 351 ti351 .leaf
theorem tyN303_ok : tyN303.All TyP := ⟨trivial, ti351_ok, trivial⟩
noncomputable def tyN304 : Tr TI := .node tyN302 350 ti350 tyN303
theorem tyN304_ok : tyN304.All TyP := ⟨tyN302_ok, ti350_ok, tyN303_ok⟩
noncomputable def tyN305 : Tr TI := .node .leaf 355 ti355 .leaf
theorem tyN305_ok : tyN305.All TyP := ⟨trivial, ti355_ok, trivial⟩
noncomputable def tyN306 : Tr TI := .node tyN305 356 ti356 .leaf
theorem tyN306_ok : tyN306.All TyP := ⟨tyN305_ok, ti356_ok, trivial⟩
noncomputable def tyN307 : Tr TI := .node .leaf 359 ti359 .leaf
theorem tyN307_ok : tyN307.All TyP := ⟨trivial, ti359_ok, trivial⟩
noncomputable def tyN308 : Tr TI := .node tyN306 357 ti357 tyN307
theorem tyN308_ok : tyN308.All TyP := ⟨tyN306_ok, ti357_ok, tyN307_ok⟩
noncomputable def tyN309 : Tr TI := .node tyN304 353 ti353 tyN308
theorem tyN309_ok : tyN309.All TyP := ⟨tyN304_ok, ti353_ok, tyN308_ok⟩
noncomputable def tyN310 : Tr TI := .node tyN300 345 ti345 tyN309
theorem tyN310_ok : tyN310.All TyP := ⟨tyN300_ok, ti345_ok, tyN309_ok⟩
noncomputable def tyN311 : Tr TI := .node .leaf 361 ti361 .leaf
theorem tyN311_ok : tyN311.All TyP := ⟨trivial, ti361_ok, trivial⟩
noncomputable def tyN312 : Tr TI := .node tyN311 363 ti363 .leaf
theorem tyN312_ok : tyN312.All TyP := ⟨tyN311_ok, ti363_ok, trivial⟩
noncomputable def tyN313 : Tr TI := .node .leaf 365 ti365 .leaf
theorem tyN313_ok : tyN313.All TyP := ⟨trivial, ti365_ok, trivial⟩
noncomputable def tyN314 : Tr TI := .node tyN312 364 ti364 tyN313
theorem tyN314_ok : tyN314.All TyP := ⟨tyN312_ok, ti364_ok, tyN313_ok⟩
noncomputable def tyN315 : Tr TI := .node .leaf 367 ti367 .leaf
theorem tyN315_ok : tyN315.All TyP := ⟨trivial, ti367_ok, trivial⟩
noncomputable def tyN316 : Tr TI := .node tyN315 368 ti368 .leaf
theorem tyN316_ok : tyN316.All TyP := ⟨tyN315_ok, ti368_ok, trivial⟩
noncomputable def tyN317 : Tr TI := .node .leaf 370 ti370 .leaf
theorem tyN317_ok : tyN317.All TyP := ⟨trivial, ti370_ok, trivial⟩
noncomputable def tyN318 : Tr TI := .node tyN316 369 ti369 tyN317
theorem tyN318_ok : tyN318.All TyP := ⟨tyN316_ok, ti369_ok, tyN317_ok⟩
noncomputable def tyN319 : Tr TI := .node tyN314 366 ti366 tyN318
theorem tyN319_ok : tyN319.All TyP := ⟨tyN314_ok, ti366_ok, tyN318_ok⟩
noncomputable def tyN320 : Tr TI := .node .leaf 373 ti373 .leaf
theorem tyN320_ok : tyN320.All TyP := ⟨trivial, ti373_ok, trivial⟩
noncomputable def tyN321 : Tr TI := .node tyN320 374 ti374 .leaf
theorem tyN321_ok : tyN321.All TyP := ⟨tyN320_ok, ti374_ok, trivial⟩
noncomputable def tyN322 : Tr TI := .node .leaf 378 ti378 .leaf
theorem tyN322_ok : tyN322.All TyP := ⟨trivial, ti378_ok, trivial⟩
noncomputable def tyN323 : Tr TI := .node tyN321 375 ti375 tyN322
theorem tyN323_ok : tyN323.All TyP := ⟨tyN321_ok, ti375_ok, tyN322_ok⟩
noncomputable def tyN324 : Tr TI := .node .leaf 382 ti382 .leaf
theorem tyN324_ok : tyN324.All TyP := ⟨trivial, ti382_ok, trivial⟩
noncomputable def tyN325 : Tr TI := .node tyN324 383 ti383 .leaf
theorem tyN325_ok : tyN325.All TyP := ⟨tyN324_ok, ti383_ok, trivial⟩
noncomputable def tyN326 : Tr TI := .node .leaf 385 ti385 .leaf
theorem tyN326_ok : tyN326.All TyP := ⟨trivial, ti385_ok, trivial⟩
noncomputable def tyN327 : Tr TI := .node tyN325 384 ti384 tyN326
theorem tyN327_ok : tyN327.All TyP := ⟨tyN325_ok, ti384_ok, tyN326_ok⟩
noncomputable def tyN328 : Tr TI := .node tyN323 381 ti381 tyN327
theorem tyN328_ok : tyN328.All TyP := ⟨tyN323_ok, ti381_ok, tyN327_ok⟩
noncomputable def tyN329 : Tr TI := .node tyN319 371 ti371 tyN328
theorem tyN329_ok : tyN329.All TyP := ⟨tyN319_ok, ti371_ok, tyN328_ok⟩
noncomputable def tyN330 : Tr TI := .node tyN310 360 ti360 tyN329
theorem tyN330_ok : tyN330.All TyP := ⟨tyN310_ok, ti360_ok, tyN329_ok⟩
noncomputable def tyN331 : Tr TI := .node tyN290 332 ti332 tyN330
theorem tyN331_ok : tyN331.All TyP := ⟨tyN290_ok, ti332_ok, tyN330_ok⟩
noncomputable def tyN332 : Tr TI := .node tyN249 281 ti281 tyN331
theorem tyN332_ok : tyN332.All TyP := ⟨tyN249_ok, ti281_ok, tyN331_ok⟩
noncomputable def tyN333 : Tr TI := .node tyN166 180 ti180 tyN332
theorem tyN333_ok : tyN333.All TyP := ⟨tyN166_ok, ti180_ok, tyN332_ok⟩
noncomputable def tyTree : Tr TI := tyN333
theorem tyTree_ok : Tbl.ok Tryz.prog fun t => tyTree.find t := fun _ _ h => Tr.find_all (p := TyP) tyTree tyN333_ok h
theorem fn0_ok : Tryz.prog.funcs[0]? = some Tryz.f0 := by kernel_rfl
theorem fn1_ok : Tryz.prog.funcs[1]? = some Tryz.f1 := by kernel_rfl
theorem fn2_ok : Tryz.prog.funcs[2]? = some Tryz.f2 := by kernel_rfl
theorem fn3_ok : Tryz.prog.funcs[3]? = some Tryz.f3 := by kernel_rfl
theorem fn4_ok : Tryz.prog.funcs[4]? = some Tryz.f4 := by kernel_rfl
theorem fn5_ok : Tryz.prog.funcs[5]? = some Tryz.f5 := by kernel_rfl
theorem fn6_ok : Tryz.prog.funcs[6]? = some Tryz.f6 := by kernel_rfl
theorem fn7_ok : Tryz.prog.funcs[7]? = some Tryz.f7 := by kernel_rfl
theorem fn8_ok : Tryz.prog.funcs[8]? = some Tryz.f8 := by kernel_rfl
theorem fn9_ok : Tryz.prog.funcs[9]? = some Tryz.f9 := by kernel_rfl
theorem fn10_ok : Tryz.prog.funcs[10]? = some Tryz.f10 := by kernel_rfl
theorem fn11_ok : Tryz.prog.funcs[11]? = some Tryz.f11 := by kernel_rfl
theorem fn12_ok : Tryz.prog.funcs[12]? = some Tryz.f12 := by kernel_rfl
theorem fn13_ok : Tryz.prog.funcs[13]? = some Tryz.f13 := by kernel_rfl
theorem fn14_ok : Tryz.prog.funcs[14]? = some Tryz.f14 := by kernel_rfl
theorem fn15_ok : Tryz.prog.funcs[15]? = some Tryz.f15 := by kernel_rfl
theorem fn16_ok : Tryz.prog.funcs[16]? = some Tryz.f16 := by kernel_rfl
theorem fn17_ok : Tryz.prog.funcs[17]? = some Tryz.f17 := by kernel_rfl
theorem fn18_ok : Tryz.prog.funcs[18]? = some Tryz.f18 := by kernel_rfl
theorem fn19_ok : Tryz.prog.funcs[19]? = some Tryz.f19 := by kernel_rfl
theorem fn20_ok : Tryz.prog.funcs[20]? = some Tryz.f20 := by kernel_rfl
theorem fn21_ok : Tryz.prog.funcs[21]? = some Tryz.f21 := by kernel_rfl
theorem fn22_ok : Tryz.prog.funcs[22]? = some Tryz.f22 := by kernel_rfl
theorem fn23_ok : Tryz.prog.funcs[23]? = some Tryz.f23 := by kernel_rfl
theorem fn24_ok : Tryz.prog.funcs[24]? = some Tryz.f24 := by kernel_rfl
theorem fn25_ok : Tryz.prog.funcs[25]? = some Tryz.f25 := by kernel_rfl
theorem fn26_ok : Tryz.prog.funcs[26]? = some Tryz.f26 := by kernel_rfl
theorem fn27_ok : Tryz.prog.funcs[27]? = some Tryz.f27 := by kernel_rfl
theorem fn28_ok : Tryz.prog.funcs[28]? = some Tryz.f28 := by kernel_rfl
theorem fn29_ok : Tryz.prog.funcs[29]? = some Tryz.f29 := by kernel_rfl
theorem fn30_ok : Tryz.prog.funcs[30]? = some Tryz.f30 := by kernel_rfl
theorem fn31_ok : Tryz.prog.funcs[31]? = some Tryz.f31 := by kernel_rfl
theorem fn32_ok : Tryz.prog.funcs[32]? = some Tryz.f32 := by kernel_rfl
theorem fn33_ok : Tryz.prog.funcs[33]? = some Tryz.f33 := by kernel_rfl
theorem fn34_ok : Tryz.prog.funcs[34]? = some Tryz.f34 := by kernel_rfl
theorem fn35_ok : Tryz.prog.funcs[35]? = some Tryz.f35 := by kernel_rfl
theorem fn36_ok : Tryz.prog.funcs[36]? = some Tryz.f36 := by kernel_rfl
theorem fn37_ok : Tryz.prog.funcs[37]? = some Tryz.f37 := by kernel_rfl
theorem fn38_ok : Tryz.prog.funcs[38]? = some Tryz.f38 := by kernel_rfl
theorem fn39_ok : Tryz.prog.funcs[39]? = some Tryz.f39 := by kernel_rfl
theorem fn40_ok : Tryz.prog.funcs[40]? = some Tryz.f40 := by kernel_rfl
theorem fn41_ok : Tryz.prog.funcs[41]? = some Tryz.f41 := by kernel_rfl
theorem fn42_ok : Tryz.prog.funcs[42]? = some Tryz.f42 := by kernel_rfl
theorem fn43_ok : Tryz.prog.funcs[43]? = some Tryz.f43 := by kernel_rfl
theorem fn44_ok : Tryz.prog.funcs[44]? = some Tryz.f44 := by kernel_rfl
theorem fn45_ok : Tryz.prog.funcs[45]? = some Tryz.f45 := by kernel_rfl
theorem fn46_ok : Tryz.prog.funcs[46]? = some Tryz.f46 := by kernel_rfl
theorem fn47_ok : Tryz.prog.funcs[47]? = some Tryz.f47 := by kernel_rfl
theorem fn48_ok : Tryz.prog.funcs[48]? = some Tryz.f48 := by kernel_rfl
theorem fn49_ok : Tryz.prog.funcs[49]? = some Tryz.f49 := by kernel_rfl
theorem fn50_ok : Tryz.prog.funcs[50]? = some Tryz.f50 := by kernel_rfl
theorem fn51_ok : Tryz.prog.funcs[51]? = some Tryz.f51 := by kernel_rfl
theorem fn52_ok : Tryz.prog.funcs[52]? = some Tryz.f52 := by kernel_rfl
theorem fn53_ok : Tryz.prog.funcs[53]? = some Tryz.f53 := by kernel_rfl
theorem fn54_ok : Tryz.prog.funcs[54]? = some Tryz.f54 := by kernel_rfl
theorem fn55_ok : Tryz.prog.funcs[55]? = some Tryz.f55 := by kernel_rfl
theorem fn56_ok : Tryz.prog.funcs[56]? = some Tryz.f56 := by kernel_rfl
theorem fn57_ok : Tryz.prog.funcs[57]? = some Tryz.f57 := by kernel_rfl
theorem fn58_ok : Tryz.prog.funcs[58]? = some Tryz.f58 := by kernel_rfl
theorem fn59_ok : Tryz.prog.funcs[59]? = some Tryz.f59 := by kernel_rfl
theorem fn60_ok : Tryz.prog.funcs[60]? = some Tryz.f60 := by kernel_rfl
theorem fn61_ok : Tryz.prog.funcs[61]? = some Tryz.f61 := by kernel_rfl
theorem fn62_ok : Tryz.prog.funcs[62]? = some Tryz.f62 := by kernel_rfl
theorem fn63_ok : Tryz.prog.funcs[63]? = some Tryz.f63 := by kernel_rfl
theorem fn64_ok : Tryz.prog.funcs[64]? = some Tryz.f64 := by kernel_rfl
theorem fn65_ok : Tryz.prog.funcs[65]? = some Tryz.f65 := by kernel_rfl
theorem fn66_ok : Tryz.prog.funcs[66]? = some Tryz.f66 := by kernel_rfl
theorem fn67_ok : Tryz.prog.funcs[67]? = some Tryz.f67 := by kernel_rfl
theorem fn68_ok : Tryz.prog.funcs[68]? = some Tryz.f68 := by kernel_rfl
theorem fn69_ok : Tryz.prog.funcs[69]? = some Tryz.f69 := by kernel_rfl
theorem fn70_ok : Tryz.prog.funcs[70]? = some Tryz.f70 := by kernel_rfl
theorem fn71_ok : Tryz.prog.funcs[71]? = some Tryz.f71 := by kernel_rfl
theorem fn72_ok : Tryz.prog.funcs[72]? = some Tryz.f72 := by kernel_rfl
theorem fn73_ok : Tryz.prog.funcs[73]? = some Tryz.f73 := by kernel_rfl
theorem fn74_ok : Tryz.prog.funcs[74]? = some Tryz.f74 := by kernel_rfl
theorem fn75_ok : Tryz.prog.funcs[75]? = some Tryz.f75 := by kernel_rfl
theorem fn76_ok : Tryz.prog.funcs[76]? = some Tryz.f76 := by kernel_rfl
theorem fn77_ok : Tryz.prog.funcs[77]? = some Tryz.f77 := by kernel_rfl
theorem fn78_ok : Tryz.prog.funcs[78]? = some Tryz.f78 := by kernel_rfl
theorem fn79_ok : Tryz.prog.funcs[79]? = some Tryz.f79 := by kernel_rfl
theorem fn80_ok : Tryz.prog.funcs[80]? = some Tryz.f80 := by kernel_rfl
theorem fn81_ok : Tryz.prog.funcs[81]? = some Tryz.f81 := by kernel_rfl
theorem fn82_ok : Tryz.prog.funcs[82]? = some Tryz.f82 := by kernel_rfl
theorem fn83_ok : Tryz.prog.funcs[83]? = some Tryz.f83 := by kernel_rfl
theorem fn84_ok : Tryz.prog.funcs[84]? = some Tryz.f84 := by kernel_rfl
theorem fn85_ok : Tryz.prog.funcs[85]? = some Tryz.f85 := by kernel_rfl
theorem fn86_ok : Tryz.prog.funcs[86]? = some Tryz.f86 := by kernel_rfl
theorem fn87_ok : Tryz.prog.funcs[87]? = some Tryz.f87 := by kernel_rfl
theorem fn88_ok : Tryz.prog.funcs[88]? = some Tryz.f88 := by kernel_rfl
theorem fn89_ok : Tryz.prog.funcs[89]? = some Tryz.f89 := by kernel_rfl
theorem fn90_ok : Tryz.prog.funcs[90]? = some Tryz.f90 := by kernel_rfl
theorem fn91_ok : Tryz.prog.funcs[91]? = some Tryz.f91 := by kernel_rfl
theorem fn92_ok : Tryz.prog.funcs[92]? = some Tryz.f92 := by kernel_rfl
theorem fn93_ok : Tryz.prog.funcs[93]? = some Tryz.f93 := by kernel_rfl
theorem fn94_ok : Tryz.prog.funcs[94]? = some Tryz.f94 := by kernel_rfl
theorem fn95_ok : Tryz.prog.funcs[95]? = some Tryz.f95 := by kernel_rfl
theorem fn96_ok : Tryz.prog.funcs[96]? = some Tryz.f96 := by kernel_rfl
theorem fn97_ok : Tryz.prog.funcs[97]? = some Tryz.f97 := by kernel_rfl
theorem fn98_ok : Tryz.prog.funcs[98]? = some Tryz.f98 := by kernel_rfl
theorem fn99_ok : Tryz.prog.funcs[99]? = some Tryz.f99 := by kernel_rfl
theorem fn100_ok : Tryz.prog.funcs[100]? = some Tryz.f100 := by kernel_rfl
theorem fn101_ok : Tryz.prog.funcs[101]? = some Tryz.f101 := by kernel_rfl
theorem fn102_ok : Tryz.prog.funcs[102]? = some Tryz.f102 := by kernel_rfl
theorem fn103_ok : Tryz.prog.funcs[103]? = some Tryz.f103 := by kernel_rfl
theorem fn104_ok : Tryz.prog.funcs[104]? = some Tryz.f104 := by kernel_rfl
theorem fn105_ok : Tryz.prog.funcs[105]? = some Tryz.f105 := by kernel_rfl
theorem fn106_ok : Tryz.prog.funcs[106]? = some Tryz.f106 := by kernel_rfl
theorem fn107_ok : Tryz.prog.funcs[107]? = some Tryz.f107 := by kernel_rfl
theorem fn108_ok : Tryz.prog.funcs[108]? = some Tryz.f108 := by kernel_rfl
theorem fn109_ok : Tryz.prog.funcs[109]? = some Tryz.f109 := by kernel_rfl
theorem fn110_ok : Tryz.prog.funcs[110]? = some Tryz.f110 := by kernel_rfl
theorem fn111_ok : Tryz.prog.funcs[111]? = some Tryz.f111 := by kernel_rfl
theorem fn112_ok : Tryz.prog.funcs[112]? = some Tryz.f112 := by kernel_rfl
theorem fn113_ok : Tryz.prog.funcs[113]? = some Tryz.f113 := by kernel_rfl
theorem fn114_ok : Tryz.prog.funcs[114]? = some Tryz.f114 := by kernel_rfl
theorem fn115_ok : Tryz.prog.funcs[115]? = some Tryz.f115 := by kernel_rfl
theorem fn116_ok : Tryz.prog.funcs[116]? = some Tryz.f116 := by kernel_rfl
theorem fn117_ok : Tryz.prog.funcs[117]? = some Tryz.f117 := by kernel_rfl
theorem fn118_ok : Tryz.prog.funcs[118]? = some Tryz.f118 := by kernel_rfl
theorem fn119_ok : Tryz.prog.funcs[119]? = some Tryz.f119 := by kernel_rfl
theorem fn120_ok : Tryz.prog.funcs[120]? = some Tryz.f120 := by kernel_rfl
theorem fn121_ok : Tryz.prog.funcs[121]? = some Tryz.f121 := by kernel_rfl
theorem fn122_ok : Tryz.prog.funcs[122]? = some Tryz.f122 := by kernel_rfl
theorem fn123_ok : Tryz.prog.funcs[123]? = some Tryz.f123 := by kernel_rfl
theorem fn124_ok : Tryz.prog.funcs[124]? = some Tryz.f124 := by kernel_rfl
theorem fn125_ok : Tryz.prog.funcs[125]? = some Tryz.f125 := by kernel_rfl
theorem fn126_ok : Tryz.prog.funcs[126]? = some Tryz.f126 := by kernel_rfl
theorem fn127_ok : Tryz.prog.funcs[127]? = some Tryz.f127 := by kernel_rfl
theorem fn128_ok : Tryz.prog.funcs[128]? = some Tryz.f128 := by kernel_rfl
theorem fn129_ok : Tryz.prog.funcs[129]? = some Tryz.f129 := by kernel_rfl
theorem fn130_ok : Tryz.prog.funcs[130]? = some Tryz.f130 := by kernel_rfl
theorem fn131_ok : Tryz.prog.funcs[131]? = some Tryz.f131 := by kernel_rfl
theorem fn132_ok : Tryz.prog.funcs[132]? = some Tryz.f132 := by kernel_rfl
theorem fn133_ok : Tryz.prog.funcs[133]? = some Tryz.f133 := by kernel_rfl
theorem fn134_ok : Tryz.prog.funcs[134]? = some Tryz.f134 := by kernel_rfl
theorem fn135_ok : Tryz.prog.funcs[135]? = some Tryz.f135 := by kernel_rfl
theorem fn136_ok : Tryz.prog.funcs[136]? = some Tryz.f136 := by kernel_rfl
theorem fn137_ok : Tryz.prog.funcs[137]? = some Tryz.f137 := by kernel_rfl
theorem fn138_ok : Tryz.prog.funcs[138]? = some Tryz.f138 := by kernel_rfl
theorem fn139_ok : Tryz.prog.funcs[139]? = some Tryz.f139 := by kernel_rfl
theorem fn140_ok : Tryz.prog.funcs[140]? = some Tryz.f140 := by kernel_rfl
theorem fn141_ok : Tryz.prog.funcs[141]? = some Tryz.f141 := by kernel_rfl
theorem fn142_ok : Tryz.prog.funcs[142]? = some Tryz.f142 := by kernel_rfl
theorem fn143_ok : Tryz.prog.funcs[143]? = some Tryz.f143 := by kernel_rfl
theorem fn144_ok : Tryz.prog.funcs[144]? = some Tryz.f144 := by kernel_rfl
theorem fn145_ok : Tryz.prog.funcs[145]? = some Tryz.f145 := by kernel_rfl
theorem fn146_ok : Tryz.prog.funcs[146]? = some Tryz.f146 := by kernel_rfl
theorem fn147_ok : Tryz.prog.funcs[147]? = some Tryz.f147 := by kernel_rfl
theorem fn148_ok : Tryz.prog.funcs[148]? = some Tryz.f148 := by kernel_rfl
theorem fn149_ok : Tryz.prog.funcs[149]? = some Tryz.f149 := by kernel_rfl
theorem fn150_ok : Tryz.prog.funcs[150]? = some Tryz.f150 := by kernel_rfl
theorem fn151_ok : Tryz.prog.funcs[151]? = some Tryz.f151 := by kernel_rfl
theorem fn152_ok : Tryz.prog.funcs[152]? = some Tryz.f152 := by kernel_rfl
theorem fn153_ok : Tryz.prog.funcs[153]? = some Tryz.f153 := by kernel_rfl
theorem fn154_ok : Tryz.prog.funcs[154]? = some Tryz.f154 := by kernel_rfl
theorem fn155_ok : Tryz.prog.funcs[155]? = some Tryz.f155 := by kernel_rfl
theorem fn156_ok : Tryz.prog.funcs[156]? = some Tryz.f156 := by kernel_rfl
theorem fn157_ok : Tryz.prog.funcs[157]? = some Tryz.f157 := by kernel_rfl
theorem fn158_ok : Tryz.prog.funcs[158]? = some Tryz.f158 := by kernel_rfl
theorem fn159_ok : Tryz.prog.funcs[159]? = some Tryz.f159 := by kernel_rfl
theorem fn160_ok : Tryz.prog.funcs[160]? = some Tryz.f160 := by kernel_rfl
theorem fn161_ok : Tryz.prog.funcs[161]? = some Tryz.f161 := by kernel_rfl
theorem fn162_ok : Tryz.prog.funcs[162]? = some Tryz.f162 := by kernel_rfl
theorem fn163_ok : Tryz.prog.funcs[163]? = some Tryz.f163 := by kernel_rfl
theorem fn164_ok : Tryz.prog.funcs[164]? = some Tryz.f164 := by kernel_rfl
theorem fn165_ok : Tryz.prog.funcs[165]? = some Tryz.f165 := by kernel_rfl
theorem fn166_ok : Tryz.prog.funcs[166]? = some Tryz.f166 := by kernel_rfl
theorem fn167_ok : Tryz.prog.funcs[167]? = some Tryz.f167 := by kernel_rfl
theorem fn168_ok : Tryz.prog.funcs[168]? = some Tryz.f168 := by kernel_rfl
theorem fn169_ok : Tryz.prog.funcs[169]? = some Tryz.f169 := by kernel_rfl
theorem fn170_ok : Tryz.prog.funcs[170]? = some Tryz.f170 := by kernel_rfl
theorem fn171_ok : Tryz.prog.funcs[171]? = some Tryz.f171 := by kernel_rfl
theorem fn172_ok : Tryz.prog.funcs[172]? = some Tryz.f172 := by kernel_rfl
theorem fn173_ok : Tryz.prog.funcs[173]? = some Tryz.f173 := by kernel_rfl
theorem fn174_ok : Tryz.prog.funcs[174]? = some Tryz.f174 := by kernel_rfl
theorem fn175_ok : Tryz.prog.funcs[175]? = some Tryz.f175 := by kernel_rfl
theorem fn176_ok : Tryz.prog.funcs[176]? = some Tryz.f176 := by kernel_rfl
theorem fn177_ok : Tryz.prog.funcs[177]? = some Tryz.f177 := by kernel_rfl
theorem fn178_ok : Tryz.prog.funcs[178]? = some Tryz.f178 := by kernel_rfl
theorem fn179_ok : Tryz.prog.funcs[179]? = some Tryz.f179 := by kernel_rfl
theorem fn180_ok : Tryz.prog.funcs[180]? = some Tryz.f180 := by kernel_rfl
theorem fn181_ok : Tryz.prog.funcs[181]? = some Tryz.f181 := by kernel_rfl
theorem fn182_ok : Tryz.prog.funcs[182]? = some Tryz.f182 := by kernel_rfl
theorem fn183_ok : Tryz.prog.funcs[183]? = some Tryz.f183 := by kernel_rfl
theorem fn184_ok : Tryz.prog.funcs[184]? = some Tryz.f184 := by kernel_rfl
theorem fn185_ok : Tryz.prog.funcs[185]? = some Tryz.f185 := by kernel_rfl
theorem fn186_ok : Tryz.prog.funcs[186]? = some Tryz.f186 := by kernel_rfl
theorem fn187_ok : Tryz.prog.funcs[187]? = some Tryz.f187 := by kernel_rfl
theorem fn188_ok : Tryz.prog.funcs[188]? = some Tryz.f188 := by kernel_rfl
theorem fn189_ok : Tryz.prog.funcs[189]? = some Tryz.f189 := by kernel_rfl
theorem fn190_ok : Tryz.prog.funcs[190]? = some Tryz.f190 := by kernel_rfl
theorem fn191_ok : Tryz.prog.funcs[191]? = some Tryz.f191 := by kernel_rfl
theorem fn192_ok : Tryz.prog.funcs[192]? = some Tryz.f192 := by kernel_rfl
theorem fn193_ok : Tryz.prog.funcs[193]? = some Tryz.f193 := by kernel_rfl
theorem fn194_ok : Tryz.prog.funcs[194]? = some Tryz.f194 := by kernel_rfl
theorem fn195_ok : Tryz.prog.funcs[195]? = some Tryz.f195 := by kernel_rfl
theorem fn196_ok : Tryz.prog.funcs[196]? = some Tryz.f196 := by kernel_rfl
theorem fn197_ok : Tryz.prog.funcs[197]? = some Tryz.f197 := by kernel_rfl
theorem fn198_ok : Tryz.prog.funcs[198]? = some Tryz.f198 := by kernel_rfl
theorem fn199_ok : Tryz.prog.funcs[199]? = some Tryz.f199 := by kernel_rfl
theorem fn200_ok : Tryz.prog.funcs[200]? = some Tryz.f200 := by kernel_rfl
theorem fn201_ok : Tryz.prog.funcs[201]? = some Tryz.f201 := by kernel_rfl
theorem fn202_ok : Tryz.prog.funcs[202]? = some Tryz.f202 := by kernel_rfl
theorem fn203_ok : Tryz.prog.funcs[203]? = some Tryz.f203 := by kernel_rfl
theorem fn204_ok : Tryz.prog.funcs[204]? = some Tryz.f204 := by kernel_rfl
theorem fn205_ok : Tryz.prog.funcs[205]? = some Tryz.f205 := by kernel_rfl
theorem fn206_ok : Tryz.prog.funcs[206]? = some Tryz.f206 := by kernel_rfl
theorem fn207_ok : Tryz.prog.funcs[207]? = some Tryz.f207 := by kernel_rfl
theorem fn208_ok : Tryz.prog.funcs[208]? = some Tryz.f208 := by kernel_rfl
theorem fn209_ok : Tryz.prog.funcs[209]? = some Tryz.f209 := by kernel_rfl
theorem fn210_ok : Tryz.prog.funcs[210]? = some Tryz.f210 := by kernel_rfl
theorem fn211_ok : Tryz.prog.funcs[211]? = some Tryz.f211 := by kernel_rfl
theorem fn212_ok : Tryz.prog.funcs[212]? = some Tryz.f212 := by kernel_rfl
theorem fn213_ok : Tryz.prog.funcs[213]? = some Tryz.f213 := by kernel_rfl
theorem fn214_ok : Tryz.prog.funcs[214]? = some Tryz.f214 := by kernel_rfl
theorem fn215_ok : Tryz.prog.funcs[215]? = some Tryz.f215 := by kernel_rfl
theorem fn216_ok : Tryz.prog.funcs[216]? = some Tryz.f216 := by kernel_rfl
theorem fn217_ok : Tryz.prog.funcs[217]? = some Tryz.f217 := by kernel_rfl
theorem fn218_ok : Tryz.prog.funcs[218]? = some Tryz.f218 := by kernel_rfl
theorem fn219_ok : Tryz.prog.funcs[219]? = some Tryz.f219 := by kernel_rfl
theorem fn220_ok : Tryz.prog.funcs[220]? = some Tryz.f220 := by kernel_rfl
theorem fn221_ok : Tryz.prog.funcs[221]? = some Tryz.f221 := by kernel_rfl
theorem fn222_ok : Tryz.prog.funcs[222]? = some Tryz.f222 := by kernel_rfl
theorem fn223_ok : Tryz.prog.funcs[223]? = some Tryz.f223 := by kernel_rfl
theorem fn224_ok : Tryz.prog.funcs[224]? = some Tryz.f224 := by kernel_rfl
theorem fn225_ok : Tryz.prog.funcs[225]? = some Tryz.f225 := by kernel_rfl
theorem fn226_ok : Tryz.prog.funcs[226]? = some Tryz.f226 := by kernel_rfl
theorem fn227_ok : Tryz.prog.funcs[227]? = some Tryz.f227 := by kernel_rfl
theorem fn228_ok : Tryz.prog.funcs[228]? = some Tryz.f228 := by kernel_rfl
theorem fn229_ok : Tryz.prog.funcs[229]? = some Tryz.f229 := by kernel_rfl
theorem fn230_ok : Tryz.prog.funcs[230]? = some Tryz.f230 := by kernel_rfl
theorem fn231_ok : Tryz.prog.funcs[231]? = some Tryz.f231 := by kernel_rfl
theorem fn232_ok : Tryz.prog.funcs[232]? = some Tryz.f232 := by kernel_rfl
theorem fn233_ok : Tryz.prog.funcs[233]? = some Tryz.f233 := by kernel_rfl
theorem fn234_ok : Tryz.prog.funcs[234]? = some Tryz.f234 := by kernel_rfl
theorem fn235_ok : Tryz.prog.funcs[235]? = some Tryz.f235 := by kernel_rfl
theorem fn236_ok : Tryz.prog.funcs[236]? = some Tryz.f236 := by kernel_rfl
theorem fn237_ok : Tryz.prog.funcs[237]? = some Tryz.f237 := by kernel_rfl
theorem fn238_ok : Tryz.prog.funcs[238]? = some Tryz.f238 := by kernel_rfl
theorem fn239_ok : Tryz.prog.funcs[239]? = some Tryz.f239 := by kernel_rfl
theorem fn240_ok : Tryz.prog.funcs[240]? = some Tryz.f240 := by kernel_rfl
theorem fn241_ok : Tryz.prog.funcs[241]? = some Tryz.f241 := by kernel_rfl
theorem fn242_ok : Tryz.prog.funcs[242]? = some Tryz.f242 := by kernel_rfl
theorem fn243_ok : Tryz.prog.funcs[243]? = some Tryz.f243 := by kernel_rfl
theorem fn244_ok : Tryz.prog.funcs[244]? = some Tryz.f244 := by kernel_rfl
theorem fn245_ok : Tryz.prog.funcs[245]? = some Tryz.f245 := by kernel_rfl
theorem fn246_ok : Tryz.prog.funcs[246]? = some Tryz.f246 := by kernel_rfl
theorem fn247_ok : Tryz.prog.funcs[247]? = some Tryz.f247 := by kernel_rfl
theorem fn248_ok : Tryz.prog.funcs[248]? = some Tryz.f248 := by kernel_rfl
theorem fn249_ok : Tryz.prog.funcs[249]? = some Tryz.f249 := by kernel_rfl
theorem fn250_ok : Tryz.prog.funcs[250]? = some Tryz.f250 := by kernel_rfl
theorem fn251_ok : Tryz.prog.funcs[251]? = some Tryz.f251 := by kernel_rfl
theorem fn252_ok : Tryz.prog.funcs[252]? = some Tryz.f252 := by kernel_rfl
theorem fn253_ok : Tryz.prog.funcs[253]? = some Tryz.f253 := by kernel_rfl
theorem fn254_ok : Tryz.prog.funcs[254]? = some Tryz.f254 := by kernel_rfl
theorem fn255_ok : Tryz.prog.funcs[255]? = some Tryz.f255 := by kernel_rfl
theorem fn256_ok : Tryz.prog.funcs[256]? = some Tryz.f256 := by kernel_rfl
theorem fn257_ok : Tryz.prog.funcs[257]? = some Tryz.f257 := by kernel_rfl
theorem fn258_ok : Tryz.prog.funcs[258]? = some Tryz.f258 := by kernel_rfl
theorem fn259_ok : Tryz.prog.funcs[259]? = some Tryz.f259 := by kernel_rfl
theorem fn260_ok : Tryz.prog.funcs[260]? = some Tryz.f260 := by kernel_rfl
theorem fn261_ok : Tryz.prog.funcs[261]? = some Tryz.f261 := by kernel_rfl
theorem fn262_ok : Tryz.prog.funcs[262]? = some Tryz.f262 := by kernel_rfl
theorem fn263_ok : Tryz.prog.funcs[263]? = some Tryz.f263 := by kernel_rfl
theorem fn264_ok : Tryz.prog.funcs[264]? = some Tryz.f264 := by kernel_rfl
theorem fn265_ok : Tryz.prog.funcs[265]? = some Tryz.f265 := by kernel_rfl
theorem fn266_ok : Tryz.prog.funcs[266]? = some Tryz.f266 := by kernel_rfl
theorem fn267_ok : Tryz.prog.funcs[267]? = some Tryz.f267 := by kernel_rfl
theorem fn268_ok : Tryz.prog.funcs[268]? = some Tryz.f268 := by kernel_rfl
theorem fn269_ok : Tryz.prog.funcs[269]? = some Tryz.f269 := by kernel_rfl
theorem fn270_ok : Tryz.prog.funcs[270]? = some Tryz.f270 := by kernel_rfl
theorem fn271_ok : Tryz.prog.funcs[271]? = some Tryz.f271 := by kernel_rfl
theorem fn272_ok : Tryz.prog.funcs[272]? = some Tryz.f272 := by kernel_rfl
theorem fn273_ok : Tryz.prog.funcs[273]? = some Tryz.f273 := by kernel_rfl
theorem fn274_ok : Tryz.prog.funcs[274]? = some Tryz.f274 := by kernel_rfl
theorem fn275_ok : Tryz.prog.funcs[275]? = some Tryz.f275 := by kernel_rfl
theorem fn276_ok : Tryz.prog.funcs[276]? = some Tryz.f276 := by kernel_rfl
theorem fn277_ok : Tryz.prog.funcs[277]? = some Tryz.f277 := by kernel_rfl
theorem fn278_ok : Tryz.prog.funcs[278]? = some Tryz.f278 := by kernel_rfl
theorem fn279_ok : Tryz.prog.funcs[279]? = some Tryz.f279 := by kernel_rfl
theorem fn280_ok : Tryz.prog.funcs[280]? = some Tryz.f280 := by kernel_rfl
theorem fn281_ok : Tryz.prog.funcs[281]? = some Tryz.f281 := by kernel_rfl
theorem fn282_ok : Tryz.prog.funcs[282]? = some Tryz.f282 := by kernel_rfl
theorem fn283_ok : Tryz.prog.funcs[283]? = some Tryz.f283 := by kernel_rfl
theorem fn284_ok : Tryz.prog.funcs[284]? = some Tryz.f284 := by kernel_rfl
theorem fn285_ok : Tryz.prog.funcs[285]? = some Tryz.f285 := by kernel_rfl
theorem fn286_ok : Tryz.prog.funcs[286]? = some Tryz.f286 := by kernel_rfl
theorem fn287_ok : Tryz.prog.funcs[287]? = some Tryz.f287 := by kernel_rfl
theorem fn288_ok : Tryz.prog.funcs[288]? = some Tryz.f288 := by kernel_rfl
theorem fn289_ok : Tryz.prog.funcs[289]? = some Tryz.f289 := by kernel_rfl
theorem fn290_ok : Tryz.prog.funcs[290]? = some Tryz.f290 := by kernel_rfl
theorem fn291_ok : Tryz.prog.funcs[291]? = some Tryz.f291 := by kernel_rfl
theorem fn292_ok : Tryz.prog.funcs[292]? = some Tryz.f292 := by kernel_rfl
theorem fn293_ok : Tryz.prog.funcs[293]? = some Tryz.f293 := by kernel_rfl
theorem fn294_ok : Tryz.prog.funcs[294]? = some Tryz.f294 := by kernel_rfl
theorem fn295_ok : Tryz.prog.funcs[295]? = some Tryz.f295 := by kernel_rfl
theorem fn296_ok : Tryz.prog.funcs[296]? = some Tryz.f296 := by kernel_rfl
theorem fn297_ok : Tryz.prog.funcs[297]? = some Tryz.f297 := by kernel_rfl
theorem fn298_ok : Tryz.prog.funcs[298]? = some Tryz.f298 := by kernel_rfl
theorem fn299_ok : Tryz.prog.funcs[299]? = some Tryz.f299 := by kernel_rfl
theorem fn300_ok : Tryz.prog.funcs[300]? = some Tryz.f300 := by kernel_rfl
theorem fn301_ok : Tryz.prog.funcs[301]? = some Tryz.f301 := by kernel_rfl
theorem fn302_ok : Tryz.prog.funcs[302]? = some Tryz.f302 := by kernel_rfl
theorem fn303_ok : Tryz.prog.funcs[303]? = some Tryz.f303 := by kernel_rfl
theorem fn304_ok : Tryz.prog.funcs[304]? = some Tryz.f304 := by kernel_rfl
theorem fn305_ok : Tryz.prog.funcs[305]? = some Tryz.f305 := by kernel_rfl
theorem fn306_ok : Tryz.prog.funcs[306]? = some Tryz.f306 := by kernel_rfl
theorem fn307_ok : Tryz.prog.funcs[307]? = some Tryz.f307 := by kernel_rfl
theorem fn308_ok : Tryz.prog.funcs[308]? = some Tryz.f308 := by kernel_rfl
theorem fn309_ok : Tryz.prog.funcs[309]? = some Tryz.f309 := by kernel_rfl
theorem fn310_ok : Tryz.prog.funcs[310]? = some Tryz.f310 := by kernel_rfl
theorem fn311_ok : Tryz.prog.funcs[311]? = some Tryz.f311 := by kernel_rfl
theorem fn312_ok : Tryz.prog.funcs[312]? = some Tryz.f312 := by kernel_rfl
theorem fn313_ok : Tryz.prog.funcs[313]? = some Tryz.f313 := by kernel_rfl
theorem fn314_ok : Tryz.prog.funcs[314]? = some Tryz.f314 := by kernel_rfl
theorem fn315_ok : Tryz.prog.funcs[315]? = some Tryz.f315 := by kernel_rfl
theorem fn316_ok : Tryz.prog.funcs[316]? = some Tryz.f316 := by kernel_rfl
theorem fn317_ok : Tryz.prog.funcs[317]? = some Tryz.f317 := by kernel_rfl
theorem fn318_ok : Tryz.prog.funcs[318]? = some Tryz.f318 := by kernel_rfl
theorem fn319_ok : Tryz.prog.funcs[319]? = some Tryz.f319 := by kernel_rfl
theorem fn320_ok : Tryz.prog.funcs[320]? = some Tryz.f320 := by kernel_rfl
theorem fn321_ok : Tryz.prog.funcs[321]? = some Tryz.f321 := by kernel_rfl
theorem fn322_ok : Tryz.prog.funcs[322]? = some Tryz.f322 := by kernel_rfl
theorem fn323_ok : Tryz.prog.funcs[323]? = some Tryz.f323 := by kernel_rfl
theorem fn324_ok : Tryz.prog.funcs[324]? = some Tryz.f324 := by kernel_rfl
theorem fn325_ok : Tryz.prog.funcs[325]? = some Tryz.f325 := by kernel_rfl
theorem fn326_ok : Tryz.prog.funcs[326]? = some Tryz.f326 := by kernel_rfl
theorem fn327_ok : Tryz.prog.funcs[327]? = some Tryz.f327 := by kernel_rfl
theorem fn328_ok : Tryz.prog.funcs[328]? = some Tryz.f328 := by kernel_rfl
theorem fn329_ok : Tryz.prog.funcs[329]? = some Tryz.f329 := by kernel_rfl
theorem fn330_ok : Tryz.prog.funcs[330]? = some Tryz.f330 := by kernel_rfl
theorem fn331_ok : Tryz.prog.funcs[331]? = some Tryz.f331 := by kernel_rfl
theorem fn332_ok : Tryz.prog.funcs[332]? = some Tryz.f332 := by kernel_rfl
theorem fn333_ok : Tryz.prog.funcs[333]? = some Tryz.f333 := by kernel_rfl
theorem fn334_ok : Tryz.prog.funcs[334]? = some Tryz.f334 := by kernel_rfl
theorem fn335_ok : Tryz.prog.funcs[335]? = some Tryz.f335 := by kernel_rfl
theorem fn336_ok : Tryz.prog.funcs[336]? = some Tryz.f336 := by kernel_rfl
theorem fn337_ok : Tryz.prog.funcs[337]? = some Tryz.f337 := by kernel_rfl
theorem fn338_ok : Tryz.prog.funcs[338]? = some Tryz.f338 := by kernel_rfl
theorem fn339_ok : Tryz.prog.funcs[339]? = some Tryz.f339 := by kernel_rfl
theorem fn340_ok : Tryz.prog.funcs[340]? = some Tryz.f340 := by kernel_rfl
theorem fn341_ok : Tryz.prog.funcs[341]? = some Tryz.f341 := by kernel_rfl
theorem fn342_ok : Tryz.prog.funcs[342]? = some Tryz.f342 := by kernel_rfl
theorem fn343_ok : Tryz.prog.funcs[343]? = some Tryz.f343 := by kernel_rfl
theorem fn344_ok : Tryz.prog.funcs[344]? = some Tryz.f344 := by kernel_rfl
theorem fn345_ok : Tryz.prog.funcs[345]? = some Tryz.f345 := by kernel_rfl
theorem fn346_ok : Tryz.prog.funcs[346]? = some Tryz.f346 := by kernel_rfl
theorem fn347_ok : Tryz.prog.funcs[347]? = some Tryz.f347 := by kernel_rfl
theorem fn348_ok : Tryz.prog.funcs[348]? = some Tryz.f348 := by kernel_rfl
theorem fn349_ok : Tryz.prog.funcs[349]? = some Tryz.f349 := by kernel_rfl
theorem fn350_ok : Tryz.prog.funcs[350]? = some Tryz.f350 := by kernel_rfl
theorem fn351_ok : Tryz.prog.funcs[351]? = some Tryz.f351 := by kernel_rfl
theorem fn352_ok : Tryz.prog.funcs[352]? = some Tryz.f352 := by kernel_rfl
noncomputable def fnN334 : Tr Func := .node .leaf 0 Tryz.f0 .leaf
theorem fnN334_ok : fnN334.All FnP := ⟨trivial, fn0_ok, trivial⟩
noncomputable def fnN335 : Tr Func := .node fnN334 1 Tryz.f1 .leaf
theorem fnN335_ok : fnN335.All FnP := ⟨fnN334_ok, fn1_ok, trivial⟩
noncomputable def fnN336 : Tr Func := .node .leaf 3 Tryz.f3 .leaf
theorem fnN336_ok : fnN336.All FnP := ⟨trivial, fn3_ok, trivial⟩
noncomputable def fnN337 : Tr Func := .node fnN336 4 Tryz.f4 .leaf
theorem fnN337_ok : fnN337.All FnP := ⟨fnN336_ok, fn4_ok, trivial⟩
noncomputable def fnN338 : Tr Func := .node fnN335 2 Tryz.f2 fnN337
theorem fnN338_ok : fnN338.All FnP := ⟨fnN335_ok, fn2_ok, fnN337_ok⟩
noncomputable def fnN339 : Tr Func := .node .leaf 6 Tryz.f6 .leaf
theorem fnN339_ok : fnN339.All FnP := ⟨trivial, fn6_ok, trivial⟩
noncomputable def fnN340 : Tr Func := .node fnN339 7 Tryz.f7 .leaf
theorem fnN340_ok : fnN340.All FnP := ⟨fnN339_ok, fn7_ok, trivial⟩
noncomputable def fnN341 : Tr Func := .node .leaf 9 Tryz.f9 .leaf
theorem fnN341_ok : fnN341.All FnP := ⟨trivial, fn9_ok, trivial⟩
noncomputable def fnN342 : Tr Func := .node fnN341 10 Tryz.f10 .leaf
theorem fnN342_ok : fnN342.All FnP := ⟨fnN341_ok, fn10_ok, trivial⟩
noncomputable def fnN343 : Tr Func := .node fnN340 8 Tryz.f8 fnN342
theorem fnN343_ok : fnN343.All FnP := ⟨fnN340_ok, fn8_ok, fnN342_ok⟩
noncomputable def fnN344 : Tr Func := .node fnN338 5 Tryz.f5 fnN343
theorem fnN344_ok : fnN344.All FnP := ⟨fnN338_ok, fn5_ok, fnN343_ok⟩
noncomputable def fnN345 : Tr Func := .node .leaf 12 Tryz.f12 .leaf
theorem fnN345_ok : fnN345.All FnP := ⟨trivial, fn12_ok, trivial⟩
noncomputable def fnN346 : Tr Func := .node fnN345 13 Tryz.f13 .leaf
theorem fnN346_ok : fnN346.All FnP := ⟨fnN345_ok, fn13_ok, trivial⟩
noncomputable def fnN347 : Tr Func := .node .leaf 15 Tryz.f15 .leaf
theorem fnN347_ok : fnN347.All FnP := ⟨trivial, fn15_ok, trivial⟩
noncomputable def fnN348 : Tr Func := .node fnN347 16 Tryz.f16 .leaf
theorem fnN348_ok : fnN348.All FnP := ⟨fnN347_ok, fn16_ok, trivial⟩
noncomputable def fnN349 : Tr Func := .node fnN346 14 Tryz.f14 fnN348
theorem fnN349_ok : fnN349.All FnP := ⟨fnN346_ok, fn14_ok, fnN348_ok⟩
noncomputable def fnN350 : Tr Func := .node .leaf 18 Tryz.f18 .leaf
theorem fnN350_ok : fnN350.All FnP := ⟨trivial, fn18_ok, trivial⟩
noncomputable def fnN351 : Tr Func := .node fnN350 19 Tryz.f19 .leaf
theorem fnN351_ok : fnN351.All FnP := ⟨fnN350_ok, fn19_ok, trivial⟩
noncomputable def fnN352 : Tr Func := .node .leaf 21 Tryz.f21 .leaf
theorem fnN352_ok : fnN352.All FnP := ⟨trivial, fn21_ok, trivial⟩
noncomputable def fnN353 : Tr Func := .node fnN351 20 Tryz.f20 fnN352
theorem fnN353_ok : fnN353.All FnP := ⟨fnN351_ok, fn20_ok, fnN352_ok⟩
noncomputable def fnN354 : Tr Func := .node fnN349 17 Tryz.f17 fnN353
theorem fnN354_ok : fnN354.All FnP := ⟨fnN349_ok, fn17_ok, fnN353_ok⟩
noncomputable def fnN355 : Tr Func := .node fnN344 11 Tryz.f11 fnN354
theorem fnN355_ok : fnN355.All FnP := ⟨fnN344_ok, fn11_ok, fnN354_ok⟩
noncomputable def fnN356 : Tr Func := .node .leaf 23 Tryz.f23 .leaf
theorem fnN356_ok : fnN356.All FnP := ⟨trivial, fn23_ok, trivial⟩
noncomputable def fnN357 : Tr Func := .node fnN356 24 Tryz.f24 .leaf
theorem fnN357_ok : fnN357.All FnP := ⟨fnN356_ok, fn24_ok, trivial⟩
noncomputable def fnN358 : Tr Func := .node .leaf 26 Tryz.f26 .leaf
theorem fnN358_ok : fnN358.All FnP := ⟨trivial, fn26_ok, trivial⟩
noncomputable def fnN359 : Tr Func := .node fnN358 27 Tryz.f27 .leaf
theorem fnN359_ok : fnN359.All FnP := ⟨fnN358_ok, fn27_ok, trivial⟩
noncomputable def fnN360 : Tr Func := .node fnN357 25 Tryz.f25 fnN359
theorem fnN360_ok : fnN360.All FnP := ⟨fnN357_ok, fn25_ok, fnN359_ok⟩
noncomputable def fnN361 : Tr Func := .node .leaf 29 Tryz.f29 .leaf
theorem fnN361_ok : fnN361.All FnP := ⟨trivial, fn29_ok, trivial⟩
noncomputable def fnN362 : Tr Func := .node fnN361 30 Tryz.f30 .leaf
theorem fnN362_ok : fnN362.All FnP := ⟨fnN361_ok, fn30_ok, trivial⟩
noncomputable def fnN363 : Tr Func := .node .leaf 32 Tryz.f32 .leaf
theorem fnN363_ok : fnN363.All FnP := ⟨trivial, fn32_ok, trivial⟩
noncomputable def fnN364 : Tr Func := .node fnN362 31 Tryz.f31 fnN363
theorem fnN364_ok : fnN364.All FnP := ⟨fnN362_ok, fn31_ok, fnN363_ok⟩
noncomputable def fnN365 : Tr Func := .node fnN360 28 Tryz.f28 fnN364
theorem fnN365_ok : fnN365.All FnP := ⟨fnN360_ok, fn28_ok, fnN364_ok⟩
noncomputable def fnN366 : Tr Func := .node .leaf 34 Tryz.f34 .leaf
theorem fnN366_ok : fnN366.All FnP := ⟨trivial, fn34_ok, trivial⟩
noncomputable def fnN367 : Tr Func := .node fnN366 35 Tryz.f35 .leaf
theorem fnN367_ok : fnN367.All FnP := ⟨fnN366_ok, fn35_ok, trivial⟩
noncomputable def fnN368 : Tr Func := .node .leaf 37 Tryz.f37 .leaf
theorem fnN368_ok : fnN368.All FnP := ⟨trivial, fn37_ok, trivial⟩
noncomputable def fnN369 : Tr Func := .node fnN368 38 Tryz.f38 .leaf
theorem fnN369_ok : fnN369.All FnP := ⟨fnN368_ok, fn38_ok, trivial⟩
noncomputable def fnN370 : Tr Func := .node fnN367 36 Tryz.f36 fnN369
theorem fnN370_ok : fnN370.All FnP := ⟨fnN367_ok, fn36_ok, fnN369_ok⟩
noncomputable def fnN371 : Tr Func := .node .leaf 40 Tryz.f40 .leaf
theorem fnN371_ok : fnN371.All FnP := ⟨trivial, fn40_ok, trivial⟩
noncomputable def fnN372 : Tr Func := .node fnN371 41 Tryz.f41 .leaf
theorem fnN372_ok : fnN372.All FnP := ⟨fnN371_ok, fn41_ok, trivial⟩
noncomputable def fnN373 : Tr Func := .node .leaf 43 Tryz.f43 .leaf
theorem fnN373_ok : fnN373.All FnP := ⟨trivial, fn43_ok, trivial⟩
noncomputable def fnN374 : Tr Func := .node fnN372 42 Tryz.f42 fnN373
theorem fnN374_ok : fnN374.All FnP := ⟨fnN372_ok, fn42_ok, fnN373_ok⟩
noncomputable def fnN375 : Tr Func := .node fnN370 39 Tryz.f39 fnN374
theorem fnN375_ok : fnN375.All FnP := ⟨fnN370_ok, fn39_ok, fnN374_ok⟩
noncomputable def fnN376 : Tr Func := .node fnN365 33 Tryz.f33 fnN375
theorem fnN376_ok : fnN376.All FnP := ⟨fnN365_ok, fn33_ok, fnN375_ok⟩
noncomputable def fnN377 : Tr Func := .node fnN355 22 Tryz.f22 fnN376
theorem fnN377_ok : fnN377.All FnP := ⟨fnN355_ok, fn22_ok, fnN376_ok⟩
noncomputable def fnN378 : Tr Func := .node .leaf 45 Tryz.f45 .leaf
theorem fnN378_ok : fnN378.All FnP := ⟨trivial, fn45_ok, trivial⟩
noncomputable def fnN379 : Tr Func := .node fnN378 46 Tryz.f46 .leaf
theorem fnN379_ok : fnN379.All FnP := ⟨fnN378_ok, fn46_ok, trivial⟩
noncomputable def fnN380 : Tr Func := .node .leaf 48 Tryz.f48 .leaf
theorem fnN380_ok : fnN380.All FnP := ⟨trivial, fn48_ok, trivial⟩
noncomputable def fnN381 : Tr Func := .node fnN380 49 Tryz.f49 .leaf
theorem fnN381_ok : fnN381.All FnP := ⟨fnN380_ok, fn49_ok, trivial⟩
noncomputable def fnN382 : Tr Func := .node fnN379 47 Tryz.f47 fnN381
theorem fnN382_ok : fnN382.All FnP := ⟨fnN379_ok, fn47_ok, fnN381_ok⟩
noncomputable def fnN383 : Tr Func := .node .leaf 51 Tryz.f51 .leaf
theorem fnN383_ok : fnN383.All FnP := ⟨trivial, fn51_ok, trivial⟩
noncomputable def fnN384 : Tr Func := .node fnN383 52 Tryz.f52 .leaf
theorem fnN384_ok : fnN384.All FnP := ⟨fnN383_ok, fn52_ok, trivial⟩
noncomputable def fnN385 : Tr Func := .node .leaf 54 Tryz.f54 .leaf
theorem fnN385_ok : fnN385.All FnP := ⟨trivial, fn54_ok, trivial⟩
noncomputable def fnN386 : Tr Func := .node fnN384 53 Tryz.f53 fnN385
theorem fnN386_ok : fnN386.All FnP := ⟨fnN384_ok, fn53_ok, fnN385_ok⟩
noncomputable def fnN387 : Tr Func := .node fnN382 50 Tryz.f50 fnN386
theorem fnN387_ok : fnN387.All FnP := ⟨fnN382_ok, fn50_ok, fnN386_ok⟩
noncomputable def fnN388 : Tr Func := .node .leaf 56 Tryz.f56 .leaf
theorem fnN388_ok : fnN388.All FnP := ⟨trivial, fn56_ok, trivial⟩
noncomputable def fnN389 : Tr Func := .node fnN388 57 Tryz.f57 .leaf
theorem fnN389_ok : fnN389.All FnP := ⟨fnN388_ok, fn57_ok, trivial⟩
noncomputable def fnN390 : Tr Func := .node .leaf 59 Tryz.f59 .leaf
theorem fnN390_ok : fnN390.All FnP := ⟨trivial, fn59_ok, trivial⟩
noncomputable def fnN391 : Tr Func := .node fnN390 60 Tryz.f60 .leaf
theorem fnN391_ok : fnN391.All FnP := ⟨fnN390_ok, fn60_ok, trivial⟩
noncomputable def fnN392 : Tr Func := .node fnN389 58 Tryz.f58 fnN391
theorem fnN392_ok : fnN392.All FnP := ⟨fnN389_ok, fn58_ok, fnN391_ok⟩
noncomputable def fnN393 : Tr Func := .node .leaf 62 Tryz.f62 .leaf
theorem fnN393_ok : fnN393.All FnP := ⟨trivial, fn62_ok, trivial⟩
noncomputable def fnN394 : Tr Func := .node fnN393 63 Tryz.f63 .leaf
theorem fnN394_ok : fnN394.All FnP := ⟨fnN393_ok, fn63_ok, trivial⟩
noncomputable def fnN395 : Tr Func := .node .leaf 65 Tryz.f65 .leaf
theorem fnN395_ok : fnN395.All FnP := ⟨trivial, fn65_ok, trivial⟩
noncomputable def fnN396 : Tr Func := .node fnN394 64 Tryz.f64 fnN395
theorem fnN396_ok : fnN396.All FnP := ⟨fnN394_ok, fn64_ok, fnN395_ok⟩
noncomputable def fnN397 : Tr Func := .node fnN392 61 Tryz.f61 fnN396
theorem fnN397_ok : fnN397.All FnP := ⟨fnN392_ok, fn61_ok, fnN396_ok⟩
noncomputable def fnN398 : Tr Func := .node fnN387 55 Tryz.f55 fnN397
theorem fnN398_ok : fnN398.All FnP := ⟨fnN387_ok, fn55_ok, fnN397_ok⟩
noncomputable def fnN399 : Tr Func := .node .leaf 67 Tryz.f67 .leaf
theorem fnN399_ok : fnN399.All FnP := ⟨trivial, fn67_ok, trivial⟩
noncomputable def fnN400 : Tr Func := .node fnN399 68 Tryz.f68 .leaf
theorem fnN400_ok : fnN400.All FnP := ⟨fnN399_ok, fn68_ok, trivial⟩
noncomputable def fnN401 : Tr Func := .node .leaf 70 Tryz.f70 .leaf
theorem fnN401_ok : fnN401.All FnP := ⟨trivial, fn70_ok, trivial⟩
noncomputable def fnN402 : Tr Func := .node fnN401 71 Tryz.f71 .leaf
theorem fnN402_ok : fnN402.All FnP := ⟨fnN401_ok, fn71_ok, trivial⟩
noncomputable def fnN403 : Tr Func := .node fnN400 69 Tryz.f69 fnN402
theorem fnN403_ok : fnN403.All FnP := ⟨fnN400_ok, fn69_ok, fnN402_ok⟩
noncomputable def fnN404 : Tr Func := .node .leaf 73 Tryz.f73 .leaf
theorem fnN404_ok : fnN404.All FnP := ⟨trivial, fn73_ok, trivial⟩
noncomputable def fnN405 : Tr Func := .node fnN404 74 Tryz.f74 .leaf
theorem fnN405_ok : fnN405.All FnP := ⟨fnN404_ok, fn74_ok, trivial⟩
noncomputable def fnN406 : Tr Func := .node .leaf 76 Tryz.f76 .leaf
theorem fnN406_ok : fnN406.All FnP := ⟨trivial, fn76_ok, trivial⟩
noncomputable def fnN407 : Tr Func := .node fnN405 75 Tryz.f75 fnN406
theorem fnN407_ok : fnN407.All FnP := ⟨fnN405_ok, fn75_ok, fnN406_ok⟩
noncomputable def fnN408 : Tr Func := .node fnN403 72 Tryz.f72 fnN407
theorem fnN408_ok : fnN408.All FnP := ⟨fnN403_ok, fn72_ok, fnN407_ok⟩
noncomputable def fnN409 : Tr Func := .node .leaf 78 Tryz.f78 .leaf
theorem fnN409_ok : fnN409.All FnP := ⟨trivial, fn78_ok, trivial⟩
noncomputable def fnN410 : Tr Func := .node fnN409 79 Tryz.f79 .leaf
theorem fnN410_ok : fnN410.All FnP := ⟨fnN409_ok, fn79_ok, trivial⟩
noncomputable def fnN411 : Tr Func := .node .leaf 81 Tryz.f81 .leaf
theorem fnN411_ok : fnN411.All FnP := ⟨trivial, fn81_ok, trivial⟩
noncomputable def fnN412 : Tr Func := .node fnN411 82 Tryz.f82 .leaf
theorem fnN412_ok : fnN412.All FnP := ⟨fnN411_ok, fn82_ok, trivial⟩
noncomputable def fnN413 : Tr Func := .node fnN410 80 Tryz.f80 fnN412
theorem fnN413_ok : fnN413.All FnP := ⟨fnN410_ok, fn80_ok, fnN412_ok⟩
noncomputable def fnN414 : Tr Func := .node .leaf 84 Tryz.f84 .leaf
theorem fnN414_ok : fnN414.All FnP := ⟨trivial, fn84_ok, trivial⟩
noncomputable def fnN415 : Tr Func := .node fnN414 85 Tryz.f85 .leaf
theorem fnN415_ok : fnN415.All FnP := ⟨fnN414_ok, fn85_ok, trivial⟩
noncomputable def fnN416 : Tr Func := .node .leaf 87 Tryz.f87 .leaf
theorem fnN416_ok : fnN416.All FnP := ⟨trivial, fn87_ok, trivial⟩
noncomputable def fnN417 : Tr Func := .node fnN415 86 Tryz.f86 fnN416
theorem fnN417_ok : fnN417.All FnP := ⟨fnN415_ok, fn86_ok, fnN416_ok⟩
noncomputable def fnN418 : Tr Func := .node fnN413 83 Tryz.f83 fnN417
theorem fnN418_ok : fnN418.All FnP := ⟨fnN413_ok, fn83_ok, fnN417_ok⟩
noncomputable def fnN419 : Tr Func := .node fnN408 77 Tryz.f77 fnN418
theorem fnN419_ok : fnN419.All FnP := ⟨fnN408_ok, fn77_ok, fnN418_ok⟩
noncomputable def fnN420 : Tr Func := .node fnN398 66 Tryz.f66 fnN419
theorem fnN420_ok : fnN420.All FnP := ⟨fnN398_ok, fn66_ok, fnN419_ok⟩
noncomputable def fnN421 : Tr Func := .node fnN377 44 Tryz.f44 fnN420
theorem fnN421_ok : fnN421.All FnP := ⟨fnN377_ok, fn44_ok, fnN420_ok⟩
noncomputable def fnN422 : Tr Func := .node .leaf 89 Tryz.f89 .leaf
theorem fnN422_ok : fnN422.All FnP := ⟨trivial, fn89_ok, trivial⟩
noncomputable def fnN423 : Tr Func := .node fnN422 90 Tryz.f90 .leaf
theorem fnN423_ok : fnN423.All FnP := ⟨fnN422_ok, fn90_ok, trivial⟩
noncomputable def fnN424 : Tr Func := .node .leaf 92 Tryz.f92 .leaf
theorem fnN424_ok : fnN424.All FnP := ⟨trivial, fn92_ok, trivial⟩
noncomputable def fnN425 : Tr Func := .node fnN424 93 Tryz.f93 .leaf
theorem fnN425_ok : fnN425.All FnP := ⟨fnN424_ok, fn93_ok, trivial⟩
noncomputable def fnN426 : Tr Func := .node fnN423 91 Tryz.f91 fnN425
theorem fnN426_ok : fnN426.All FnP := ⟨fnN423_ok, fn91_ok, fnN425_ok⟩
noncomputable def fnN427 : Tr Func := .node .leaf 95 Tryz.f95 .leaf
theorem fnN427_ok : fnN427.All FnP := ⟨trivial, fn95_ok, trivial⟩
noncomputable def fnN428 : Tr Func := .node fnN427 96 Tryz.f96 .leaf
theorem fnN428_ok : fnN428.All FnP := ⟨fnN427_ok, fn96_ok, trivial⟩
noncomputable def fnN429 : Tr Func := .node .leaf 98 Tryz.f98 .leaf
theorem fnN429_ok : fnN429.All FnP := ⟨trivial, fn98_ok, trivial⟩
noncomputable def fnN430 : Tr Func := .node fnN428 97 Tryz.f97 fnN429
theorem fnN430_ok : fnN430.All FnP := ⟨fnN428_ok, fn97_ok, fnN429_ok⟩
noncomputable def fnN431 : Tr Func := .node fnN426 94 Tryz.f94 fnN430
theorem fnN431_ok : fnN431.All FnP := ⟨fnN426_ok, fn94_ok, fnN430_ok⟩
noncomputable def fnN432 : Tr Func := .node .leaf 100 Tryz.f100 .leaf
theorem fnN432_ok : fnN432.All FnP := ⟨trivial, fn100_ok, trivial⟩
noncomputable def fnN433 : Tr Func := .node fnN432 101 Tryz.f101 .leaf
theorem fnN433_ok : fnN433.All FnP := ⟨fnN432_ok, fn101_ok, trivial⟩
noncomputable def fnN434 : Tr Func := .node .leaf 103 Tryz.f103 .leaf
theorem fnN434_ok : fnN434.All FnP := ⟨trivial, fn103_ok, trivial⟩
noncomputable def fnN435 : Tr Func := .node fnN434 104 Tryz.f104 .leaf
theorem fnN435_ok : fnN435.All FnP := ⟨fnN434_ok, fn104_ok, trivial⟩
noncomputable def fnN436 : Tr Func := .node fnN433 102 Tryz.f102 fnN435
theorem fnN436_ok : fnN436.All FnP := ⟨fnN433_ok, fn102_ok, fnN435_ok⟩
noncomputable def fnN437 : Tr Func := .node .leaf 106 Tryz.f106 .leaf
theorem fnN437_ok : fnN437.All FnP := ⟨trivial, fn106_ok, trivial⟩
noncomputable def fnN438 : Tr Func := .node fnN437 107 Tryz.f107 .leaf
theorem fnN438_ok : fnN438.All FnP := ⟨fnN437_ok, fn107_ok, trivial⟩
noncomputable def fnN439 : Tr Func := .node .leaf 109 Tryz.f109 .leaf
theorem fnN439_ok : fnN439.All FnP := ⟨trivial, fn109_ok, trivial⟩
noncomputable def fnN440 : Tr Func := .node fnN438 108 Tryz.f108 fnN439
theorem fnN440_ok : fnN440.All FnP := ⟨fnN438_ok, fn108_ok, fnN439_ok⟩
noncomputable def fnN441 : Tr Func := .node fnN436 105 Tryz.f105 fnN440
theorem fnN441_ok : fnN441.All FnP := ⟨fnN436_ok, fn105_ok, fnN440_ok⟩
noncomputable def fnN442 : Tr Func := .node fnN431 99 Tryz.f99 fnN441
theorem fnN442_ok : fnN442.All FnP := ⟨fnN431_ok, fn99_ok, fnN441_ok⟩
noncomputable def fnN443 : Tr Func := .node .leaf 111 Tryz.f111 .leaf
theorem fnN443_ok : fnN443.All FnP := ⟨trivial, fn111_ok, trivial⟩
noncomputable def fnN444 : Tr Func := .node fnN443 112 Tryz.f112 .leaf
theorem fnN444_ok : fnN444.All FnP := ⟨fnN443_ok, fn112_ok, trivial⟩
noncomputable def fnN445 : Tr Func := .node .leaf 114 Tryz.f114 .leaf
theorem fnN445_ok : fnN445.All FnP := ⟨trivial, fn114_ok, trivial⟩
noncomputable def fnN446 : Tr Func := .node fnN445 115 Tryz.f115 .leaf
theorem fnN446_ok : fnN446.All FnP := ⟨fnN445_ok, fn115_ok, trivial⟩
noncomputable def fnN447 : Tr Func := .node fnN444 113 Tryz.f113 fnN446
theorem fnN447_ok : fnN447.All FnP := ⟨fnN444_ok, fn113_ok, fnN446_ok⟩
noncomputable def fnN448 : Tr Func := .node .leaf 117 Tryz.f117 .leaf
theorem fnN448_ok : fnN448.All FnP := ⟨trivial, fn117_ok, trivial⟩
noncomputable def fnN449 : Tr Func := .node fnN448 118 Tryz.f118 .leaf
theorem fnN449_ok : fnN449.All FnP := ⟨fnN448_ok, fn118_ok, trivial⟩
noncomputable def fnN450 : Tr Func := .node .leaf 120 Tryz.f120 .leaf
theorem fnN450_ok : fnN450.All FnP := ⟨trivial, fn120_ok, trivial⟩
noncomputable def fnN451 : Tr Func := .node fnN449 119 Tryz.f119 fnN450
theorem fnN451_ok : fnN451.All FnP := ⟨fnN449_ok, fn119_ok, fnN450_ok⟩
noncomputable def fnN452 : Tr Func := .node fnN447 116 Tryz.f116 fnN451
theorem fnN452_ok : fnN452.All FnP := ⟨fnN447_ok, fn116_ok, fnN451_ok⟩
noncomputable def fnN453 : Tr Func := .node .leaf 122 Tryz.f122 .leaf
theorem fnN453_ok : fnN453.All FnP := ⟨trivial, fn122_ok, trivial⟩
noncomputable def fnN454 : Tr Func := .node fnN453 123 Tryz.f123 .leaf
theorem fnN454_ok : fnN454.All FnP := ⟨fnN453_ok, fn123_ok, trivial⟩
noncomputable def fnN455 : Tr Func := .node .leaf 125 Tryz.f125 .leaf
theorem fnN455_ok : fnN455.All FnP := ⟨trivial, fn125_ok, trivial⟩
noncomputable def fnN456 : Tr Func := .node fnN455 126 Tryz.f126 .leaf
theorem fnN456_ok : fnN456.All FnP := ⟨fnN455_ok, fn126_ok, trivial⟩
noncomputable def fnN457 : Tr Func := .node fnN454 124 Tryz.f124 fnN456
theorem fnN457_ok : fnN457.All FnP := ⟨fnN454_ok, fn124_ok, fnN456_ok⟩
noncomputable def fnN458 : Tr Func := .node .leaf 128 Tryz.f128 .leaf
theorem fnN458_ok : fnN458.All FnP := ⟨trivial, fn128_ok, trivial⟩
noncomputable def fnN459 : Tr Func := .node fnN458 129 Tryz.f129 .leaf
theorem fnN459_ok : fnN459.All FnP := ⟨fnN458_ok, fn129_ok, trivial⟩
noncomputable def fnN460 : Tr Func := .node .leaf 131 Tryz.f131 .leaf
theorem fnN460_ok : fnN460.All FnP := ⟨trivial, fn131_ok, trivial⟩
noncomputable def fnN461 : Tr Func := .node fnN459 130 Tryz.f130 fnN460
theorem fnN461_ok : fnN461.All FnP := ⟨fnN459_ok, fn130_ok, fnN460_ok⟩
noncomputable def fnN462 : Tr Func := .node fnN457 127 Tryz.f127 fnN461
theorem fnN462_ok : fnN462.All FnP := ⟨fnN457_ok, fn127_ok, fnN461_ok⟩
noncomputable def fnN463 : Tr Func := .node fnN452 121 Tryz.f121 fnN462
theorem fnN463_ok : fnN463.All FnP := ⟨fnN452_ok, fn121_ok, fnN462_ok⟩
noncomputable def fnN464 : Tr Func := .node fnN442 110 Tryz.f110 fnN463
theorem fnN464_ok : fnN464.All FnP := ⟨fnN442_ok, fn110_ok, fnN463_ok⟩
noncomputable def fnN465 : Tr Func := .node .leaf 133 Tryz.f133 .leaf
theorem fnN465_ok : fnN465.All FnP := ⟨trivial, fn133_ok, trivial⟩
noncomputable def fnN466 : Tr Func := .node fnN465 134 Tryz.f134 .leaf
theorem fnN466_ok : fnN466.All FnP := ⟨fnN465_ok, fn134_ok, trivial⟩
noncomputable def fnN467 : Tr Func := .node .leaf 136 Tryz.f136 .leaf
theorem fnN467_ok : fnN467.All FnP := ⟨trivial, fn136_ok, trivial⟩
noncomputable def fnN468 : Tr Func := .node fnN467 137 Tryz.f137 .leaf
theorem fnN468_ok : fnN468.All FnP := ⟨fnN467_ok, fn137_ok, trivial⟩
noncomputable def fnN469 : Tr Func := .node fnN466 135 Tryz.f135 fnN468
theorem fnN469_ok : fnN469.All FnP := ⟨fnN466_ok, fn135_ok, fnN468_ok⟩
noncomputable def fnN470 : Tr Func := .node .leaf 139 Tryz.f139 .leaf
theorem fnN470_ok : fnN470.All FnP := ⟨trivial, fn139_ok, trivial⟩
noncomputable def fnN471 : Tr Func := .node fnN470 140 Tryz.f140 .leaf
theorem fnN471_ok : fnN471.All FnP := ⟨fnN470_ok, fn140_ok, trivial⟩
noncomputable def fnN472 : Tr Func := .node .leaf 142 Tryz.f142 .leaf
theorem fnN472_ok : fnN472.All FnP := ⟨trivial, fn142_ok, trivial⟩
noncomputable def fnN473 : Tr Func := .node fnN471 141 Tryz.f141 fnN472
theorem fnN473_ok : fnN473.All FnP := ⟨fnN471_ok, fn141_ok, fnN472_ok⟩
noncomputable def fnN474 : Tr Func := .node fnN469 138 Tryz.f138 fnN473
theorem fnN474_ok : fnN474.All FnP := ⟨fnN469_ok, fn138_ok, fnN473_ok⟩
noncomputable def fnN475 : Tr Func := .node .leaf 144 Tryz.f144 .leaf
theorem fnN475_ok : fnN475.All FnP := ⟨trivial, fn144_ok, trivial⟩
noncomputable def fnN476 : Tr Func := .node fnN475 145 Tryz.f145 .leaf
theorem fnN476_ok : fnN476.All FnP := ⟨fnN475_ok, fn145_ok, trivial⟩
noncomputable def fnN477 : Tr Func := .node .leaf 147 Tryz.f147 .leaf
theorem fnN477_ok : fnN477.All FnP := ⟨trivial, fn147_ok, trivial⟩
noncomputable def fnN478 : Tr Func := .node fnN477 148 Tryz.f148 .leaf
theorem fnN478_ok : fnN478.All FnP := ⟨fnN477_ok, fn148_ok, trivial⟩
noncomputable def fnN479 : Tr Func := .node fnN476 146 Tryz.f146 fnN478
theorem fnN479_ok : fnN479.All FnP := ⟨fnN476_ok, fn146_ok, fnN478_ok⟩
noncomputable def fnN480 : Tr Func := .node .leaf 150 Tryz.f150 .leaf
theorem fnN480_ok : fnN480.All FnP := ⟨trivial, fn150_ok, trivial⟩
noncomputable def fnN481 : Tr Func := .node fnN480 151 Tryz.f151 .leaf
theorem fnN481_ok : fnN481.All FnP := ⟨fnN480_ok, fn151_ok, trivial⟩
noncomputable def fnN482 : Tr Func := .node .leaf 153 Tryz.f153 .leaf
theorem fnN482_ok : fnN482.All FnP := ⟨trivial, fn153_ok, trivial⟩
noncomputable def fnN483 : Tr Func := .node fnN481 152 Tryz.f152 fnN482
theorem fnN483_ok : fnN483.All FnP := ⟨fnN481_ok, fn152_ok, fnN482_ok⟩
noncomputable def fnN484 : Tr Func := .node fnN479 149 Tryz.f149 fnN483
theorem fnN484_ok : fnN484.All FnP := ⟨fnN479_ok, fn149_ok, fnN483_ok⟩
noncomputable def fnN485 : Tr Func := .node fnN474 143 Tryz.f143 fnN484
theorem fnN485_ok : fnN485.All FnP := ⟨fnN474_ok, fn143_ok, fnN484_ok⟩
noncomputable def fnN486 : Tr Func := .node .leaf 155 Tryz.f155 .leaf
theorem fnN486_ok : fnN486.All FnP := ⟨trivial, fn155_ok, trivial⟩
noncomputable def fnN487 : Tr Func := .node fnN486 156 Tryz.f156 .leaf
theorem fnN487_ok : fnN487.All FnP := ⟨fnN486_ok, fn156_ok, trivial⟩
noncomputable def fnN488 : Tr Func := .node .leaf 158 Tryz.f158 .leaf
theorem fnN488_ok : fnN488.All FnP := ⟨trivial, fn158_ok, trivial⟩
noncomputable def fnN489 : Tr Func := .node fnN488 159 Tryz.f159 .leaf
theorem fnN489_ok : fnN489.All FnP := ⟨fnN488_ok, fn159_ok, trivial⟩
noncomputable def fnN490 : Tr Func := .node fnN487 157 Tryz.f157 fnN489
theorem fnN490_ok : fnN490.All FnP := ⟨fnN487_ok, fn157_ok, fnN489_ok⟩
noncomputable def fnN491 : Tr Func := .node .leaf 161 Tryz.f161 .leaf
theorem fnN491_ok : fnN491.All FnP := ⟨trivial, fn161_ok, trivial⟩
noncomputable def fnN492 : Tr Func := .node fnN491 162 Tryz.f162 .leaf
theorem fnN492_ok : fnN492.All FnP := ⟨fnN491_ok, fn162_ok, trivial⟩
noncomputable def fnN493 : Tr Func := .node .leaf 164 Tryz.f164 .leaf
theorem fnN493_ok : fnN493.All FnP := ⟨trivial, fn164_ok, trivial⟩
noncomputable def fnN494 : Tr Func := .node fnN492 163 Tryz.f163 fnN493
theorem fnN494_ok : fnN494.All FnP := ⟨fnN492_ok, fn163_ok, fnN493_ok⟩
noncomputable def fnN495 : Tr Func := .node fnN490 160 Tryz.f160 fnN494
theorem fnN495_ok : fnN495.All FnP := ⟨fnN490_ok, fn160_ok, fnN494_ok⟩
noncomputable def fnN496 : Tr Func := .node .leaf 166 Tryz.f166 .leaf
theorem fnN496_ok : fnN496.All FnP := ⟨trivial, fn166_ok, trivial⟩
noncomputable def fnN497 : Tr Func := .node fnN496 167 Tryz.f167 .leaf
theorem fnN497_ok : fnN497.All FnP := ⟨fnN496_ok, fn167_ok, trivial⟩
noncomputable def fnN498 : Tr Func := .node .leaf 169 Tryz.f169 .leaf
theorem fnN498_ok : fnN498.All FnP := ⟨trivial, fn169_ok, trivial⟩
noncomputable def fnN499 : Tr Func := .node fnN498 170 Tryz.f170 .leaf
theorem fnN499_ok : fnN499.All FnP := ⟨fnN498_ok, fn170_ok, trivial⟩
noncomputable def fnN500 : Tr Func := .node fnN497 168 Tryz.f168 fnN499
theorem fnN500_ok : fnN500.All FnP := ⟨fnN497_ok, fn168_ok, fnN499_ok⟩
noncomputable def fnN501 : Tr Func := .node .leaf 172 Tryz.f172 .leaf
theorem fnN501_ok : fnN501.All FnP := ⟨trivial, fn172_ok, trivial⟩
noncomputable def fnN502 : Tr Func := .node fnN501 173 Tryz.f173 .leaf
theorem fnN502_ok : fnN502.All FnP := ⟨fnN501_ok, fn173_ok, trivial⟩
noncomputable def fnN503 : Tr Func := .node .leaf 175 Tryz.f175 .leaf
theorem fnN503_ok : fnN503.All FnP := ⟨trivial, fn175_ok, trivial⟩
noncomputable def fnN504 : Tr Func := .node fnN502 174 Tryz.f174 fnN503
theorem fnN504_ok : fnN504.All FnP := ⟨fnN502_ok, fn174_ok, fnN503_ok⟩
noncomputable def fnN505 : Tr Func := .node fnN500 171 Tryz.f171 fnN504
theorem fnN505_ok : fnN505.All FnP := ⟨fnN500_ok, fn171_ok, fnN504_ok⟩
noncomputable def fnN506 : Tr Func := .node fnN495 165 Tryz.f165 fnN505
theorem fnN506_ok : fnN506.All FnP := ⟨fnN495_ok, fn165_ok, fnN505_ok⟩
noncomputable def fnN507 : Tr Func := .node fnN485 154 Tryz.f154 fnN506
theorem fnN507_ok : fnN507.All FnP := ⟨fnN485_ok, fn154_ok, fnN506_ok⟩
noncomputable def fnN508 : Tr Func := .node fnN464 132 Tryz.f132 fnN507
theorem fnN508_ok : fnN508.All FnP := ⟨fnN464_ok, fn132_ok, fnN507_ok⟩
noncomputable def fnN509 : Tr Func := .node fnN421 88 Tryz.f88 fnN508
theorem fnN509_ok : fnN509.All FnP := ⟨fnN421_ok, fn88_ok, fnN508_ok⟩
noncomputable def fnN510 : Tr Func := .node .leaf 177 Tryz.f177 .leaf
theorem fnN510_ok : fnN510.All FnP := ⟨trivial, fn177_ok, trivial⟩
noncomputable def fnN511 : Tr Func := .node fnN510 178 Tryz.f178 .leaf
theorem fnN511_ok : fnN511.All FnP := ⟨fnN510_ok, fn178_ok, trivial⟩
noncomputable def fnN512 : Tr Func := .node .leaf 180 Tryz.f180 .leaf
theorem fnN512_ok : fnN512.All FnP := ⟨trivial, fn180_ok, trivial⟩
noncomputable def fnN513 : Tr Func := .node fnN512 181 Tryz.f181 .leaf
theorem fnN513_ok : fnN513.All FnP := ⟨fnN512_ok, fn181_ok, trivial⟩
noncomputable def fnN514 : Tr Func := .node fnN511 179 Tryz.f179 fnN513
theorem fnN514_ok : fnN514.All FnP := ⟨fnN511_ok, fn179_ok, fnN513_ok⟩
noncomputable def fnN515 : Tr Func := .node .leaf 183 Tryz.f183 .leaf
theorem fnN515_ok : fnN515.All FnP := ⟨trivial, fn183_ok, trivial⟩
noncomputable def fnN516 : Tr Func := .node fnN515 184 Tryz.f184 .leaf
theorem fnN516_ok : fnN516.All FnP := ⟨fnN515_ok, fn184_ok, trivial⟩
noncomputable def fnN517 : Tr Func := .node .leaf 186 Tryz.f186 .leaf
theorem fnN517_ok : fnN517.All FnP := ⟨trivial, fn186_ok, trivial⟩
noncomputable def fnN518 : Tr Func := .node fnN517 187 Tryz.f187 .leaf
theorem fnN518_ok : fnN518.All FnP := ⟨fnN517_ok, fn187_ok, trivial⟩
noncomputable def fnN519 : Tr Func := .node fnN516 185 Tryz.f185 fnN518
theorem fnN519_ok : fnN519.All FnP := ⟨fnN516_ok, fn185_ok, fnN518_ok⟩
noncomputable def fnN520 : Tr Func := .node fnN514 182 Tryz.f182 fnN519
theorem fnN520_ok : fnN520.All FnP := ⟨fnN514_ok, fn182_ok, fnN519_ok⟩
noncomputable def fnN521 : Tr Func := .node .leaf 189 Tryz.f189 .leaf
theorem fnN521_ok : fnN521.All FnP := ⟨trivial, fn189_ok, trivial⟩
noncomputable def fnN522 : Tr Func := .node fnN521 190 Tryz.f190 .leaf
theorem fnN522_ok : fnN522.All FnP := ⟨fnN521_ok, fn190_ok, trivial⟩
noncomputable def fnN523 : Tr Func := .node .leaf 192 Tryz.f192 .leaf
theorem fnN523_ok : fnN523.All FnP := ⟨trivial, fn192_ok, trivial⟩
noncomputable def fnN524 : Tr Func := .node fnN523 193 Tryz.f193 .leaf
theorem fnN524_ok : fnN524.All FnP := ⟨fnN523_ok, fn193_ok, trivial⟩
noncomputable def fnN525 : Tr Func := .node fnN522 191 Tryz.f191 fnN524
theorem fnN525_ok : fnN525.All FnP := ⟨fnN522_ok, fn191_ok, fnN524_ok⟩
noncomputable def fnN526 : Tr Func := .node .leaf 195 Tryz.f195 .leaf
theorem fnN526_ok : fnN526.All FnP := ⟨trivial, fn195_ok, trivial⟩
noncomputable def fnN527 : Tr Func := .node fnN526 196 Tryz.f196 .leaf
theorem fnN527_ok : fnN527.All FnP := ⟨fnN526_ok, fn196_ok, trivial⟩
noncomputable def fnN528 : Tr Func := .node .leaf 198 Tryz.f198 .leaf
theorem fnN528_ok : fnN528.All FnP := ⟨trivial, fn198_ok, trivial⟩
noncomputable def fnN529 : Tr Func := .node fnN527 197 Tryz.f197 fnN528
theorem fnN529_ok : fnN529.All FnP := ⟨fnN527_ok, fn197_ok, fnN528_ok⟩
noncomputable def fnN530 : Tr Func := .node fnN525 194 Tryz.f194 fnN529
theorem fnN530_ok : fnN530.All FnP := ⟨fnN525_ok, fn194_ok, fnN529_ok⟩
noncomputable def fnN531 : Tr Func := .node fnN520 188 Tryz.f188 fnN530
theorem fnN531_ok : fnN531.All FnP := ⟨fnN520_ok, fn188_ok, fnN530_ok⟩
noncomputable def fnN532 : Tr Func := .node .leaf 200 Tryz.f200 .leaf
theorem fnN532_ok : fnN532.All FnP := ⟨trivial, fn200_ok, trivial⟩
noncomputable def fnN533 : Tr Func := .node fnN532 201 Tryz.f201 .leaf
theorem fnN533_ok : fnN533.All FnP := ⟨fnN532_ok, fn201_ok, trivial⟩
noncomputable def fnN534 : Tr Func := .node .leaf 203 Tryz.f203 .leaf
theorem fnN534_ok : fnN534.All FnP := ⟨trivial, fn203_ok, trivial⟩
noncomputable def fnN535 : Tr Func := .node fnN534 204 Tryz.f204 .leaf
theorem fnN535_ok : fnN535.All FnP := ⟨fnN534_ok, fn204_ok, trivial⟩
noncomputable def fnN536 : Tr Func := .node fnN533 202 Tryz.f202 fnN535
theorem fnN536_ok : fnN536.All FnP := ⟨fnN533_ok, fn202_ok, fnN535_ok⟩
noncomputable def fnN537 : Tr Func := .node .leaf 206 Tryz.f206 .leaf
theorem fnN537_ok : fnN537.All FnP := ⟨trivial, fn206_ok, trivial⟩
noncomputable def fnN538 : Tr Func := .node fnN537 207 Tryz.f207 .leaf
theorem fnN538_ok : fnN538.All FnP := ⟨fnN537_ok, fn207_ok, trivial⟩
noncomputable def fnN539 : Tr Func := .node .leaf 209 Tryz.f209 .leaf
theorem fnN539_ok : fnN539.All FnP := ⟨trivial, fn209_ok, trivial⟩
noncomputable def fnN540 : Tr Func := .node fnN538 208 Tryz.f208 fnN539
theorem fnN540_ok : fnN540.All FnP := ⟨fnN538_ok, fn208_ok, fnN539_ok⟩
noncomputable def fnN541 : Tr Func := .node fnN536 205 Tryz.f205 fnN540
theorem fnN541_ok : fnN541.All FnP := ⟨fnN536_ok, fn205_ok, fnN540_ok⟩
noncomputable def fnN542 : Tr Func := .node .leaf 211 Tryz.f211 .leaf
theorem fnN542_ok : fnN542.All FnP := ⟨trivial, fn211_ok, trivial⟩
noncomputable def fnN543 : Tr Func := .node fnN542 212 Tryz.f212 .leaf
theorem fnN543_ok : fnN543.All FnP := ⟨fnN542_ok, fn212_ok, trivial⟩
noncomputable def fnN544 : Tr Func := .node .leaf 214 Tryz.f214 .leaf
theorem fnN544_ok : fnN544.All FnP := ⟨trivial, fn214_ok, trivial⟩
noncomputable def fnN545 : Tr Func := .node fnN544 215 Tryz.f215 .leaf
theorem fnN545_ok : fnN545.All FnP := ⟨fnN544_ok, fn215_ok, trivial⟩
noncomputable def fnN546 : Tr Func := .node fnN543 213 Tryz.f213 fnN545
theorem fnN546_ok : fnN546.All FnP := ⟨fnN543_ok, fn213_ok, fnN545_ok⟩
noncomputable def fnN547 : Tr Func := .node .leaf 217 Tryz.f217 .leaf
theorem fnN547_ok : fnN547.All FnP := ⟨trivial, fn217_ok, trivial⟩
noncomputable def fnN548 : Tr Func := .node fnN547 218 Tryz.f218 .leaf
theorem fnN548_ok : fnN548.All FnP := ⟨fnN547_ok, fn218_ok, trivial⟩
noncomputable def fnN549 : Tr Func := .node .leaf 220 Tryz.f220 .leaf
theorem fnN549_ok : fnN549.All FnP := ⟨trivial, fn220_ok, trivial⟩
noncomputable def fnN550 : Tr Func := .node fnN548 219 Tryz.f219 fnN549
theorem fnN550_ok : fnN550.All FnP := ⟨fnN548_ok, fn219_ok, fnN549_ok⟩
noncomputable def fnN551 : Tr Func := .node fnN546 216 Tryz.f216 fnN550
theorem fnN551_ok : fnN551.All FnP := ⟨fnN546_ok, fn216_ok, fnN550_ok⟩
noncomputable def fnN552 : Tr Func := .node fnN541 210 Tryz.f210 fnN551
theorem fnN552_ok : fnN552.All FnP := ⟨fnN541_ok, fn210_ok, fnN551_ok⟩
noncomputable def fnN553 : Tr Func := .node fnN531 199 Tryz.f199 fnN552
theorem fnN553_ok : fnN553.All FnP := ⟨fnN531_ok, fn199_ok, fnN552_ok⟩
noncomputable def fnN554 : Tr Func := .node .leaf 222 Tryz.f222 .leaf
theorem fnN554_ok : fnN554.All FnP := ⟨trivial, fn222_ok, trivial⟩
noncomputable def fnN555 : Tr Func := .node fnN554 223 Tryz.f223 .leaf
theorem fnN555_ok : fnN555.All FnP := ⟨fnN554_ok, fn223_ok, trivial⟩
noncomputable def fnN556 : Tr Func := .node .leaf 225 Tryz.f225 .leaf
theorem fnN556_ok : fnN556.All FnP := ⟨trivial, fn225_ok, trivial⟩
noncomputable def fnN557 : Tr Func := .node fnN556 226 Tryz.f226 .leaf
theorem fnN557_ok : fnN557.All FnP := ⟨fnN556_ok, fn226_ok, trivial⟩
noncomputable def fnN558 : Tr Func := .node fnN555 224 Tryz.f224 fnN557
theorem fnN558_ok : fnN558.All FnP := ⟨fnN555_ok, fn224_ok, fnN557_ok⟩
noncomputable def fnN559 : Tr Func := .node .leaf 228 Tryz.f228 .leaf
theorem fnN559_ok : fnN559.All FnP := ⟨trivial, fn228_ok, trivial⟩
noncomputable def fnN560 : Tr Func := .node fnN559 229 Tryz.f229 .leaf
theorem fnN560_ok : fnN560.All FnP := ⟨fnN559_ok, fn229_ok, trivial⟩
noncomputable def fnN561 : Tr Func := .node .leaf 231 Tryz.f231 .leaf
theorem fnN561_ok : fnN561.All FnP := ⟨trivial, fn231_ok, trivial⟩
noncomputable def fnN562 : Tr Func := .node fnN560 230 Tryz.f230 fnN561
theorem fnN562_ok : fnN562.All FnP := ⟨fnN560_ok, fn230_ok, fnN561_ok⟩
noncomputable def fnN563 : Tr Func := .node fnN558 227 Tryz.f227 fnN562
theorem fnN563_ok : fnN563.All FnP := ⟨fnN558_ok, fn227_ok, fnN562_ok⟩
noncomputable def fnN564 : Tr Func := .node .leaf 233 Tryz.f233 .leaf
theorem fnN564_ok : fnN564.All FnP := ⟨trivial, fn233_ok, trivial⟩
noncomputable def fnN565 : Tr Func := .node fnN564 234 Tryz.f234 .leaf
theorem fnN565_ok : fnN565.All FnP := ⟨fnN564_ok, fn234_ok, trivial⟩
noncomputable def fnN566 : Tr Func := .node .leaf 236 Tryz.f236 .leaf
theorem fnN566_ok : fnN566.All FnP := ⟨trivial, fn236_ok, trivial⟩
noncomputable def fnN567 : Tr Func := .node fnN566 237 Tryz.f237 .leaf
theorem fnN567_ok : fnN567.All FnP := ⟨fnN566_ok, fn237_ok, trivial⟩
noncomputable def fnN568 : Tr Func := .node fnN565 235 Tryz.f235 fnN567
theorem fnN568_ok : fnN568.All FnP := ⟨fnN565_ok, fn235_ok, fnN567_ok⟩
noncomputable def fnN569 : Tr Func := .node .leaf 239 Tryz.f239 .leaf
theorem fnN569_ok : fnN569.All FnP := ⟨trivial, fn239_ok, trivial⟩
noncomputable def fnN570 : Tr Func := .node fnN569 240 Tryz.f240 .leaf
theorem fnN570_ok : fnN570.All FnP := ⟨fnN569_ok, fn240_ok, trivial⟩
noncomputable def fnN571 : Tr Func := .node .leaf 242 Tryz.f242 .leaf
theorem fnN571_ok : fnN571.All FnP := ⟨trivial, fn242_ok, trivial⟩
noncomputable def fnN572 : Tr Func := .node fnN570 241 Tryz.f241 fnN571
theorem fnN572_ok : fnN572.All FnP := ⟨fnN570_ok, fn241_ok, fnN571_ok⟩
noncomputable def fnN573 : Tr Func := .node fnN568 238 Tryz.f238 fnN572
theorem fnN573_ok : fnN573.All FnP := ⟨fnN568_ok, fn238_ok, fnN572_ok⟩
noncomputable def fnN574 : Tr Func := .node fnN563 232 Tryz.f232 fnN573
theorem fnN574_ok : fnN574.All FnP := ⟨fnN563_ok, fn232_ok, fnN573_ok⟩
noncomputable def fnN575 : Tr Func := .node .leaf 244 Tryz.f244 .leaf
theorem fnN575_ok : fnN575.All FnP := ⟨trivial, fn244_ok, trivial⟩
noncomputable def fnN576 : Tr Func := .node fnN575 245 Tryz.f245 .leaf
theorem fnN576_ok : fnN576.All FnP := ⟨fnN575_ok, fn245_ok, trivial⟩
noncomputable def fnN577 : Tr Func := .node .leaf 247 Tryz.f247 .leaf
theorem fnN577_ok : fnN577.All FnP := ⟨trivial, fn247_ok, trivial⟩
noncomputable def fnN578 : Tr Func := .node fnN577 248 Tryz.f248 .leaf
theorem fnN578_ok : fnN578.All FnP := ⟨fnN577_ok, fn248_ok, trivial⟩
noncomputable def fnN579 : Tr Func := .node fnN576 246 Tryz.f246 fnN578
theorem fnN579_ok : fnN579.All FnP := ⟨fnN576_ok, fn246_ok, fnN578_ok⟩
noncomputable def fnN580 : Tr Func := .node .leaf 250 Tryz.f250 .leaf
theorem fnN580_ok : fnN580.All FnP := ⟨trivial, fn250_ok, trivial⟩
noncomputable def fnN581 : Tr Func := .node fnN580 251 Tryz.f251 .leaf
theorem fnN581_ok : fnN581.All FnP := ⟨fnN580_ok, fn251_ok, trivial⟩
noncomputable def fnN582 : Tr Func := .node .leaf 253 Tryz.f253 .leaf
theorem fnN582_ok : fnN582.All FnP := ⟨trivial, fn253_ok, trivial⟩
noncomputable def fnN583 : Tr Func := .node fnN581 252 Tryz.f252 fnN582
theorem fnN583_ok : fnN583.All FnP := ⟨fnN581_ok, fn252_ok, fnN582_ok⟩
noncomputable def fnN584 : Tr Func := .node fnN579 249 Tryz.f249 fnN583
theorem fnN584_ok : fnN584.All FnP := ⟨fnN579_ok, fn249_ok, fnN583_ok⟩
noncomputable def fnN585 : Tr Func := .node .leaf 255 Tryz.f255 .leaf
theorem fnN585_ok : fnN585.All FnP := ⟨trivial, fn255_ok, trivial⟩
noncomputable def fnN586 : Tr Func := .node fnN585 256 Tryz.f256 .leaf
theorem fnN586_ok : fnN586.All FnP := ⟨fnN585_ok, fn256_ok, trivial⟩
noncomputable def fnN587 : Tr Func := .node .leaf 258 Tryz.f258 .leaf
theorem fnN587_ok : fnN587.All FnP := ⟨trivial, fn258_ok, trivial⟩
noncomputable def fnN588 : Tr Func := .node fnN587 259 Tryz.f259 .leaf
theorem fnN588_ok : fnN588.All FnP := ⟨fnN587_ok, fn259_ok, trivial⟩
noncomputable def fnN589 : Tr Func := .node fnN586 257 Tryz.f257 fnN588
theorem fnN589_ok : fnN589.All FnP := ⟨fnN586_ok, fn257_ok, fnN588_ok⟩
noncomputable def fnN590 : Tr Func := .node .leaf 261 Tryz.f261 .leaf
theorem fnN590_ok : fnN590.All FnP := ⟨trivial, fn261_ok, trivial⟩
noncomputable def fnN591 : Tr Func := .node fnN590 262 Tryz.f262 .leaf
theorem fnN591_ok : fnN591.All FnP := ⟨fnN590_ok, fn262_ok, trivial⟩
noncomputable def fnN592 : Tr Func := .node .leaf 264 Tryz.f264 .leaf
theorem fnN592_ok : fnN592.All FnP := ⟨trivial, fn264_ok, trivial⟩
noncomputable def fnN593 : Tr Func := .node fnN591 263 Tryz.f263 fnN592
theorem fnN593_ok : fnN593.All FnP := ⟨fnN591_ok, fn263_ok, fnN592_ok⟩
noncomputable def fnN594 : Tr Func := .node fnN589 260 Tryz.f260 fnN593
theorem fnN594_ok : fnN594.All FnP := ⟨fnN589_ok, fn260_ok, fnN593_ok⟩
noncomputable def fnN595 : Tr Func := .node fnN584 254 Tryz.f254 fnN594
theorem fnN595_ok : fnN595.All FnP := ⟨fnN584_ok, fn254_ok, fnN594_ok⟩
noncomputable def fnN596 : Tr Func := .node fnN574 243 Tryz.f243 fnN595
theorem fnN596_ok : fnN596.All FnP := ⟨fnN574_ok, fn243_ok, fnN595_ok⟩
noncomputable def fnN597 : Tr Func := .node fnN553 221 Tryz.f221 fnN596
theorem fnN597_ok : fnN597.All FnP := ⟨fnN553_ok, fn221_ok, fnN596_ok⟩
noncomputable def fnN598 : Tr Func := .node .leaf 266 Tryz.f266 .leaf
theorem fnN598_ok : fnN598.All FnP := ⟨trivial, fn266_ok, trivial⟩
noncomputable def fnN599 : Tr Func := .node fnN598 267 Tryz.f267 .leaf
theorem fnN599_ok : fnN599.All FnP := ⟨fnN598_ok, fn267_ok, trivial⟩
noncomputable def fnN600 : Tr Func := .node .leaf 269 Tryz.f269 .leaf
theorem fnN600_ok : fnN600.All FnP := ⟨trivial, fn269_ok, trivial⟩
noncomputable def fnN601 : Tr Func := .node fnN600 270 Tryz.f270 .leaf
theorem fnN601_ok : fnN601.All FnP := ⟨fnN600_ok, fn270_ok, trivial⟩
noncomputable def fnN602 : Tr Func := .node fnN599 268 Tryz.f268 fnN601
theorem fnN602_ok : fnN602.All FnP := ⟨fnN599_ok, fn268_ok, fnN601_ok⟩
noncomputable def fnN603 : Tr Func := .node .leaf 272 Tryz.f272 .leaf
theorem fnN603_ok : fnN603.All FnP := ⟨trivial, fn272_ok, trivial⟩
noncomputable def fnN604 : Tr Func := .node fnN603 273 Tryz.f273 .leaf
theorem fnN604_ok : fnN604.All FnP := ⟨fnN603_ok, fn273_ok, trivial⟩
noncomputable def fnN605 : Tr Func := .node .leaf 275 Tryz.f275 .leaf
theorem fnN605_ok : fnN605.All FnP := ⟨trivial, fn275_ok, trivial⟩
noncomputable def fnN606 : Tr Func := .node fnN604 274 Tryz.f274 fnN605
theorem fnN606_ok : fnN606.All FnP := ⟨fnN604_ok, fn274_ok, fnN605_ok⟩
noncomputable def fnN607 : Tr Func := .node fnN602 271 Tryz.f271 fnN606
theorem fnN607_ok : fnN607.All FnP := ⟨fnN602_ok, fn271_ok, fnN606_ok⟩
noncomputable def fnN608 : Tr Func := .node .leaf 277 Tryz.f277 .leaf
theorem fnN608_ok : fnN608.All FnP := ⟨trivial, fn277_ok, trivial⟩
noncomputable def fnN609 : Tr Func := .node fnN608 278 Tryz.f278 .leaf
theorem fnN609_ok : fnN609.All FnP := ⟨fnN608_ok, fn278_ok, trivial⟩
noncomputable def fnN610 : Tr Func := .node .leaf 280 Tryz.f280 .leaf
theorem fnN610_ok : fnN610.All FnP := ⟨trivial, fn280_ok, trivial⟩
noncomputable def fnN611 : Tr Func := .node fnN610 281 Tryz.f281 .leaf
theorem fnN611_ok : fnN611.All FnP := ⟨fnN610_ok, fn281_ok, trivial⟩
noncomputable def fnN612 : Tr Func := .node fnN609 279 Tryz.f279 fnN611
theorem fnN612_ok : fnN612.All FnP := ⟨fnN609_ok, fn279_ok, fnN611_ok⟩
noncomputable def fnN613 : Tr Func := .node .leaf 283 Tryz.f283 .leaf
theorem fnN613_ok : fnN613.All FnP := ⟨trivial, fn283_ok, trivial⟩
noncomputable def fnN614 : Tr Func := .node fnN613 284 Tryz.f284 .leaf
theorem fnN614_ok : fnN614.All FnP := ⟨fnN613_ok, fn284_ok, trivial⟩
noncomputable def fnN615 : Tr Func := .node .leaf 286 Tryz.f286 .leaf
theorem fnN615_ok : fnN615.All FnP := ⟨trivial, fn286_ok, trivial⟩
noncomputable def fnN616 : Tr Func := .node fnN614 285 Tryz.f285 fnN615
theorem fnN616_ok : fnN616.All FnP := ⟨fnN614_ok, fn285_ok, fnN615_ok⟩
noncomputable def fnN617 : Tr Func := .node fnN612 282 Tryz.f282 fnN616
theorem fnN617_ok : fnN617.All FnP := ⟨fnN612_ok, fn282_ok, fnN616_ok⟩
noncomputable def fnN618 : Tr Func := .node fnN607 276 Tryz.f276 fnN617
theorem fnN618_ok : fnN618.All FnP := ⟨fnN607_ok, fn276_ok, fnN617_ok⟩
noncomputable def fnN619 : Tr Func := .node .leaf 288 Tryz.f288 .leaf
theorem fnN619_ok : fnN619.All FnP := ⟨trivial, fn288_ok, trivial⟩
noncomputable def fnN620 : Tr Func := .node fnN619 289 Tryz.f289 .leaf
theorem fnN620_ok : fnN620.All FnP := ⟨fnN619_ok, fn289_ok, trivial⟩
noncomputable def fnN621 : Tr Func := .node .leaf 291 Tryz.f291 .leaf
theorem fnN621_ok : fnN621.All FnP := ⟨trivial, fn291_ok, trivial⟩
noncomputable def fnN622 : Tr Func := .node fnN621 292 Tryz.f292 .leaf
theorem fnN622_ok : fnN622.All FnP := ⟨fnN621_ok, fn292_ok, trivial⟩
noncomputable def fnN623 : Tr Func := .node fnN620 290 Tryz.f290 fnN622
theorem fnN623_ok : fnN623.All FnP := ⟨fnN620_ok, fn290_ok, fnN622_ok⟩
noncomputable def fnN624 : Tr Func := .node .leaf 294 Tryz.f294 .leaf
theorem fnN624_ok : fnN624.All FnP := ⟨trivial, fn294_ok, trivial⟩
noncomputable def fnN625 : Tr Func := .node fnN624 295 Tryz.f295 .leaf
theorem fnN625_ok : fnN625.All FnP := ⟨fnN624_ok, fn295_ok, trivial⟩
noncomputable def fnN626 : Tr Func := .node .leaf 297 Tryz.f297 .leaf
theorem fnN626_ok : fnN626.All FnP := ⟨trivial, fn297_ok, trivial⟩
noncomputable def fnN627 : Tr Func := .node fnN625 296 Tryz.f296 fnN626
theorem fnN627_ok : fnN627.All FnP := ⟨fnN625_ok, fn296_ok, fnN626_ok⟩
noncomputable def fnN628 : Tr Func := .node fnN623 293 Tryz.f293 fnN627
theorem fnN628_ok : fnN628.All FnP := ⟨fnN623_ok, fn293_ok, fnN627_ok⟩
noncomputable def fnN629 : Tr Func := .node .leaf 299 Tryz.f299 .leaf
theorem fnN629_ok : fnN629.All FnP := ⟨trivial, fn299_ok, trivial⟩
noncomputable def fnN630 : Tr Func := .node fnN629 300 Tryz.f300 .leaf
theorem fnN630_ok : fnN630.All FnP := ⟨fnN629_ok, fn300_ok, trivial⟩
noncomputable def fnN631 : Tr Func := .node .leaf 302 Tryz.f302 .leaf
theorem fnN631_ok : fnN631.All FnP := ⟨trivial, fn302_ok, trivial⟩
noncomputable def fnN632 : Tr Func := .node fnN631 303 Tryz.f303 .leaf
theorem fnN632_ok : fnN632.All FnP := ⟨fnN631_ok, fn303_ok, trivial⟩
noncomputable def fnN633 : Tr Func := .node fnN630 301 Tryz.f301 fnN632
theorem fnN633_ok : fnN633.All FnP := ⟨fnN630_ok, fn301_ok, fnN632_ok⟩
noncomputable def fnN634 : Tr Func := .node .leaf 305 Tryz.f305 .leaf
theorem fnN634_ok : fnN634.All FnP := ⟨trivial, fn305_ok, trivial⟩
noncomputable def fnN635 : Tr Func := .node fnN634 306 Tryz.f306 .leaf
theorem fnN635_ok : fnN635.All FnP := ⟨fnN634_ok, fn306_ok, trivial⟩
noncomputable def fnN636 : Tr Func := .node .leaf 308 Tryz.f308 .leaf
theorem fnN636_ok : fnN636.All FnP := ⟨trivial, fn308_ok, trivial⟩
noncomputable def fnN637 : Tr Func := .node fnN635 307 Tryz.f307 fnN636
theorem fnN637_ok : fnN637.All FnP := ⟨fnN635_ok, fn307_ok, fnN636_ok⟩
noncomputable def fnN638 : Tr Func := .node fnN633 304 Tryz.f304 fnN637
theorem fnN638_ok : fnN638.All FnP := ⟨fnN633_ok, fn304_ok, fnN637_ok⟩
noncomputable def fnN639 : Tr Func := .node fnN628 298 Tryz.f298 fnN638
theorem fnN639_ok : fnN639.All FnP := ⟨fnN628_ok, fn298_ok, fnN638_ok⟩
noncomputable def fnN640 : Tr Func := .node fnN618 287 Tryz.f287 fnN639
theorem fnN640_ok : fnN640.All FnP := ⟨fnN618_ok, fn287_ok, fnN639_ok⟩
noncomputable def fnN641 : Tr Func := .node .leaf 310 Tryz.f310 .leaf
theorem fnN641_ok : fnN641.All FnP := ⟨trivial, fn310_ok, trivial⟩
noncomputable def fnN642 : Tr Func := .node fnN641 311 Tryz.f311 .leaf
theorem fnN642_ok : fnN642.All FnP := ⟨fnN641_ok, fn311_ok, trivial⟩
noncomputable def fnN643 : Tr Func := .node .leaf 313 Tryz.f313 .leaf
theorem fnN643_ok : fnN643.All FnP := ⟨trivial, fn313_ok, trivial⟩
noncomputable def fnN644 : Tr Func := .node fnN643 314 Tryz.f314 .leaf
theorem fnN644_ok : fnN644.All FnP := ⟨fnN643_ok, fn314_ok, trivial⟩
noncomputable def fnN645 : Tr Func := .node fnN642 312 Tryz.f312 fnN644
theorem fnN645_ok : fnN645.All FnP := ⟨fnN642_ok, fn312_ok, fnN644_ok⟩
noncomputable def fnN646 : Tr Func := .node .leaf 316 Tryz.f316 .leaf
theorem fnN646_ok : fnN646.All FnP := ⟨trivial, fn316_ok, trivial⟩
noncomputable def fnN647 : Tr Func := .node fnN646 317 Tryz.f317 .leaf
theorem fnN647_ok : fnN647.All FnP := ⟨fnN646_ok, fn317_ok, trivial⟩
noncomputable def fnN648 : Tr Func := .node .leaf 319 Tryz.f319 .leaf
theorem fnN648_ok : fnN648.All FnP := ⟨trivial, fn319_ok, trivial⟩
noncomputable def fnN649 : Tr Func := .node fnN647 318 Tryz.f318 fnN648
theorem fnN649_ok : fnN649.All FnP := ⟨fnN647_ok, fn318_ok, fnN648_ok⟩
noncomputable def fnN650 : Tr Func := .node fnN645 315 Tryz.f315 fnN649
theorem fnN650_ok : fnN650.All FnP := ⟨fnN645_ok, fn315_ok, fnN649_ok⟩
noncomputable def fnN651 : Tr Func := .node .leaf 321 Tryz.f321 .leaf
theorem fnN651_ok : fnN651.All FnP := ⟨trivial, fn321_ok, trivial⟩
noncomputable def fnN652 : Tr Func := .node fnN651 322 Tryz.f322 .leaf
theorem fnN652_ok : fnN652.All FnP := ⟨fnN651_ok, fn322_ok, trivial⟩
noncomputable def fnN653 : Tr Func := .node .leaf 324 Tryz.f324 .leaf
theorem fnN653_ok : fnN653.All FnP := ⟨trivial, fn324_ok, trivial⟩
noncomputable def fnN654 : Tr Func := .node fnN653 325 Tryz.f325 .leaf
theorem fnN654_ok : fnN654.All FnP := ⟨fnN653_ok, fn325_ok, trivial⟩
noncomputable def fnN655 : Tr Func := .node fnN652 323 Tryz.f323 fnN654
theorem fnN655_ok : fnN655.All FnP := ⟨fnN652_ok, fn323_ok, fnN654_ok⟩
noncomputable def fnN656 : Tr Func := .node .leaf 327 Tryz.f327 .leaf
theorem fnN656_ok : fnN656.All FnP := ⟨trivial, fn327_ok, trivial⟩
noncomputable def fnN657 : Tr Func := .node fnN656 328 Tryz.f328 .leaf
theorem fnN657_ok : fnN657.All FnP := ⟨fnN656_ok, fn328_ok, trivial⟩
noncomputable def fnN658 : Tr Func := .node .leaf 330 Tryz.f330 .leaf
theorem fnN658_ok : fnN658.All FnP := ⟨trivial, fn330_ok, trivial⟩
noncomputable def fnN659 : Tr Func := .node fnN657 329 Tryz.f329 fnN658
theorem fnN659_ok : fnN659.All FnP := ⟨fnN657_ok, fn329_ok, fnN658_ok⟩
noncomputable def fnN660 : Tr Func := .node fnN655 326 Tryz.f326 fnN659
theorem fnN660_ok : fnN660.All FnP := ⟨fnN655_ok, fn326_ok, fnN659_ok⟩
noncomputable def fnN661 : Tr Func := .node fnN650 320 Tryz.f320 fnN660
theorem fnN661_ok : fnN661.All FnP := ⟨fnN650_ok, fn320_ok, fnN660_ok⟩
noncomputable def fnN662 : Tr Func := .node .leaf 332 Tryz.f332 .leaf
theorem fnN662_ok : fnN662.All FnP := ⟨trivial, fn332_ok, trivial⟩
noncomputable def fnN663 : Tr Func := .node fnN662 333 Tryz.f333 .leaf
theorem fnN663_ok : fnN663.All FnP := ⟨fnN662_ok, fn333_ok, trivial⟩
noncomputable def fnN664 : Tr Func := .node .leaf 335 Tryz.f335 .leaf
theorem fnN664_ok : fnN664.All FnP := ⟨trivial, fn335_ok, trivial⟩
noncomputable def fnN665 : Tr Func := .node fnN664 336 Tryz.f336 .leaf
theorem fnN665_ok : fnN665.All FnP := ⟨fnN664_ok, fn336_ok, trivial⟩
noncomputable def fnN666 : Tr Func := .node fnN663 334 Tryz.f334 fnN665
theorem fnN666_ok : fnN666.All FnP := ⟨fnN663_ok, fn334_ok, fnN665_ok⟩
noncomputable def fnN667 : Tr Func := .node .leaf 338 Tryz.f338 .leaf
theorem fnN667_ok : fnN667.All FnP := ⟨trivial, fn338_ok, trivial⟩
noncomputable def fnN668 : Tr Func := .node fnN667 339 Tryz.f339 .leaf
theorem fnN668_ok : fnN668.All FnP := ⟨fnN667_ok, fn339_ok, trivial⟩
noncomputable def fnN669 : Tr Func := .node .leaf 341 Tryz.f341 .leaf
theorem fnN669_ok : fnN669.All FnP := ⟨trivial, fn341_ok, trivial⟩
noncomputable def fnN670 : Tr Func := .node fnN668 340 Tryz.f340 fnN669
theorem fnN670_ok : fnN670.All FnP := ⟨fnN668_ok, fn340_ok, fnN669_ok⟩
noncomputable def fnN671 : Tr Func := .node fnN666 337 Tryz.f337 fnN670
theorem fnN671_ok : fnN671.All FnP := ⟨fnN666_ok, fn337_ok, fnN670_ok⟩
noncomputable def fnN672 : Tr Func := .node .leaf 343 Tryz.f343 .leaf
theorem fnN672_ok : fnN672.All FnP := ⟨trivial, fn343_ok, trivial⟩
noncomputable def fnN673 : Tr Func := .node fnN672 344 Tryz.f344 .leaf
theorem fnN673_ok : fnN673.All FnP := ⟨fnN672_ok, fn344_ok, trivial⟩
noncomputable def fnN674 : Tr Func := .node .leaf 346 Tryz.f346 .leaf
theorem fnN674_ok : fnN674.All FnP := ⟨trivial, fn346_ok, trivial⟩
noncomputable def fnN675 : Tr Func := .node fnN674 347 Tryz.f347 .leaf
theorem fnN675_ok : fnN675.All FnP := ⟨fnN674_ok, fn347_ok, trivial⟩
noncomputable def fnN676 : Tr Func := .node fnN673 345 Tryz.f345 fnN675
theorem fnN676_ok : fnN676.All FnP := ⟨fnN673_ok, fn345_ok, fnN675_ok⟩
noncomputable def fnN677 : Tr Func := .node .leaf 349 Tryz.f349 .leaf
theorem fnN677_ok : fnN677.All FnP := ⟨trivial, fn349_ok, trivial⟩
noncomputable def fnN678 : Tr Func := .node fnN677 350 Tryz.f350 .leaf
theorem fnN678_ok : fnN678.All FnP := ⟨fnN677_ok, fn350_ok, trivial⟩
noncomputable def fnN679 : Tr Func := .node .leaf 352 Tryz.f352 .leaf
theorem fnN679_ok : fnN679.All FnP := ⟨trivial, fn352_ok, trivial⟩
noncomputable def fnN680 : Tr Func := .node fnN678 351 Tryz.f351 fnN679
theorem fnN680_ok : fnN680.All FnP := ⟨fnN678_ok, fn351_ok, fnN679_ok⟩
noncomputable def fnN681 : Tr Func := .node fnN676 348 Tryz.f348 fnN680
theorem fnN681_ok : fnN681.All FnP := ⟨fnN676_ok, fn348_ok, fnN680_ok⟩
noncomputable def fnN682 : Tr Func := .node fnN671 342 Tryz.f342 fnN681
theorem fnN682_ok : fnN682.All FnP := ⟨fnN671_ok, fn342_ok, fnN681_ok⟩
noncomputable def fnN683 : Tr Func := .node fnN661 331 Tryz.f331 fnN682
theorem fnN683_ok : fnN683.All FnP := ⟨fnN661_ok, fn331_ok, fnN682_ok⟩
noncomputable def fnN684 : Tr Func := .node fnN640 309 Tryz.f309 fnN683
theorem fnN684_ok : fnN684.All FnP := ⟨fnN640_ok, fn309_ok, fnN683_ok⟩
noncomputable def fnN685 : Tr Func := .node fnN597 265 Tryz.f265 fnN684
theorem fnN685_ok : fnN685.All FnP := ⟨fnN597_ok, fn265_ok, fnN684_ok⟩
noncomputable def fnN686 : Tr Func := .node fnN509 176 Tryz.f176 fnN685
theorem fnN686_ok : fnN686.All FnP := ⟨fnN509_ok, fn176_ok, fnN685_ok⟩
noncomputable def fnTree : Tr Func := fnN686
theorem fnTree_ok : ∀ f fn, fnTree.find f = some fn → Tryz.prog.funcs[f]? = some fn := fun _ _ h => Tr.find_all (p := FnP) fnTree fnN686_ok h
theorem mixed : Tryz.prog.follows .mixedOrders = true := by kernel_rfl
end Go.Xa
