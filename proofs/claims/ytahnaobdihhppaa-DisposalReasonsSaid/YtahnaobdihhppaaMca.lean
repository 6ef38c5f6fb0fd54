/- Texts VmTbl TwA TwB TwG TwI SdA DpA DpB, joined; what is not needed is left out. -/
import Derived.Test.YtahnaobdihhppaaProg
import Derived.Test.YtahnaobdihhppaaMgH
section
/- The types of the seat, as the evaluator looks them up (written by tbl.py). -/
namespace Go.Proofs.Try
open Go Go.Vm
def tbl : List (Nat × TI) := [
  (1, ⟨Go.TypeDesc.func { toList := [] } { toList := [] } Bool.false, 1, 8, [.junk]⟩),
  (2, ⟨Go.TypeDesc.int Go.IntKind.i64, 1, 8, [.d (.int .i64 0)]⟩),
  (3, ⟨Go.TypeDesc.int Go.IntKind.i64, 1, 8, [.d (.int .i64 0)]⟩),
  (4, ⟨Go.TypeDesc.bool, 1, 1, [.d (.bool false)]⟩),
  (5, ⟨Go.TypeDesc.int Go.IntKind.u8, 1, 1, [.d (.int .u8 0)]⟩),
  (6, ⟨Go.TypeDesc.int Go.IntKind.u8, 1, 1, [.d (.int .u8 0)]⟩),
  (7, ⟨Go.TypeDesc.struct { toList := [{ name := "x", type := 2, offset := 0, embedded := Bool.false, tag := "", pkgPath := "runtime", byteOffset := 0 }, { name := "y", type := 3, offset := 1, embedded := Bool.false, tag := "", pkgPath := "runtime", byteOffset := 8 }, { name := "signed", type := 4, offset := 2, embedded := Bool.false, tag := "", pkgPath := "runtime", byteOffset := 16 }, { name := "code", type := 6, offset := 3, embedded := Bool.false, tag := "", pkgPath := "runtime", byteOffset := 17 }] }, 4, 24, [.d (.int .i64 0), .d (.int .i64 0), .d (.bool false), .d (.int .u8 0)]⟩),
  (8, ⟨Go.TypeDesc.struct { toList := [{ name := "x", type := 2, offset := 0, embedded := Bool.false, tag := "", pkgPath := "runtime", byteOffset := 0 }, { name := "y", type := 3, offset := 1, embedded := Bool.false, tag := "", pkgPath := "runtime", byteOffset := 8 }, { name := "signed", type := 4, offset := 2, embedded := Bool.false, tag := "", pkgPath := "runtime", byteOffset := 16 }, { name := "code", type := 6, offset := 3, embedded := Bool.false, tag := "", pkgPath := "runtime", byteOffset := 17 }] }, 4, 24, [.d (.int .i64 0), .d (.int .i64 0), .d (.bool false), .d (.int .u8 0)]⟩),
  (9, ⟨Go.TypeDesc.string, 1, 16, [.d (.str ⟨⟨[]⟩⟩)]⟩),
  (10, ⟨Go.TypeDesc.string, 1, 16, [.d (.str ⟨⟨[]⟩⟩)]⟩),
  (11, ⟨Go.TypeDesc.string, 1, 16, [.d (.str ⟨⟨[]⟩⟩)]⟩),
  (12, ⟨Go.TypeDesc.int Go.IntKind.u64, 1, 8, [.d (.int .u64 0)]⟩),
  (15, ⟨Go.TypeDesc.pointer 180, 1, 8, [.junk]⟩),
  (16, ⟨Go.TypeDesc.pointer 183, 1, 8, [.junk]⟩),
  (17, ⟨Go.TypeDesc.pointer 193, 1, 8, [.junk]⟩),
  (21, ⟨Go.TypeDesc.int Go.IntKind.i32, 1, 4, [.d (.int .i32 0)]⟩),
  (22, ⟨Go.TypeDesc.slice 60, 1, 24, [.nil 6]⟩),
  (23, ⟨Go.TypeDesc.slice 69, 1, 24, [.nil 3]⟩),
  (24, ⟨Go.TypeDesc.slice 81, 1, 24, [.nil 3]⟩),
  (25, ⟨Go.TypeDesc.slice 3, 1, 24, [.nil 1]⟩),
  (26, ⟨Go.TypeDesc.struct { toList := [{ name := "Pits", type := 22, offset := 0, embedded := Bool.false, tag := "", pkgPath := "", byteOffset := 0 }, { name := "Bulking", type := 23, offset := 1, embedded := Bool.false, tag := "", pkgPath := "", byteOffset := 24 }, { name := "Deposits", type := 24, offset := 2, embedded := Bool.false, tag := "", pkgPath := "", byteOffset := 48 }, { name := "Carry", type := 25, offset := 3, embedded := Bool.false, tag := "", pkgPath := "", byteOffset := 72 }] }, 4, 96, [.nil 6, .nil 3, .nil 3, .nil 1]⟩),
  (27, ⟨Go.TypeDesc.struct { toList := [{ name := "Pits", type := 22, offset := 0, embedded := Bool.false, tag := "", pkgPath := "", byteOffset := 0 }, { name := "Bulking", type := 23, offset := 1, embedded := Bool.false, tag := "", pkgPath := "", byteOffset := 24 }, { name := "Deposits", type := 24, offset := 2, embedded := Bool.false, tag := "", pkgPath := "", byteOffset := 48 }, { name := "Carry", type := 25, offset := 3, embedded := Bool.false, tag := "", pkgPath := "", byteOffset := 72 }] }, 4, 96, [.nil 6, .nil 3, .nil 3, .nil 1]⟩),
  (28, ⟨Go.TypeDesc.struct { toList := [{ name := "Number", type := 3, offset := 0, embedded := Bool.false, tag := "", pkgPath := "", byteOffset := 0 }, { name := "Bed", type := 3, offset := 1, embedded := Bool.false, tag := "", pkgPath := "", byteOffset := 8 }, { name := "Overflow", type := 3, offset := 2, embedded := Bool.false, tag := "", pkgPath := "", byteOffset := 16 }, { name := "Soil", type := 9, offset := 3, embedded := Bool.false, tag := "", pkgPath := "", byteOffset := 24 }, { name := "Class", type := 3, offset := 4, embedded := Bool.false, tag := "", pkgPath := "", byteOffset := 40 }] }, 5, 48, [.d (.int .i64 0), .d (.int .i64 0), .d (.int .i64 0), .d (.str ⟨⟨[]⟩⟩), .d (.int .i64 0)]⟩),
  (29, ⟨Go.TypeDesc.struct { toList := [{ name := "Number", type := 3, offset := 0, embedded := Bool.false, tag := "", pkgPath := "", byteOffset := 0 }, { name := "Bed", type := 3, offset := 1, embedded := Bool.false, tag := "", pkgPath := "", byteOffset := 8 }, { name := "Overflow", type := 3, offset := 2, embedded := Bool.false, tag := "", pkgPath := "", byteOffset := 16 }, { name := "Soil", type := 9, offset := 3, embedded := Bool.false, tag := "", pkgPath := "", byteOffset := 24 }, { name := "Class", type := 3, offset := 4, embedded := Bool.false, tag := "", pkgPath := "", byteOffset := 40 }] }, 5, 48, [.d (.int .i64 0), .d (.int .i64 0), .d (.int .i64 0), .d (.str ⟨⟨[]⟩⟩), .d (.int .i64 0)]⟩),
  (30, ⟨Go.TypeDesc.func { toList := [] } { toList := [4] } Bool.false, 1, 8, [.junk]⟩),
  (31, ⟨Go.TypeDesc.func { toList := [27] } { toList := [4] } Bool.false, 1, 8, [.junk]⟩),
  (32, ⟨Go.TypeDesc.int Go.IntKind.i64, 1, 8, [.d (.int .i64 0)]⟩),
  (34, ⟨Go.TypeDesc.func { toList := [27, 29] } { toList := [3, 3, 32] } Bool.false, 1, 8, [.junk]⟩),
  (35, ⟨Go.TypeDesc.func { toList := [27] } { toList := [27] } Bool.false, 1, 8, [.junk]⟩),
  (36, ⟨Go.TypeDesc.func { toList := [27, 29] } { toList := [3] } Bool.false, 1, 8, [.junk]⟩),
  (37, ⟨Go.TypeDesc.func { toList := [27, 29] } { toList := [32] } Bool.false, 1, 8, [.junk]⟩),
  (39, ⟨Go.TypeDesc.func { toList := [27, 29, 3] } { toList := [3, 3] } Bool.false, 1, 8, [.junk]⟩),
  (40, ⟨Go.TypeDesc.func { toList := [23, 9] } { toList := [3] } Bool.false, 1, 8, [.junk]⟩),
  (41, ⟨Go.TypeDesc.func { toList := [27, 29] } { toList := [4] } Bool.false, 1, 8, [.junk]⟩),
  (43, ⟨Go.TypeDesc.func { toList := [27, 29, 9] } { toList := [27, 32] } Bool.false, 1, 8, [.junk]⟩),
  (44, ⟨Go.TypeDesc.func { toList := [27, 29, 9] } { toList := [3] } Bool.false, 1, 8, [.junk]⟩),
  (45, ⟨Go.TypeDesc.func { toList := [27, 27] } { toList := [4] } Bool.false, 1, 8, [.junk]⟩),
  (46, ⟨Go.TypeDesc.func { toList := [27, 29, 9] } { toList := [27] } Bool.false, 1, 8, [.junk]⟩),
  (47, ⟨Go.TypeDesc.func { toList := [27] } { toList := [32] } Bool.false, 1, 8, [.junk]⟩),
  (48, ⟨Go.TypeDesc.func { toList := [27, 29, 9] } { toList := [4] } Bool.false, 1, 8, [.junk]⟩),
  (49, ⟨Go.TypeDesc.func { toList := [22, 23] } { toList := [27, 32] } Bool.false, 1, 8, [.junk]⟩),
  (50, ⟨Go.TypeDesc.func { toList := [27] } { toList := [3] } Bool.false, 1, 8, [.junk]⟩),
  (51, ⟨Go.TypeDesc.slice 58, 1, 24, [.nil 2]⟩),
  (53, ⟨Go.TypeDesc.func { toList := [27, 29] } { toList := [51, 32] } Bool.false, 1, 8, [.junk]⟩),
  (55, ⟨Go.TypeDesc.func { toList := [27, 29] } { toList := [9, 32] } Bool.false, 1, 8, [.junk]⟩),
  (56, ⟨Go.TypeDesc.func { toList := [27, 29, 3] } { toList := [3] } Bool.false, 1, 8, [.junk]⟩),
  (57, ⟨Go.TypeDesc.struct { toList := [{ name := "Pit", type := 9, offset := 0, embedded := Bool.false, tag := "", pkgPath := "", byteOffset := 0 }, { name := "Reason", type := 32, offset := 1, embedded := Bool.false, tag := "", pkgPath := "", byteOffset := 16 }] }, 2, 24, [.d (.str ⟨⟨[]⟩⟩), .d (.int .i64 0)]⟩),
  (58, ⟨Go.TypeDesc.struct { toList := [{ name := "Pit", type := 9, offset := 0, embedded := Bool.false, tag := "", pkgPath := "", byteOffset := 0 }, { name := "Reason", type := 32, offset := 1, embedded := Bool.false, tag := "", pkgPath := "", byteOffset := 16 }] }, 2, 24, [.d (.str ⟨⟨[]⟩⟩), .d (.int .i64 0)]⟩),
  (59, ⟨Go.TypeDesc.struct { toList := [{ name := "Name", type := 9, offset := 0, embedded := Bool.false, tag := "", pkgPath := "", byteOffset := 0 }, { name := "Area", type := 3, offset := 1, embedded := Bool.false, tag := "", pkgPath := "", byteOffset := 16 }, { name := "Base", type := 3, offset := 2, embedded := Bool.false, tag := "", pkgPath := "", byteOffset := 24 }, { name := "Top", type := 3, offset := 3, embedded := Bool.false, tag := "", pkgPath := "", byteOffset := 32 }, { name := "Classes", type := 25, offset := 4, embedded := Bool.false, tag := "", pkgPath := "", byteOffset := 40 }, { name := "Price", type := 3, offset := 5, embedded := Bool.false, tag := "", pkgPath := "", byteOffset := 64 }] }, 6, 72, [.d (.str ⟨⟨[]⟩⟩), .d (.int .i64 0), .d (.int .i64 0), .d (.int .i64 0), .nil 1, .d (.int .i64 0)]⟩),
  (60, ⟨Go.TypeDesc.struct { toList := [{ name := "Name", type := 9, offset := 0, embedded := Bool.false, tag := "", pkgPath := "", byteOffset := 0 }, { name := "Area", type := 3, offset := 1, embedded := Bool.false, tag := "", pkgPath := "", byteOffset := 16 }, { name := "Base", type := 3, offset := 2, embedded := Bool.false, tag := "", pkgPath := "", byteOffset := 24 }, { name := "Top", type := 3, offset := 3, embedded := Bool.false, tag := "", pkgPath := "", byteOffset := 32 }, { name := "Classes", type := 25, offset := 4, embedded := Bool.false, tag := "", pkgPath := "", byteOffset := 40 }, { name := "Price", type := 3, offset := 5, embedded := Bool.false, tag := "", pkgPath := "", byteOffset := 64 }] }, 6, 72, [.d (.str ⟨⟨[]⟩⟩), .d (.int .i64 0), .d (.int .i64 0), .d (.int .i64 0), .nil 1, .d (.int .i64 0)]⟩),
  (61, ⟨Go.TypeDesc.slice 29, 1, 24, [.nil 5]⟩),
  (62, ⟨Go.TypeDesc.func { toList := [61, 3, 3] } { toList := [4] } Bool.false, 1, 8, [.junk]⟩),
  (63, ⟨Go.TypeDesc.array 30 3, 30, 240, [.d (.int .i64 0), .d (.int .i64 0), .d (.int .i64 0), .d (.int .i64 0), .d (.int .i64 0), .d (.int .i64 0), .d (.int .i64 0), .d (.int .i64 0), .d (.int .i64 0), .d (.int .i64 0), .d (.int .i64 0), .d (.int .i64 0), .d (.int .i64 0), .d (.int .i64 0), .d (.int .i64 0), .d (.int .i64 0), .d (.int .i64 0), .d (.int .i64 0), .d (.int .i64 0), .d (.int .i64 0), .d (.int .i64 0), .d (.int .i64 0), .d (.int .i64 0), .d (.int .i64 0), .d (.int .i64 0), .d (.int .i64 0), .d (.int .i64 0), .d (.int .i64 0), .d (.int .i64 0), .d (.int .i64 0)]⟩),
  (65, ⟨Go.TypeDesc.func { toList := [27, 9] } { toList := [3, 32] } Bool.false, 1, 8, [.junk]⟩),
  (66, ⟨Go.TypeDesc.struct { toList := [{ name := "Num", type := 3, offset := 0, embedded := Bool.false, tag := "", pkgPath := "", byteOffset := 0 }, { name := "Den", type := 3, offset := 1, embedded := Bool.false, tag := "", pkgPath := "", byteOffset := 8 }] }, 2, 16, [.d (.int .i64 0), .d (.int .i64 0)]⟩),
  (67, ⟨Go.TypeDesc.struct { toList := [{ name := "Num", type := 3, offset := 0, embedded := Bool.false, tag := "", pkgPath := "", byteOffset := 0 }, { name := "Den", type := 3, offset := 1, embedded := Bool.false, tag := "", pkgPath := "", byteOffset := 8 }] }, 2, 16, [.d (.int .i64 0), .d (.int .i64 0)]⟩),
  (68, ⟨Go.TypeDesc.struct { toList := [{ name := "Soil", type := 9, offset := 0, embedded := Bool.false, tag := "", pkgPath := "", byteOffset := 0 }, { name := "Factor", type := 67, offset := 1, embedded := Bool.false, tag := "", pkgPath := "", byteOffset := 16 }] }, 3, 32, [.d (.str ⟨⟨[]⟩⟩), .d (.int .i64 0), .d (.int .i64 0)]⟩),
  (69, ⟨Go.TypeDesc.struct { toList := [{ name := "Soil", type := 9, offset := 0, embedded := Bool.false, tag := "", pkgPath := "", byteOffset := 0 }, { name := "Factor", type := 67, offset := 1, embedded := Bool.false, tag := "", pkgPath := "", byteOffset := 16 }] }, 3, 32, [.d (.str ⟨⟨[]⟩⟩), .d (.int .i64 0), .d (.int .i64 0)]⟩),
  (70, ⟨Go.TypeDesc.func { toList := [27, 61] } { toList := [4] } Bool.false, 1, 8, [.junk]⟩),
  (71, ⟨Go.TypeDesc.struct { toList := [{ name := "Bed", type := 3, offset := 0, embedded := Bool.false, tag := "", pkgPath := "", byteOffset := 0 }, { name := "Overflow", type := 3, offset := 1, embedded := Bool.false, tag := "", pkgPath := "", byteOffset := 8 }, { name := "Bulked", type := 3, offset := 2, embedded := Bool.false, tag := "", pkgPath := "", byteOffset := 16 }, { name := "Placed", type := 3, offset := 3, embedded := Bool.false, tag := "", pkgPath := "", byteOffset := 24 }] }, 4, 32, [.d (.int .i64 0), .d (.int .i64 0), .d (.int .i64 0), .d (.int .i64 0)]⟩),
  (72, ⟨Go.TypeDesc.struct { toList := [{ name := "Bed", type := 3, offset := 0, embedded := Bool.false, tag := "", pkgPath := "", byteOffset := 0 }, { name := "Overflow", type := 3, offset := 1, embedded := Bool.false, tag := "", pkgPath := "", byteOffset := 8 }, { name := "Bulked", type := 3, offset := 2, embedded := Bool.false, tag := "", pkgPath := "", byteOffset := 16 }, { name := "Placed", type := 3, offset := 3, embedded := Bool.false, tag := "", pkgPath := "", byteOffset := 24 }] }, 4, 32, [.d (.int .i64 0), .d (.int .i64 0), .d (.int .i64 0), .d (.int .i64 0)]⟩),
  (74, ⟨Go.TypeDesc.func { toList := [27, 61] } { toList := [72, 32] } Bool.false, 1, 8, [.junk]⟩),
  (75, ⟨Go.TypeDesc.func { toList := [27, 61, 3, 4] } { toList := [3] } Bool.false, 1, 8, [.junk]⟩),
  (76, ⟨Go.TypeDesc.func { toList := [27, 61] } { toList := [72] } Bool.false, 1, 8, [.junk]⟩),
  (78, ⟨Go.TypeDesc.func { toList := [27, 9] } { toList := [24, 32] } Bool.false, 1, 8, [.junk]⟩),
  (79, ⟨Go.TypeDesc.func { toList := [22, 9] } { toList := [3] } Bool.false, 1, 8, [.junk]⟩),
  (80, ⟨Go.TypeDesc.struct { toList := [{ name := "Batch", type := 3, offset := 0, embedded := Bool.false, tag := "", pkgPath := "", byteOffset := 0 }, { name := "Pit", type := 9, offset := 1, embedded := Bool.false, tag := "", pkgPath := "", byteOffset := 8 }, { name := "Volume", type := 3, offset := 2, embedded := Bool.false, tag := "", pkgPath := "", byteOffset := 24 }] }, 3, 32, [.d (.int .i64 0), .d (.str ⟨⟨[]⟩⟩), .d (.int .i64 0)]⟩),
  (81, ⟨Go.TypeDesc.struct { toList := [{ name := "Batch", type := 3, offset := 0, embedded := Bool.false, tag := "", pkgPath := "", byteOffset := 0 }, { name := "Pit", type := 9, offset := 1, embedded := Bool.false, tag := "", pkgPath := "", byteOffset := 8 }, { name := "Volume", type := 3, offset := 2, embedded := Bool.false, tag := "", pkgPath := "", byteOffset := 24 }] }, 3, 32, [.d (.int .i64 0), .d (.str ⟨⟨[]⟩⟩), .d (.int .i64 0)]⟩),
  (82, ⟨Go.TypeDesc.func { toList := [27, 3] } { toList := [3] } Bool.false, 1, 8, [.junk]⟩),
  (83, ⟨Go.TypeDesc.func { toList := [3, 3] } { toList := [3] } Bool.false, 1, 8, [.junk]⟩),
  (84, ⟨Go.TypeDesc.func { toList := [24, 24] } { toList := [4] } Bool.false, 1, 8, [.junk]⟩),
  (85, ⟨Go.TypeDesc.func { toList := [27, 9] } { toList := [4] } Bool.false, 1, 8, [.junk]⟩),
  (86, ⟨Go.TypeDesc.slice 130, 1, 24, [.nil 3]⟩),
  (87, ⟨Go.TypeDesc.struct { toList := [{ name := "Batches", type := 25, offset := 0, embedded := Bool.false, tag := "", pkgPath := "", byteOffset := 0 }, { name := "Pits", type := 25, offset := 1, embedded := Bool.false, tag := "", pkgPath := "", byteOffset := 24 }] }, 2, 48, [.nil 1, .nil 1]⟩),
  (88, ⟨Go.TypeDesc.struct { toList := [{ name := "Batches", type := 25, offset := 0, embedded := Bool.false, tag := "", pkgPath := "", byteOffset := 0 }, { name := "Pits", type := 25, offset := 1, embedded := Bool.false, tag := "", pkgPath := "", byteOffset := 24 }] }, 2, 48, [.nil 1, .nil 1]⟩),
  (89, ⟨Go.TypeDesc.struct { toList := [{ name := "Allots", type := 86, offset := 0, embedded := Bool.false, tag := "", pkgPath := "", byteOffset := 0 }, { name := "Cost", type := 3, offset := 1, embedded := Bool.false, tag := "", pkgPath := "", byteOffset := 24 }, { name := "Tariff", type := 88, offset := 2, embedded := Bool.false, tag := "", pkgPath := "", byteOffset := 32 }] }, 4, 80, [.nil 3, .d (.int .i64 0), .nil 1, .nil 1]⟩),
  (90, ⟨Go.TypeDesc.struct { toList := [{ name := "Allots", type := 86, offset := 0, embedded := Bool.false, tag := "", pkgPath := "", byteOffset := 0 }, { name := "Cost", type := 3, offset := 1, embedded := Bool.false, tag := "", pkgPath := "", byteOffset := 24 }, { name := "Tariff", type := 88, offset := 2, embedded := Bool.false, tag := "", pkgPath := "", byteOffset := 32 }] }, 4, 80, [.nil 3, .d (.int .i64 0), .nil 1, .nil 1]⟩),
  (91, ⟨Go.TypeDesc.struct { toList := [{ name := "Batches", type := 61, offset := 0, embedded := Bool.false, tag := "", pkgPath := "", byteOffset := 0 }, { name := "Other", type := 86, offset := 1, embedded := Bool.false, tag := "", pkgPath := "", byteOffset := 24 }, { name := "Freight", type := 90, offset := 2, embedded := Bool.false, tag := "", pkgPath := "", byteOffset := 48 }] }, 6, 128, [.nil 5, .nil 3, .nil 3, .d (.int .i64 0), .nil 1, .nil 1]⟩),
  (92, ⟨Go.TypeDesc.struct { toList := [{ name := "Batches", type := 61, offset := 0, embedded := Bool.false, tag := "", pkgPath := "", byteOffset := 0 }, { name := "Other", type := 86, offset := 1, embedded := Bool.false, tag := "", pkgPath := "", byteOffset := 24 }, { name := "Freight", type := 90, offset := 2, embedded := Bool.false, tag := "", pkgPath := "", byteOffset := 48 }] }, 6, 128, [.nil 5, .nil 3, .nil 3, .d (.int .i64 0), .nil 1, .nil 1]⟩),
  (93, ⟨Go.TypeDesc.func { toList := [86] } { toList := [4] } Bool.false, 1, 8, [.junk]⟩),
  (94, ⟨Go.TypeDesc.func { toList := [27, 61, 90] } { toList := [32] } Bool.false, 1, 8, [.junk]⟩),
  (95, ⟨Go.TypeDesc.func { toList := [27, 61] } { toList := [3] } Bool.false, 1, 8, [.junk]⟩),
  (96, ⟨Go.TypeDesc.func { toList := [27, 61, 90] } { toList := [4] } Bool.false, 1, 8, [.junk]⟩),
  (97, ⟨Go.TypeDesc.func { toList := [27, 61, 86] } { toList := [4] } Bool.false, 1, 8, [.junk]⟩),
  (99, ⟨Go.TypeDesc.func { toList := [27, 61] } { toList := [90, 32] } Bool.false, 1, 8, [.junk]⟩),
  (100, ⟨Go.TypeDesc.func { toList := [27, 86] } { toList := [3] } Bool.false, 1, 8, [.junk]⟩),
  (101, ⟨Go.TypeDesc.func { toList := [27, 92] } { toList := [4] } Bool.false, 1, 8, [.junk]⟩),
  (102, ⟨Go.TypeDesc.func { toList := [] } { toList := [27] } Bool.false, 1, 8, [.junk]⟩),
  (103, ⟨Go.TypeDesc.func { toList := [] } { toList := [61] } Bool.false, 1, 8, [.junk]⟩),
  (104, ⟨Go.TypeDesc.func { toList := [25] } { toList := [25] } Bool.false, 1, 8, [.junk]⟩),
  (105, ⟨Go.TypeDesc.func { toList := [27, 29, 25] } { toList := [3] } Bool.false, 1, 8, [.junk]⟩),
  (106, ⟨Go.TypeDesc.func { toList := [27, 9] } { toList := [3] } Bool.false, 1, 8, [.junk]⟩),
  (107, ⟨Go.TypeDesc.func { toList := [27, 3] } { toList := [4] } Bool.false, 1, 8, [.junk]⟩),
  (108, ⟨Go.TypeDesc.func { toList := [27, 60, 3, 3] } { toList := [32] } Bool.false, 1, 8, [.junk]⟩),
  (109, ⟨Go.TypeDesc.func { toList := [24, 3] } { toList := [4] } Bool.false, 1, 8, [.junk]⟩),
  (110, ⟨Go.TypeDesc.func { toList := [25, 25] } { toList := [4] } Bool.false, 1, 8, [.junk]⟩),
  (111, ⟨Go.TypeDesc.func { toList := [22, 112, 113] } { toList := [32] } Bool.false, 1, 8, [.junk]⟩),
  (112, ⟨Go.TypeDesc.func { toList := [60] } { toList := [9] } Bool.false, 1, 8, [.junk]⟩),
  (113, ⟨Go.TypeDesc.func { toList := [60] } { toList := [32] } Bool.false, 1, 8, [.junk]⟩),
  (114, ⟨Go.TypeDesc.func { toList := [23, 115, 116] } { toList := [32] } Bool.false, 1, 8, [.junk]⟩),
  (115, ⟨Go.TypeDesc.func { toList := [69] } { toList := [9] } Bool.false, 1, 8, [.junk]⟩),
  (116, ⟨Go.TypeDesc.func { toList := [69] } { toList := [32] } Bool.false, 1, 8, [.junk]⟩),
  (117, ⟨Go.TypeDesc.func { toList := [3, 3, 3] } { toList := [4] } Bool.false, 1, 8, [.junk]⟩),
  (118, ⟨Go.TypeDesc.func { toList := [60, 22] } { toList := [3] } Bool.false, 1, 8, [.junk]⟩),
  (119, ⟨Go.TypeDesc.func { toList := [60] } { toList := [3] } Bool.false, 1, 8, [.junk]⟩),
  (120, ⟨Go.TypeDesc.func { toList := [60, 3] } { toList := [4] } Bool.false, 1, 8, [.junk]⟩),
  (121, ⟨Go.TypeDesc.func { toList := [27, 9, 119] } { toList := [3, 32] } Bool.false, 1, 8, [.junk]⟩),
  (122, ⟨Go.TypeDesc.func { toList := [27, 61, 3, 123] } { toList := [32] } Bool.false, 1, 8, [.junk]⟩),
  (123, ⟨Go.TypeDesc.func { toList := [3] } { toList := [4] } Bool.false, 1, 8, [.junk]⟩),
  (124, ⟨Go.TypeDesc.func { toList := [61, 3] } { toList := [3] } Bool.false, 1, 8, [.junk]⟩),
  (125, ⟨Go.TypeDesc.func { toList := [27, 61, 25] } { toList := [25] } Bool.false, 1, 8, [.junk]⟩),
  (126, ⟨Go.TypeDesc.func { toList := [27, 60] } { toList := [3] } Bool.false, 1, 8, [.junk]⟩),
  (127, ⟨Go.TypeDesc.func { toList := [24, 129] } { toList := [24] } Bool.false, 1, 8, [.junk]⟩),
  (128, ⟨Go.TypeDesc.func { toList := [24] } { toList := [24] } Bool.false, 1, 8, [.junk]⟩),
  (129, ⟨Go.TypeDesc.func { toList := [81] } { toList := [4] } Bool.false, 1, 8, [.junk]⟩),
  (130, ⟨Go.TypeDesc.struct { toList := [{ name := "Batch", type := 3, offset := 0, embedded := Bool.false, tag := "", pkgPath := "", byteOffset := 0 }, { name := "Pit", type := 9, offset := 1, embedded := Bool.false, tag := "", pkgPath := "", byteOffset := 8 }, { name := "Volume", type := 3, offset := 2, embedded := Bool.false, tag := "", pkgPath := "", byteOffset := 24 }] }, 3, 32, [.d (.int .i64 0), .d (.str ⟨⟨[]⟩⟩), .d (.int .i64 0)]⟩),
  (131, ⟨Go.TypeDesc.pointer 154, 1, 8, [.junk]⟩),
  (133, ⟨Go.TypeDesc.func { toList := [27, 61] } { toList := [131, 32] } Bool.false, 1, 8, [.junk]⟩),
  (134, ⟨Go.TypeDesc.func { toList := [86] } { toList := [3] } Bool.false, 1, 8, [.junk]⟩),
  (136, ⟨Go.TypeDesc.func { toList := [88] } { toList := [3, 4] } Bool.false, 1, 8, [.junk]⟩),
  (137, ⟨Go.TypeDesc.func { toList := [4] } { toList := [32] } Bool.false, 1, 8, [.junk]⟩),
  (138, ⟨Go.TypeDesc.func { toList := [] } { toList := [86] } Bool.false, 1, 8, [.junk]⟩),
  (139, ⟨Go.TypeDesc.func { toList := [] } { toList := [88] } Bool.false, 1, 8, [.junk]⟩),
  (140, ⟨Go.TypeDesc.func { toList := [23, 141] } { toList := [3] } Bool.false, 1, 8, [.junk]⟩),
  (141, ⟨Go.TypeDesc.func { toList := [69] } { toList := [4] } Bool.false, 1, 8, [.junk]⟩),
  (142, ⟨Go.TypeDesc.func { toList := [22, 143] } { toList := [3] } Bool.false, 1, 8, [.junk]⟩),
  (143, ⟨Go.TypeDesc.func { toList := [60] } { toList := [4] } Bool.false, 1, 8, [.junk]⟩),
  (144, ⟨Go.TypeDesc.func { toList := [24, 129] } { toList := [4] } Bool.false, 1, 8, [.junk]⟩),
  (145, ⟨Go.TypeDesc.func { toList := [22] } { toList := [22] } Bool.false, 1, 8, [.junk]⟩),
  (146, ⟨Go.TypeDesc.func { toList := [23] } { toList := [23] } Bool.false, 1, 8, [.junk]⟩),
  (147, ⟨Go.TypeDesc.func { toList := [25, 3] } { toList := [4] } Bool.false, 1, 8, [.junk]⟩),
  (148, ⟨Go.TypeDesc.map 9 4, 1, 8, [.junk]⟩),
  (149, ⟨Go.TypeDesc.func { toList := [9] } { toList := [4] } Bool.false, 1, 8, [.junk]⟩),
  (150, ⟨Go.TypeDesc.map 3 4, 1, 8, [.junk]⟩),
  (151, ⟨Go.TypeDesc.func { toList := [24, 129] } { toList := [3] } Bool.false, 1, 8, [.junk]⟩),
  (152, ⟨Go.TypeDesc.slice 25, 1, 24, [.nil 1]⟩),
  (153, ⟨Go.TypeDesc.struct { toList := [{ name := "s", type := 27, offset := 0, embedded := Bool.false, tag := "", pkgPath := "draghead/disposal", byteOffset := 0 }, { name := "l", type := 61, offset := 4, embedded := Bool.false, tag := "", pkgPath := "draghead/disposal", byteOffset := 96 }, { name := "volumes", type := 25, offset := 5, embedded := Bool.false, tag := "", pkgPath := "draghead/disposal", byteOffset := 120 }, { name := "rooms", type := 25, offset := 6, embedded := Bool.false, tag := "", pkgPath := "draghead/disposal", byteOffset := 144 }, { name := "flow", type := 152, offset := 7, embedded := Bool.false, tag := "", pkgPath := "draghead/disposal", byteOffset := 168 }] }, 8, 192, [.nil 6, .nil 3, .nil 3, .nil 1, .nil 5, .nil 1, .nil 1, .nil 1]⟩),
  (154, ⟨Go.TypeDesc.struct { toList := [{ name := "s", type := 27, offset := 0, embedded := Bool.false, tag := "", pkgPath := "draghead/disposal", byteOffset := 0 }, { name := "l", type := 61, offset := 4, embedded := Bool.false, tag := "", pkgPath := "draghead/disposal", byteOffset := 96 }, { name := "volumes", type := 25, offset := 5, embedded := Bool.false, tag := "", pkgPath := "draghead/disposal", byteOffset := 120 }, { name := "rooms", type := 25, offset := 6, embedded := Bool.false, tag := "", pkgPath := "draghead/disposal", byteOffset := 144 }, { name := "flow", type := 152, offset := 7, embedded := Bool.false, tag := "", pkgPath := "draghead/disposal", byteOffset := 168 }] }, 8, 192, [.nil 6, .nil 3, .nil 3, .nil 1, .nil 5, .nil 1, .nil 1, .nil 1]⟩),
  (155, ⟨Go.TypeDesc.slice 158, 1, 24, [.nil 2]⟩),
  (156, ⟨Go.TypeDesc.func { toList := [3] } { toList := [3] } Bool.false, 1, 8, [.junk]⟩),
  (157, ⟨Go.TypeDesc.struct { toList := [{ name := "batch", type := 3, offset := 0, embedded := Bool.false, tag := "", pkgPath := "draghead/disposal", byteOffset := 0 }, { name := "pit", type := 3, offset := 1, embedded := Bool.false, tag := "", pkgPath := "draghead/disposal", byteOffset := 8 }] }, 2, 16, [.d (.int .i64 0), .d (.int .i64 0)]⟩),
  (158, ⟨Go.TypeDesc.struct { toList := [{ name := "batch", type := 3, offset := 0, embedded := Bool.false, tag := "", pkgPath := "draghead/disposal", byteOffset := 0 }, { name := "pit", type := 3, offset := 1, embedded := Bool.false, tag := "", pkgPath := "draghead/disposal", byteOffset := 8 }] }, 2, 16, [.d (.int .i64 0), .d (.int .i64 0)]⟩),
  (159, ⟨Go.TypeDesc.func { toList := [3, 3] } { toList := [4] } Bool.false, 1, 8, [.junk]⟩),
  (160, ⟨Go.TypeDesc.func { toList := [25, 123] } { toList := [4] } Bool.false, 1, 8, [.junk]⟩),
  (161, ⟨Go.TypeDesc.func { toList := [25, 83] } { toList := [] } Bool.false, 1, 8, [.junk]⟩),
  (162, ⟨Go.TypeDesc.func { toList := [25, 3] } { toList := [3] } Bool.false, 1, 8, [.junk]⟩),
  (163, ⟨Go.TypeDesc.func { toList := [5] } { toList := [4] } Bool.false, 1, 8, [.junk]⟩),
  (164, ⟨Go.TypeDesc.func { toList := [61, 165] } { toList := [3] } Bool.false, 1, 8, [.junk]⟩),
  (165, ⟨Go.TypeDesc.func { toList := [29] } { toList := [4] } Bool.false, 1, 8, [.junk]⟩),
  (166, ⟨Go.TypeDesc.func { toList := [25, 123] } { toList := [3] } Bool.false, 1, 8, [.junk]⟩),
  (167, ⟨Go.TypeDesc.func { toList := [25, 3, 83] } { toList := [] } Bool.false, 1, 8, [.junk]⟩),
  (168, ⟨Go.TypeDesc.map 3 3, 1, 8, [.junk]⟩),
  (169, ⟨Go.TypeDesc.struct { toList := [{ name := "batches", type := 168, offset := 0, embedded := Bool.false, tag := "", pkgPath := "draghead/disposal", byteOffset := 0 }, { name := "pits", type := 168, offset := 1, embedded := Bool.false, tag := "", pkgPath := "draghead/disposal", byteOffset := 8 }] }, 2, 16, [.junk, .junk]⟩),
  (170, ⟨Go.TypeDesc.struct { toList := [{ name := "batches", type := 168, offset := 0, embedded := Bool.false, tag := "", pkgPath := "draghead/disposal", byteOffset := 0 }, { name := "pits", type := 168, offset := 1, embedded := Bool.false, tag := "", pkgPath := "draghead/disposal", byteOffset := 8 }] }, 2, 16, [.junk, .junk]⟩),
  (171, ⟨Go.TypeDesc.func { toList := [] } { toList := [170] } Bool.false, 1, 8, [.junk]⟩),
  (172, ⟨Go.TypeDesc.slice 174, 1, 24, [.nil 3]⟩),
  (173, ⟨Go.TypeDesc.struct { toList := [{ name := "batch", type := 3, offset := 0, embedded := Bool.false, tag := "", pkgPath := "draghead/disposal", byteOffset := 0 }, { name := "to", type := 3, offset := 1, embedded := Bool.false, tag := "", pkgPath := "draghead/disposal", byteOffset := 8 }, { name := "from", type := 3, offset := 2, embedded := Bool.false, tag := "", pkgPath := "draghead/disposal", byteOffset := 16 }] }, 3, 24, [.d (.int .i64 0), .d (.int .i64 0), .d (.int .i64 0)]⟩),
  (174, ⟨Go.TypeDesc.struct { toList := [{ name := "batch", type := 3, offset := 0, embedded := Bool.false, tag := "", pkgPath := "draghead/disposal", byteOffset := 0 }, { name := "to", type := 3, offset := 1, embedded := Bool.false, tag := "", pkgPath := "draghead/disposal", byteOffset := 8 }, { name := "from", type := 3, offset := 2, embedded := Bool.false, tag := "", pkgPath := "draghead/disposal", byteOffset := 16 }] }, 3, 24, [.d (.int .i64 0), .d (.int .i64 0), .d (.int .i64 0)]⟩),
  (175, ⟨Go.TypeDesc.func { toList := [25, 3, 3, 83] } { toList := [] } Bool.false, 1, 8, [.junk]⟩),
  (176, ⟨Go.TypeDesc.func { toList := [25, 3, 3, 3, 83] } { toList := [] } Bool.false, 1, 8, [.junk]⟩),
  (177, ⟨Go.TypeDesc.int Go.IntKind.u64, 1, 8, [.d (.int .u64 0)]⟩),
  (178, ⟨Go.TypeDesc.func { toList := [] } { toList := [9] } Bool.false, 1, 8, [.junk]⟩),
  (181, ⟨Go.TypeDesc.array 0 16, 0, 0, []⟩),
  (184, ⟨Go.TypeDesc.func { toList := [] } { toList := [3] } Bool.false, 1, 8, [.junk]⟩),
  (185, ⟨Go.TypeDesc.int Go.IntKind.u32, 1, 4, [.d (.int .u32 0)]⟩),
  (186, ⟨Go.TypeDesc.int Go.IntKind.u8, 1, 1, [.d (.int .u8 0)]⟩),
  (187, ⟨Go.TypeDesc.int Go.IntKind.u8, 1, 1, [.d (.int .u8 0)]⟩),
  (188, ⟨Go.TypeDesc.func { toList := [194, 194] } { toList := [4] } Bool.false, 1, 8, [.junk]⟩),
  (189, ⟨Go.TypeDesc.pointer 5, 1, 8, [.junk]⟩),
  (190, ⟨Go.TypeDesc.int Go.IntKind.i32, 1, 4, [.d (.int .i32 0)]⟩),
  (191, ⟨Go.TypeDesc.int Go.IntKind.i32, 1, 4, [.d (.int .i32 0)]⟩)]
def S : Tys := lk tbl
theorem tysOk : TysOk Try.prog S := tysOk_of tbl (by kernel_rfl) (by kernel_rfl) (by kernel_rfl)
theorem mixed : Try.prog.follows .mixedOrders = true := by kernel_rfl
end Go.Proofs.Try
end

section
namespace Go.Proofs.Try
open Go Go.Vm
def outsideB (n lo hi : Int) : Bool := decide (n < lo) || decide (n > hi)
structure Mk where
  m : Int
  l : Int
end Go.Proofs.Try
end

section
namespace Go.Proofs.Try
open Go Go.Vm
set_option maxRecDepth 20000
set_option maxHeartbeats 2000000
def letterZ (c : Int) : Bool := (decide (c ≥ 97) && decide (c ≤ 122)) || (decide (c ≥ 65) && decide (c ≤ 90))
def otherZ (c : Int) : Bool := (decide (c ≥ 48) && decide (c ≤ 57)) || decide (c = 45)
def badAt (s : ByteArray) (i : Nat) : Bool := !letterZ (bAt s i) && (decide (i = 0) || !otherZ (bAt s i))
def nameB (s : ByteArray) : Bool := decide (s.size ≠ 0) && decide (s.size ≤ 12) && decide (∀ k, k < s.size → badAt s k = false)
theorem nameB_bad {s : ByteArray} {i : Nat} (h : i < s.size) (hb : badAt s i = true) : nameB s = false := by
  unfold nameB
  have : ¬ ∀ k, k < s.size → badAt s k = false := fun hk => by rw [hk i h] at hb; cases hb
  simp [this]
end Go.Proofs.Try
end

section
namespace Go.Proofs.Try
open Go Go.Vm
/-- The mean level, by recursion on the marks. -/
def meanR : List Mk → Int → Option (Int × Int)
  | [], _ => none
  | [b], t => if b.m = t then some (b.l, 1) else none
  | a :: b :: r, t => if a.m = t then some (a.l, 1) else if t < a.m then none else if t < b.m then some (a.l * (b.m - a.m) + (b.l - a.l) * (t - a.m), b.m - a.m) else meanR (b :: r) t
/-- Two fractions (or none) of one value. -/
def Fr : Option (Int × Int) → Option (Int × Int) → Prop
  | none, none => True
  | some (n, d), some (n', d') => 0 < d ∧ 0 < d' ∧ n * d' = n' * d
  | _, _ => False
theorem Fr.trans {a b c : Option (Int × Int)} (h1 : Fr a b) (h2 : Fr b c) : Fr a c := by
  match a, b, c, h1, h2 with
  | none, none, none, _, _ => trivial
  | some (n, d), some (n', d'), some (n'', d''), ⟨p1, p2, e1⟩, ⟨_, p3, e2⟩ =>
    refine ⟨p1, p3, ?_⟩
    have : (n * d'') * d' = (n'' * d) * d' := by grind
    exact Int.eq_of_mul_eq_mul_right (by omega) this
theorem meanR_pos : ∀ {l : List Mk} {t n d : Int}, l.Pairwise (fun a b => a.m < b.m) → meanR l t = some (n, d) → 0 < d
  | [], t, n, d, _, h => by cases h
  | [b], t, n, d, _, h => by
    simp only [meanR] at h
    split at h
    · simp at h; omega
    · cases h
  | a :: b :: r, t, n, d, hp, h => by
    obtain ⟨h1, h2⟩ := List.pairwise_cons.1 hp
    have hab := h1 b (List.mem_cons_self ..)
    simp only [meanR] at h
    split at h
    · simp at h; omega
    · split at h
      · cases h
      · split at h
        · simp at h; omega
        · exact meanR_pos h2 h
theorem Fr.refl {l : List Mk} {t : Int} (hp : l.Pairwise (fun a b => a.m < b.m)) : Fr (meanR l t) (meanR l t) := by
  cases h : meanR l t with
  | none => trivial
  | some x => obtain ⟨n, d⟩ := x; have := meanR_pos hp h; exact ⟨this, this, rfl⟩
end Go.Proofs.Try
end

section
namespace Go.Proofs.Try
open Go Go.Vm
set_option maxRecDepth 20000
set_option maxHeartbeats 2000000
theorem take_snoc {α : Type} {l : List α} {i : Nat} {m : α} (h : l[i]? = some m) : l.take (i + 1) = l.take i ++ [m] := by
  rw [List.take_add_one, h]; rfl
end Go.Proofs.Try
end

section
namespace Go.Proofs.Try
open Go Go.Vm
set_option maxRecDepth 20000
set_option maxHeartbeats 2000000
def iD (n : Int) : D := .int .i64 n
def seenD {α : Type} (num : α → Int) (l : List α) : List (D × D) := l.map fun x => (iD (num x), D.bool true)
theorem mget_seen {α : Type} (num : α → Int) (k : Int) : ∀ l : List α, mget (seenD num l) (iD k) = if l.any (fun y => num y == k) = true then some (.bool true) else none
  | [] => rfl
  | a :: r => by
    have ih := mget_seen num k r
    simp only [seenD, List.map_cons] at ih ⊢
    rw [mget, ih]
    by_cases h : num a = k
    · simp [keyEq, iD, h]
    · simp [keyEq, iD, h, Ne.symm h]
theorem mput_new {v : D} {x : D} : ∀ {es : List (D × D)}, mget es x = none → mput es x v = es ++ [(x, v)]
  | [], _ => rfl
  | (k, u) :: r, h => by
    rw [mget] at h
    split at h
    · cases h
    · rename_i hk
      rw [mput, if_neg hk, mput_new h]; rfl
theorem seen_snoc {α : Type} {num : α → Int} {l : List α} {i : Nat} {g : α} (hg : l[i]? = some g) (hv : mget (seenD num (l.take i)) (iD (num g)) = none) :
    mput (seenD num (l.take i)) (iD (num g)) (.bool true) = seenD num (l.take (i + 1)) := by
  rw [mput_new hv, take_snoc hg]
  simp [seenD]
end Go.Proofs.Try
end

section
namespace Go.Proofs.Try
open Go Go.Vm
set_option maxRecDepth 20000
set_option maxHeartbeats 4000000
/-! Disposal: data; names; lists of named things. -/
structure Pt where
  name : ByteArray
  area : Int
  base : Int
  top : Int
  cls : List Int
  price : Int
def ptD (p : Pt) : D := .agg [.str p.name, iD p.area, iD p.base, iD p.top, .sl 1 (p.cls.map iD), iD p.price]
structure Bk where
  soil : ByteArray
  num : Int
  den : Int
def bkD (b : Bk) : D := .agg [.str b.soil, iD b.num, iD b.den]
structure Dp where
  batch : Int
  pit : ByteArray
  vol : Int
def dpD (d : Dp) : D := .agg [iD d.batch, .str d.pit, iD d.vol]
structure Yd where
  pits : List Pt
  bulk : List Bk
  deps : List Dp
  carry : List Int
def ydD (y : Yd) : D := .agg [.sl 6 (y.pits.map ptD), .sl 3 (y.bulk.map bkD), .sl 3 (y.deps.map dpD), .sl 1 (y.carry.map iD)]
structure Bt where
  n : Int
  bed : Int
  over : Int
  soil : ByteArray
  cls : Int
def btD (b : Bt) : D := .agg [iD b.n, iD b.bed, iD b.over, .str b.soil, iD b.cls]
theorem ev_dwithin (n lo hi : Int) : Ev Try.prog 71 [iD n, iD lo, iD hi] (.bool (!outsideB n lo hi)) := by
  have e : (!outsideB n lo hi) = (decide (lo ≤ n) && decide (n ≤ hi)) := by
    rw [Bool.eq_iff_iff]; simp [outsideB]
  rw [e]
  refine ev_of_awp tysOk mixed (fn := Try.f71) Try.func71 rfl rfl rfl ?_
  conv => whnf
  repeat' (first|((with_reducible refine Split.of_true ?_);conv=>whnf)|((with_reducible refine Split.of_false ?_);conv=>whnf)|((with_reducible refine Split.neg ?_))|((with_reducible refine Split.is_true ?_ ?_);decide;conv=>whnf)|((with_reducible refine Split.is_false ?_ ?_);decide;conv=>whnf)|((with_reducible refine Split.nez (fun _=>?_) (fun _=>?_))<;>conv=>whnf)|((with_reducible refine Split.eqz (fun _=>?_) (fun _=>?_))<;>conv=>whnf)|((with_reducible refine Split.dec (fun _=>?_) (fun _=>?_))<;>conv=>whnf)|((with_reducible refine Split.mk (fun _=>?_) (fun _=>?_))<;>conv=>whnf)|((with_reducible refine Need.mk ?_ ?_);(first|omega|rfl|decide|(refine ⟨?_, ?_⟩<;>simp<;>omega)|(simp;omega));conv=>whnf)|((with_reducible refine Wr.inr ?_ ?_);(first|omega|(simp;omega));conv=>whnf)|(exfalso;first|omega|contradiction))
  · have h : n ≥ lo := by assumption
    rw [decide_eq_true (show lo ≤ n from h), Bool.true_and]; rfl
  · have h : ¬ n ≥ lo := by assumption
    rw [decide_eq_false (show ¬ lo ≤ n from h), Bool.false_and]; rfl
theorem ev_letter (c : Int) : Ev Try.prog 126 [.int .u8 c] (.bool (letterZ c)) := by
  refine ev_of_awp tysOk mixed (fn := Try.f126) Try.func126 rfl rfl rfl ?_
  conv => whnf
  repeat' (first|((with_reducible refine Split.of_true ?_);conv=>whnf)|((with_reducible refine Split.of_false ?_);conv=>whnf)|((with_reducible refine Split.neg ?_))|((with_reducible refine Split.is_true ?_ ?_);decide;conv=>whnf)|((with_reducible refine Split.is_false ?_ ?_);decide;conv=>whnf)|((with_reducible refine Split.nez (fun _=>?_) (fun _=>?_))<;>conv=>whnf)|((with_reducible refine Split.eqz (fun _=>?_) (fun _=>?_))<;>conv=>whnf)|((with_reducible refine Split.dec (fun _=>?_) (fun _=>?_))<;>conv=>whnf)|((with_reducible refine Split.mk (fun _=>?_) (fun _=>?_))<;>conv=>whnf)|((with_reducible refine Need.mk ?_ ?_);(first|omega|rfl|decide|(refine ⟨?_, ?_⟩<;>simp<;>omega)|(simp;omega));conv=>whnf)|((with_reducible refine Wr.inr ?_ ?_);(first|omega|(simp;omega));conv=>whnf)|(exfalso;first|omega|contradiction))
  all_goals (simp_all [letterZ, retOf] <;> omega)
theorem bAt_bd (s : ByteArray) (i : Nat) : 0 ≤ bAt s i ∧ bAt s i ≤ 255 := by
  unfold bAt
  split
  · rename_i b _
    have := b.toNat_lt
    omega
  · omega
theorem ev_dname (s : ByteArray) : Ev Try.prog 109 [.str s] (.bool (nameB s)) := by
  refine ev_of_awp tysOk mixed (fn := Try.f109) Try.func109 rfl rfl rfl ?_
  conv => whnf
  repeat' (first|((with_reducible refine Split.of_true ?_);conv=>whnf)|((with_reducible refine Split.of_false ?_);conv=>whnf)|((with_reducible refine Split.neg ?_))|((with_reducible refine Split.is_true ?_ ?_);decide;conv=>whnf)|((with_reducible refine Split.is_false ?_ ?_);decide;conv=>whnf)|((with_reducible refine Split.nez (fun _=>?_) (fun _=>?_))<;>conv=>whnf)|((with_reducible refine Split.eqz (fun _=>?_) (fun _=>?_))<;>conv=>whnf)|((with_reducible refine Split.dec (fun _=>?_) (fun _=>?_))<;>conv=>whnf)|((with_reducible refine Split.mk (fun _=>?_) (fun _=>?_))<;>conv=>whnf)|((with_reducible refine Need.mk ?_ ?_);(first|omega|rfl|decide|(refine ⟨?_, ?_⟩<;>simp<;>omega)|(simp;omega));conv=>whnf)|((with_reducible refine Wr.inr ?_ ?_);(first|omega|(simp;omega));conv=>whnf)|((with_reducible refine AltK.l ?_);(conv=>whnf);(first|(refine CallK.mk _ (ev_letter _) ?_));conv=>whnf)|(exfalso;first|omega|contradiction))
  · have e : nameB s = false := by
      rw [Bool.eq_false_iff]; intro h
      simp only [nameB, Bool.and_eq_true, decide_eq_true_eq] at h; omega
    rw [e]; rfl
  · have e : nameB s = false := by
      rw [Bool.eq_false_iff]; intro h
      simp only [nameB, Bool.and_eq_true, decide_eq_true_eq] at h; omega
    rw [e]; rfl
  · have hs : s.size ≤ 12 ∧ 1 ≤ s.size := by omega
    have h0 : letterZ (bAt s (Int.toNat 0)) = true := by assumption
    refine LoopK.o2 (fun i : Nat => i ≤ s.size ∧ ∀ k, k < i → badAt s k = false) (fun i => [(21, .d (.int .i64 i))]) (fun _ => []) (fun i => s.size - i) 0 ⟨by omega, fun k h => absurd h (by omega)⟩ (by refine ⟨?_, ?_, rfl⟩<;>(repeat' (first|exact True.intro|exact rfl|refine ⟨?_, ?_⟩|(intro h;cases h;done)|(intro h;exact h)|exact map_snoc|(refine own_congr ?_;simp;done)|(refine int_congr ?_;(first|omega|(simp;omega)))|(simp;done)|(refine view_congr ?_ ?_<;>(first|omega|(simp;done)|(simp;omega)))));done) ?_
    rintro i ⟨hi, hk⟩
    have up : badAt s i = false → ∀ k, k < i + 1 → badAt s k = false := fun h k hk' => by
      rcases Nat.lt_or_ge k i with h1 | h1
      · exact hk k h1
      · rw [show k = i by omega]; exact h
    by_cases hil : i < s.size
    · have hbd := bAt_bd s (i : Int).toNat
      have hz : i = 0 → letterZ (bAt s i) = true := fun h => by rw [h]; exact h0
      have hb : badAt s i = (!letterZ (bAt s i) && (decide (i = 0) || !otherZ (bAt s i))) := rfl
      cases hl : letterZ (bAt s i) with
      | true =>
        rw [hl, Bool.not_true, Bool.false_and] at hb
        have hmp : letterZ (bAt s (i : Int).toNat) = true := hl
        conv => whnf
        repeat' (first|((refine Split.is_true hmp ?_);conv=>whnf)|((with_reducible refine Split.of_true ?_);conv=>whnf)|((with_reducible refine Split.of_false ?_);conv=>whnf)|((with_reducible refine Split.neg ?_))|((with_reducible refine Split.is_true ?_ ?_);decide;conv=>whnf)|((with_reducible refine Split.is_false ?_ ?_);decide;conv=>whnf)|((with_reducible refine Split.nez (fun _=>?_) (fun _=>?_))<;>conv=>whnf)|((with_reducible refine Split.eqz (fun _=>?_) (fun _=>?_))<;>conv=>whnf)|((with_reducible refine Split.dec (fun _=>?_) (fun _=>?_))<;>conv=>whnf)|((with_reducible refine Split.mk (fun _=>?_) (fun _=>?_))<;>conv=>whnf)|((with_reducible refine Need.mk ?_ ?_);(first|omega|rfl|decide|(refine ⟨?_, ?_⟩<;>simp<;>omega)|(simp;omega));conv=>whnf)|((with_reducible refine Wr.inr ?_ ?_);(first|omega|(simp;omega));conv=>whnf)|((with_reducible refine AltK.l ?_);(conv=>whnf);(first|(refine CallK.mk _ (ev_letter _) ?_)|(refine CallK.mk _ (ev_dwithin _ _ _) ?_));conv=>whnf)|(exfalso;first|omega|contradiction))
        all_goals exact Again.au (i + 1) ⟨by omega, up hb⟩ (by omega) (by refine ⟨?_, ?_, rfl⟩<;>(repeat' (first|exact True.intro|exact rfl|refine ⟨?_, ?_⟩|(intro h;cases h;done)|(intro h;exact h)|exact map_snoc|(refine own_congr ?_;simp;done)|(refine int_congr ?_;(first|omega|(simp;omega)))|(simp;done)|(refine view_congr ?_ ?_<;>(first|omega|(simp;done)|(simp;omega)))));done)
      | false =>
        have hi0 : i ≠ 0 := fun h => by rw [hz h] at hl; cases hl
        rw [hl, Bool.not_false, Bool.true_and, decide_eq_false hi0, Bool.false_or] at hb
        have hmp : letterZ (bAt s (i : Int).toNat) = false := hl
        conv => whnf
        repeat' (first|((refine Split.is_false hmp ?_);conv=>whnf)|((with_reducible refine Split.of_true ?_);conv=>whnf)|((with_reducible refine Split.of_false ?_);conv=>whnf)|((with_reducible refine Split.neg ?_))|((with_reducible refine Split.is_true ?_ ?_);decide;conv=>whnf)|((with_reducible refine Split.is_false ?_ ?_);decide;conv=>whnf)|((with_reducible refine Split.nez (fun _=>?_) (fun _=>?_))<;>conv=>whnf)|((with_reducible refine Split.eqz (fun _=>?_) (fun _=>?_))<;>conv=>whnf)|((with_reducible refine Split.dec (fun _=>?_) (fun _=>?_))<;>conv=>whnf)|((with_reducible refine Split.mk (fun _=>?_) (fun _=>?_))<;>conv=>whnf)|((with_reducible refine Need.mk ?_ ?_);(first|omega|rfl|decide|(refine ⟨?_, ?_⟩<;>simp<;>omega)|(simp;omega));conv=>whnf)|((with_reducible refine Wr.inr ?_ ?_);(first|omega|(simp;omega));conv=>whnf)|((with_reducible refine AltK.l ?_);(conv=>whnf);(first|(refine CallK.mk _ (ev_letter _) ?_)|(refine CallK.mk _ (ev_dwithin _ _ _) ?_));conv=>whnf)|(exfalso;first|omega|contradiction))
        all_goals first
          | (refine Again.au (i + 1) ⟨by omega, up ?_⟩ (by omega) (by refine ⟨?_, ?_, rfl⟩<;>(repeat' (first|exact True.intro|exact rfl|refine ⟨?_, ?_⟩|(intro h;cases h;done)|(intro h;exact h)|exact map_snoc|(refine own_congr ?_;simp;done)|(refine int_congr ?_;(first|omega|(simp;omega)))|(simp;done)|(refine view_congr ?_ ?_<;>(first|omega|(simp;done)|(simp;omega)))));done)
             rw [hb, Bool.not_eq_false']
             first
               | (have h1 : outsideB (bAt s (i : Int).toNat) 48 57 = false := by assumption
                  have h2 : outsideB (bAt s i) 48 57 = false := h1
                  simp [outsideB] at h2
                  simp [otherZ]; omega)
               | (have h1 : bAt s (i : Int).toNat = 45 := by assumption
                  have h2 : bAt s i = 45 := h1
                  simp [otherZ, h2]))
          | (have h1 : outsideB (bAt s (i : Int).toNat) 48 57 = true := by assumption
             have h2 : outsideB (bAt s i) 48 57 = true := h1
             have h3 : bAt s (i : Int).toNat ≠ 45 := by assumption
             have h4 : bAt s i ≠ 45 := h3
             have : badAt s i = true := by
               rw [hb]; simp [outsideB] at h2; simp [otherZ]; omega
             rw [nameB_bad hil this]; rfl)
    · have e : nameB s = true := by
        simp only [nameB, Bool.and_eq_true, decide_eq_true_eq]
        exact ⟨⟨by omega, by omega⟩, fun k hk' => hk k (by omega)⟩
      rw [e]
      conv => whnf
      repeat' (first|((with_reducible refine Split.of_true ?_);conv=>whnf)|((with_reducible refine Split.of_false ?_);conv=>whnf)|((with_reducible refine Split.neg ?_))|((with_reducible refine Split.is_true ?_ ?_);decide;conv=>whnf)|((with_reducible refine Split.is_false ?_ ?_);decide;conv=>whnf)|((with_reducible refine Split.nez (fun _=>?_) (fun _=>?_))<;>conv=>whnf)|((with_reducible refine Split.eqz (fun _=>?_) (fun _=>?_))<;>conv=>whnf)|((with_reducible refine Split.dec (fun _=>?_) (fun _=>?_))<;>conv=>whnf)|((with_reducible refine Split.mk (fun _=>?_) (fun _=>?_))<;>conv=>whnf)|((with_reducible refine Need.mk ?_ ?_);(first|omega|rfl|decide|(refine ⟨?_, ?_⟩<;>simp<;>omega)|(simp;omega));conv=>whnf)|((with_reducible refine Wr.inr ?_ ?_);(first|omega|(simp;omega));conv=>whnf)|(exfalso;first|omega|contradiction))
      rfl
  · have h0 : letterZ (bAt s (Int.toNat 0)) = false := by assumption
    have h1 : letterZ (bAt s 0) = false := h0
    rw [nameB_bad (i := 0) (by omega) (by simp [badAt, h1])]; rfl
/-- Names that were met. -/
def seenS {α : Type} (nm : α → ByteArray) (l : List α) : List (D × D) := l.map fun x => (D.str (nm x), D.bool true)
def metB {α : Type} (nm : α → ByteArray) (l : List α) (s : ByteArray) : Bool := l.any fun x => decide (nm x = s)
theorem mget_seenS {α : Type} (nm : α → ByteArray) (s : ByteArray) : ∀ l : List α, mget (seenS nm l) (.str s) = if metB nm l s = true then some (.bool true) else none
  | [] => rfl
  | a :: r => by
    have ih := mget_seenS nm s r
    simp only [seenS, List.map_cons] at ih ⊢
    rw [mget, ih]
    by_cases h : nm a = s
    · simp [keyEq, metB, h]
    · simp [keyEq, metB, h, Ne.symm h]
theorem seenS_snoc {α : Type} {nm : α → ByteArray} {l : List α} {i : Nat} {g : α} (hg : l[i]? = some g) (hv : mget (seenS nm (l.take i)) (.str (nm g)) = none) :
    mput (seenS nm (l.take i)) (.str (nm g)) (.bool true) = seenS nm (l.take (i + 1)) := by
  rw [mput_new hv, take_snoc hg]
  simp [seenS]
/-- The first fault of a list of named things. -/
def nmGo {α : Type} (nm : α → ByteArray) (own : α → Int) : List α → List α → Int
  | _, [] => 0
  | o, x :: r => if nameB (nm x) = false then 4 else if metB nm o (nm x) = true then 5 else if own x ≠ 0 then own x else nmGo nm own (o ++ [x]) r
theorem nmGo_at {α : Type} {nm : α → ByteArray} {own : α → Int} {l : List α} {i : Nat} {g : α} (hg : l[i]? = some g) :
    nmGo nm own (l.take i) (l.drop i) = if nameB (nm g) = false then 4 else if metB nm (l.take i) (nm g) = true then 5 else if own g ≠ 0 then own g else nmGo nm own (l.take (i + 1)) (l.drop (i + 1)) := by
  rw [drop_of hg, nmGo, take_snoc hg]
theorem ev_namedP (l : List Pt) (f g : Nat) (own : Pt → Int) (hn : l.length ≤ 1000000) (hf : ∀ p, Ev Try.prog f [ptD p] (.str p.name)) (hg : ∀ p ∈ l, Ev Try.prog g [ptD p] (iD (own p))) :
    Ev Try.prog 65 [.sl 6 (l.map ptD), .fn f [], .fn g []] (iD (nmGo Pt.name own [] l)) := by
  have hlen : (l.map ptD).length = l.length := List.length_map _
  have e0 : nmGo Pt.name own [] l = nmGo Pt.name own (l.take 0) (l.drop 0) := rfl
  refine ev_of_awp tysOk mixed (fn := Try.f65) Try.func65 rfl rfl rfl ?_
  conv => whnf
  repeat' (first|((with_reducible refine Split.of_true ?_);conv=>whnf)|((with_reducible refine Split.of_false ?_);conv=>whnf)|((with_reducible refine Split.neg ?_))|((with_reducible refine Split.is_true ?_ ?_);decide;conv=>whnf)|((with_reducible refine Split.is_false ?_ ?_);decide;conv=>whnf)|((with_reducible refine Split.nez (fun _=>?_) (fun _=>?_))<;>conv=>whnf)|((with_reducible refine Split.eqz (fun _=>?_) (fun _=>?_))<;>conv=>whnf)|((with_reducible refine Split.dec (fun _=>?_) (fun _=>?_))<;>conv=>whnf)|((with_reducible refine Split.mk (fun _=>?_) (fun _=>?_))<;>conv=>whnf)|((with_reducible refine Need.mk ?_ ?_);(first|omega|rfl|decide|(refine ⟨?_, ?_⟩<;>simp<;>omega)|(simp;omega));conv=>whnf)|((with_reducible refine Wr.inr ?_ ?_);(first|omega|(simp;omega));conv=>whnf)|(exfalso;first|omega|contradiction))
  refine LoopK.o2 (fun i : Nat => i ≤ l.length ∧ nmGo Pt.name own [] l = nmGo Pt.name own (l.take i) (l.drop i)) (fun i => [(15, .d (.int .i64 i))]) (fun i => [(12, .map 9 4 .string (seenS Pt.name (l.take i)))]) (fun i => l.length - i) 0 ⟨by omega, e0⟩ (by refine ⟨?_, ?_, rfl⟩<;>(repeat' (first|exact True.intro|exact rfl|refine ⟨?_, ?_⟩|(intro h;cases h;done)|(intro h;exact h)|exact map_snoc|(refine own_congr ?_;simp;done)|(refine int_congr ?_;(first|omega|(simp;omega)))|(simp;done)|(refine view_congr ?_ ?_<;>(first|omega|(simp;done)|(simp;omega)))));done) ?_
  rintro i ⟨hi, hp⟩
  by_cases hil : i < l.length
  · obtain ⟨x, hx⟩ := some_of_lt hil
    rw [nmGo_at hx] at hp
    have hf := hf x
    have hg := hg x (List.mem_of_getElem? hx)
    have hd := ev_dname x.name
    have hm := mget_seenS Pt.name x.name (l.take i)
    cases hb : nameB x.name with
    | false =>
      rw [hb, if_pos rfl] at hp
      rw [hb] at hd
      conv => whnf
      repeat' (first|((refine PickE.map i hx (by omega) ?_);conv=>whnf)|((with_reducible refine Split.of_true ?_);conv=>whnf)|((with_reducible refine Split.of_false ?_);conv=>whnf)|((with_reducible refine Split.neg ?_))|((with_reducible refine Split.is_true ?_ ?_);decide;conv=>whnf)|((with_reducible refine Split.is_false ?_ ?_);decide;conv=>whnf)|((with_reducible refine Split.nez (fun _=>?_) (fun _=>?_))<;>conv=>whnf)|((with_reducible refine Split.eqz (fun _=>?_) (fun _=>?_))<;>conv=>whnf)|((with_reducible refine Split.dec (fun _=>?_) (fun _=>?_))<;>conv=>whnf)|((with_reducible refine Split.mk (fun _=>?_) (fun _=>?_))<;>conv=>whnf)|((with_reducible refine Need.mk ?_ ?_);(first|omega|rfl|decide|(refine ⟨?_, ?_⟩<;>simp<;>omega)|(simp;omega));conv=>whnf)|((with_reducible refine Wr.inr ?_ ?_);(first|omega|(simp;omega));conv=>whnf)|((with_reducible refine AltK.l ?_);(conv=>whnf);(first|(refine CallK.mk _ (hf) ?_)|(refine CallK.mk _ (hg) ?_)|(refine CallK.mk _ (hd) ?_));conv=>whnf)|(exfalso;first|omega|contradiction))
      rw [hp]; rfl
    | true =>
      rw [hb, if_neg (by decide)] at hp
      rw [hb] at hd
      conv => whnf
      repeat' (first|((refine PickE.map i hx (by omega) ?_);conv=>whnf)|((with_reducible refine Split.of_true ?_);conv=>whnf)|((with_reducible refine Split.of_false ?_);conv=>whnf)|((with_reducible refine Split.neg ?_))|((with_reducible refine Split.is_true ?_ ?_);decide;conv=>whnf)|((with_reducible refine Split.is_false ?_ ?_);decide;conv=>whnf)|((with_reducible refine Split.nez (fun _=>?_) (fun _=>?_))<;>conv=>whnf)|((with_reducible refine Split.eqz (fun _=>?_) (fun _=>?_))<;>conv=>whnf)|((with_reducible refine Split.dec (fun _=>?_) (fun _=>?_))<;>conv=>whnf)|((with_reducible refine Split.mk (fun _=>?_) (fun _=>?_))<;>conv=>whnf)|((with_reducible refine Need.mk ?_ ?_);(first|omega|rfl|decide|(refine ⟨?_, ?_⟩<;>simp<;>omega)|(simp;omega));conv=>whnf)|((with_reducible refine Wr.inr ?_ ?_);(first|omega|(simp;omega));conv=>whnf)|((with_reducible refine AltK.l ?_);(conv=>whnf);(first|(refine CallK.mk _ (hf) ?_)|(refine CallK.mk _ (hg) ?_)|(refine CallK.mk _ (hd) ?_));conv=>whnf)|(exfalso;first|omega|contradiction))
      refine LookK.mk (fun v hv => ?_) (fun hv => ?_)
      · rw [hm] at hv
        split at hv
        · rename_i h1
          cases hv
          rw [if_pos h1] at hp
          conv => whnf
          repeat' (first|((with_reducible refine Split.of_true ?_);conv=>whnf)|((with_reducible refine Split.of_false ?_);conv=>whnf)|((with_reducible refine Split.neg ?_))|((with_reducible refine Split.is_true ?_ ?_);decide;conv=>whnf)|((with_reducible refine Split.is_false ?_ ?_);decide;conv=>whnf)|((with_reducible refine Split.nez (fun _=>?_) (fun _=>?_))<;>conv=>whnf)|((with_reducible refine Split.eqz (fun _=>?_) (fun _=>?_))<;>conv=>whnf)|((with_reducible refine Split.dec (fun _=>?_) (fun _=>?_))<;>conv=>whnf)|((with_reducible refine Split.mk (fun _=>?_) (fun _=>?_))<;>conv=>whnf)|((with_reducible refine Need.mk ?_ ?_);(first|omega|rfl|decide|(refine ⟨?_, ?_⟩<;>simp<;>omega)|(simp;omega));conv=>whnf)|((with_reducible refine Wr.inr ?_ ?_);(first|omega|(simp;omega));conv=>whnf)|(exfalso;first|omega|contradiction))
          rw [hp]; rfl
        · cases hv
      · have h1 : ¬ metB Pt.name (l.take i) x.name = true := fun h => by rw [hm, if_pos h] at hv; cases hv
        rw [if_neg h1] at hp
        have hs := seenS_snoc hx hv
        by_cases ho : own x = 0
        · rw [ho, if_neg (by decide)] at hp
          rw [ho] at hg
          conv => whnf
          repeat' (first|((with_reducible refine Split.of_true ?_);conv=>whnf)|((with_reducible refine Split.of_false ?_);conv=>whnf)|((with_reducible refine Split.neg ?_))|((with_reducible refine Split.is_true ?_ ?_);decide;conv=>whnf)|((with_reducible refine Split.is_false ?_ ?_);decide;conv=>whnf)|((with_reducible refine Split.nez (fun _=>?_) (fun _=>?_))<;>conv=>whnf)|((with_reducible refine Split.eqz (fun _=>?_) (fun _=>?_))<;>conv=>whnf)|((with_reducible refine Split.dec (fun _=>?_) (fun _=>?_))<;>conv=>whnf)|((with_reducible refine Split.mk (fun _=>?_) (fun _=>?_))<;>conv=>whnf)|((with_reducible refine Need.mk ?_ ?_);(first|omega|rfl|decide|(refine ⟨?_, ?_⟩<;>simp<;>omega)|(simp;omega));conv=>whnf)|((with_reducible refine Wr.inr ?_ ?_);(first|omega|(simp;omega));conv=>whnf)|((with_reducible refine AltK.l ?_);(conv=>whnf);(first|(refine CallK.mk _ (hg) ?_));conv=>whnf)|(exfalso;first|omega|contradiction))
          exact Again.au (i + 1) ⟨by omega, hp⟩ (by omega) (by refine ⟨?_, ?_, rfl⟩<;>(repeat' (first|exact True.intro|exact rfl|refine ⟨?_, ?_⟩|(intro h;cases h;done)|(intro h;exact h)|exact map_snoc|(refine own_congr ?_;simp;done)|(refine int_congr ?_;(first|omega|(simp;omega)))|(simp;done)|(refine view_congr ?_ ?_<;>(first|omega|(simp;done)|(simp;omega)))|((first|refine own_congr ?_|refine int_congr ?_|skip);simp [hs];done)|((first|refine own_congr ?_|refine int_congr ?_);simp [hs];omega)|(show @Eq (List Go.Vm.D) _ [];simp [hs];done)|(simp [D.cells, hs];done)));done)
        · rw [if_pos ho] at hp
          conv => whnf
          repeat' (first|((with_reducible refine Split.of_true ?_);conv=>whnf)|((with_reducible refine Split.of_false ?_);conv=>whnf)|((with_reducible refine Split.neg ?_))|((with_reducible refine Split.is_true ?_ ?_);decide;conv=>whnf)|((with_reducible refine Split.is_false ?_ ?_);decide;conv=>whnf)|((with_reducible refine Split.nez (fun _=>?_) (fun _=>?_))<;>conv=>whnf)|((with_reducible refine Split.eqz (fun _=>?_) (fun _=>?_))<;>conv=>whnf)|((with_reducible refine Split.dec (fun _=>?_) (fun _=>?_))<;>conv=>whnf)|((with_reducible refine Split.mk (fun _=>?_) (fun _=>?_))<;>conv=>whnf)|((with_reducible refine Need.mk ?_ ?_);(first|omega|rfl|decide|(refine ⟨?_, ?_⟩<;>simp<;>omega)|(simp;omega));conv=>whnf)|((with_reducible refine Wr.inr ?_ ?_);(first|omega|(simp;omega));conv=>whnf)|((with_reducible refine AltK.l ?_);(conv=>whnf);(first|(refine CallK.mk _ (hg) ?_));conv=>whnf)|(exfalso;first|omega|contradiction))
          rw [hp]; rfl
  · rw [List.drop_eq_nil_of_le (show l.length ≤ i by omega)] at hp
    rw [hp]
    conv => whnf
    repeat' (first|((with_reducible refine Split.of_true ?_);conv=>whnf)|((with_reducible refine Split.of_false ?_);conv=>whnf)|((with_reducible refine Split.neg ?_))|((with_reducible refine Split.is_true ?_ ?_);decide;conv=>whnf)|((with_reducible refine Split.is_false ?_ ?_);decide;conv=>whnf)|((with_reducible refine Split.nez (fun _=>?_) (fun _=>?_))<;>conv=>whnf)|((with_reducible refine Split.eqz (fun _=>?_) (fun _=>?_))<;>conv=>whnf)|((with_reducible refine Split.dec (fun _=>?_) (fun _=>?_))<;>conv=>whnf)|((with_reducible refine Split.mk (fun _=>?_) (fun _=>?_))<;>conv=>whnf)|((with_reducible refine Need.mk ?_ ?_);(first|omega|rfl|decide|(refine ⟨?_, ?_⟩<;>simp<;>omega)|(simp;omega));conv=>whnf)|((with_reducible refine Wr.inr ?_ ?_);(first|omega|(simp;omega));conv=>whnf)|(exfalso;first|omega|contradiction))
    rfl
theorem ev_namedB (l : List Bk) (f g : Nat) (own : Bk → Int) (hn : l.length ≤ 1000000) (hf : ∀ p, Ev Try.prog f [bkD p] (.str p.soil)) (hg : ∀ p ∈ l, Ev Try.prog g [bkD p] (iD (own p))) :
    Ev Try.prog 68 [.sl 3 (l.map bkD), .fn f [], .fn g []] (iD (nmGo Bk.soil own [] l)) := by
  have hlen : (l.map bkD).length = l.length := List.length_map _
  have e0 : nmGo Bk.soil own [] l = nmGo Bk.soil own (l.take 0) (l.drop 0) := rfl
  refine ev_of_awp tysOk mixed (fn := Try.f68) Try.func68 rfl rfl rfl ?_
  conv => whnf
  repeat' (first|((with_reducible refine Split.of_true ?_);conv=>whnf)|((with_reducible refine Split.of_false ?_);conv=>whnf)|((with_reducible refine Split.neg ?_))|((with_reducible refine Split.is_true ?_ ?_);decide;conv=>whnf)|((with_reducible refine Split.is_false ?_ ?_);decide;conv=>whnf)|((with_reducible refine Split.nez (fun _=>?_) (fun _=>?_))<;>conv=>whnf)|((with_reducible refine Split.eqz (fun _=>?_) (fun _=>?_))<;>conv=>whnf)|((with_reducible refine Split.dec (fun _=>?_) (fun _=>?_))<;>conv=>whnf)|((with_reducible refine Split.mk (fun _=>?_) (fun _=>?_))<;>conv=>whnf)|((with_reducible refine Need.mk ?_ ?_);(first|omega|rfl|decide|(refine ⟨?_, ?_⟩<;>simp<;>omega)|(simp;omega));conv=>whnf)|((with_reducible refine Wr.inr ?_ ?_);(first|omega|(simp;omega));conv=>whnf)|(exfalso;first|omega|contradiction))
  refine LoopK.o2 (fun i : Nat => i ≤ l.length ∧ nmGo Bk.soil own [] l = nmGo Bk.soil own (l.take i) (l.drop i)) (fun i => [(15, .d (.int .i64 i))]) (fun i => [(12, .map 9 4 .string (seenS Bk.soil (l.take i)))]) (fun i => l.length - i) 0 ⟨by omega, e0⟩ (by refine ⟨?_, ?_, rfl⟩<;>(repeat' (first|exact True.intro|exact rfl|refine ⟨?_, ?_⟩|(intro h;cases h;done)|(intro h;exact h)|exact map_snoc|(refine own_congr ?_;simp;done)|(refine int_congr ?_;(first|omega|(simp;omega)))|(simp;done)|(refine view_congr ?_ ?_<;>(first|omega|(simp;done)|(simp;omega)))));done) ?_
  rintro i ⟨hi, hp⟩
  by_cases hil : i < l.length
  · obtain ⟨x, hx⟩ := some_of_lt hil
    rw [nmGo_at hx] at hp
    have hf := hf x
    have hg := hg x (List.mem_of_getElem? hx)
    have hd := ev_dname x.soil
    have hm := mget_seenS Bk.soil x.soil (l.take i)
    cases hb : nameB x.soil with
    | false =>
      rw [hb, if_pos rfl] at hp
      rw [hb] at hd
      conv => whnf
      repeat' (first|((refine PickE.map i hx (by omega) ?_);conv=>whnf)|((with_reducible refine Split.of_true ?_);conv=>whnf)|((with_reducible refine Split.of_false ?_);conv=>whnf)|((with_reducible refine Split.neg ?_))|((with_reducible refine Split.is_true ?_ ?_);decide;conv=>whnf)|((with_reducible refine Split.is_false ?_ ?_);decide;conv=>whnf)|((with_reducible refine Split.nez (fun _=>?_) (fun _=>?_))<;>conv=>whnf)|((with_reducible refine Split.eqz (fun _=>?_) (fun _=>?_))<;>conv=>whnf)|((with_reducible refine Split.dec (fun _=>?_) (fun _=>?_))<;>conv=>whnf)|((with_reducible refine Split.mk (fun _=>?_) (fun _=>?_))<;>conv=>whnf)|((with_reducible refine Need.mk ?_ ?_);(first|omega|rfl|decide|(refine ⟨?_, ?_⟩<;>simp<;>omega)|(simp;omega));conv=>whnf)|((with_reducible refine Wr.inr ?_ ?_);(first|omega|(simp;omega));conv=>whnf)|((with_reducible refine AltK.l ?_);(conv=>whnf);(first|(refine CallK.mk _ (hf) ?_)|(refine CallK.mk _ (hg) ?_)|(refine CallK.mk _ (hd) ?_));conv=>whnf)|(exfalso;first|omega|contradiction))
      rw [hp]; rfl
    | true =>
      rw [hb, if_neg (by decide)] at hp
      rw [hb] at hd
      conv => whnf
      repeat' (first|((refine PickE.map i hx (by omega) ?_);conv=>whnf)|((with_reducible refine Split.of_true ?_);conv=>whnf)|((with_reducible refine Split.of_false ?_);conv=>whnf)|((with_reducible refine Split.neg ?_))|((with_reducible refine Split.is_true ?_ ?_);decide;conv=>whnf)|((with_reducible refine Split.is_false ?_ ?_);decide;conv=>whnf)|((with_reducible refine Split.nez (fun _=>?_) (fun _=>?_))<;>conv=>whnf)|((with_reducible refine Split.eqz (fun _=>?_) (fun _=>?_))<;>conv=>whnf)|((with_reducible refine Split.dec (fun _=>?_) (fun _=>?_))<;>conv=>whnf)|((with_reducible refine Split.mk (fun _=>?_) (fun _=>?_))<;>conv=>whnf)|((with_reducible refine Need.mk ?_ ?_);(first|omega|rfl|decide|(refine ⟨?_, ?_⟩<;>simp<;>omega)|(simp;omega));conv=>whnf)|((with_reducible refine Wr.inr ?_ ?_);(first|omega|(simp;omega));conv=>whnf)|((with_reducible refine AltK.l ?_);(conv=>whnf);(first|(refine CallK.mk _ (hf) ?_)|(refine CallK.mk _ (hg) ?_)|(refine CallK.mk _ (hd) ?_));conv=>whnf)|(exfalso;first|omega|contradiction))
      refine LookK.mk (fun v hv => ?_) (fun hv => ?_)
      · rw [hm] at hv
        split at hv
        · rename_i h1
          cases hv
          rw [if_pos h1] at hp
          conv => whnf
          repeat' (first|((with_reducible refine Split.of_true ?_);conv=>whnf)|((with_reducible refine Split.of_false ?_);conv=>whnf)|((with_reducible refine Split.neg ?_))|((with_reducible refine Split.is_true ?_ ?_);decide;conv=>whnf)|((with_reducible refine Split.is_false ?_ ?_);decide;conv=>whnf)|((with_reducible refine Split.nez (fun _=>?_) (fun _=>?_))<;>conv=>whnf)|((with_reducible refine Split.eqz (fun _=>?_) (fun _=>?_))<;>conv=>whnf)|((with_reducible refine Split.dec (fun _=>?_) (fun _=>?_))<;>conv=>whnf)|((with_reducible refine Split.mk (fun _=>?_) (fun _=>?_))<;>conv=>whnf)|((with_reducible refine Need.mk ?_ ?_);(first|omega|rfl|decide|(refine ⟨?_, ?_⟩<;>simp<;>omega)|(simp;omega));conv=>whnf)|((with_reducible refine Wr.inr ?_ ?_);(first|omega|(simp;omega));conv=>whnf)|(exfalso;first|omega|contradiction))
          rw [hp]; rfl
        · cases hv
      · have h1 : ¬ metB Bk.soil (l.take i) x.soil = true := fun h => by rw [hm, if_pos h] at hv; cases hv
        rw [if_neg h1] at hp
        have hs := seenS_snoc hx hv
        by_cases ho : own x = 0
        · rw [ho, if_neg (by decide)] at hp
          rw [ho] at hg
          conv => whnf
          repeat' (first|((with_reducible refine Split.of_true ?_);conv=>whnf)|((with_reducible refine Split.of_false ?_);conv=>whnf)|((with_reducible refine Split.neg ?_))|((with_reducible refine Split.is_true ?_ ?_);decide;conv=>whnf)|((with_reducible refine Split.is_false ?_ ?_);decide;conv=>whnf)|((with_reducible refine Split.nez (fun _=>?_) (fun _=>?_))<;>conv=>whnf)|((with_reducible refine Split.eqz (fun _=>?_) (fun _=>?_))<;>conv=>whnf)|((with_reducible refine Split.dec (fun _=>?_) (fun _=>?_))<;>conv=>whnf)|((with_reducible refine Split.mk (fun _=>?_) (fun _=>?_))<;>conv=>whnf)|((with_reducible refine Need.mk ?_ ?_);(first|omega|rfl|decide|(refine ⟨?_, ?_⟩<;>simp<;>omega)|(simp;omega));conv=>whnf)|((with_reducible refine Wr.inr ?_ ?_);(first|omega|(simp;omega));conv=>whnf)|((with_reducible refine AltK.l ?_);(conv=>whnf);(first|(refine CallK.mk _ (hg) ?_));conv=>whnf)|(exfalso;first|omega|contradiction))
          exact Again.au (i + 1) ⟨by omega, hp⟩ (by omega) (by refine ⟨?_, ?_, rfl⟩<;>(repeat' (first|exact True.intro|exact rfl|refine ⟨?_, ?_⟩|(intro h;cases h;done)|(intro h;exact h)|exact map_snoc|(refine own_congr ?_;simp;done)|(refine int_congr ?_;(first|omega|(simp;omega)))|(simp;done)|(refine view_congr ?_ ?_<;>(first|omega|(simp;done)|(simp;omega)))|((first|refine own_congr ?_|refine int_congr ?_|skip);simp [hs];done)|((first|refine own_congr ?_|refine int_congr ?_);simp [hs];omega)|(show @Eq (List Go.Vm.D) _ [];simp [hs];done)|(simp [D.cells, hs];done)));done)
        · rw [if_pos ho] at hp
          conv => whnf
          repeat' (first|((with_reducible refine Split.of_true ?_);conv=>whnf)|((with_reducible refine Split.of_false ?_);conv=>whnf)|((with_reducible refine Split.neg ?_))|((with_reducible refine Split.is_true ?_ ?_);decide;conv=>whnf)|((with_reducible refine Split.is_false ?_ ?_);decide;conv=>whnf)|((with_reducible refine Split.nez (fun _=>?_) (fun _=>?_))<;>conv=>whnf)|((with_reducible refine Split.eqz (fun _=>?_) (fun _=>?_))<;>conv=>whnf)|((with_reducible refine Split.dec (fun _=>?_) (fun _=>?_))<;>conv=>whnf)|((with_reducible refine Split.mk (fun _=>?_) (fun _=>?_))<;>conv=>whnf)|((with_reducible refine Need.mk ?_ ?_);(first|omega|rfl|decide|(refine ⟨?_, ?_⟩<;>simp<;>omega)|(simp;omega));conv=>whnf)|((with_reducible refine Wr.inr ?_ ?_);(first|omega|(simp;omega));conv=>whnf)|((with_reducible refine AltK.l ?_);(conv=>whnf);(first|(refine CallK.mk _ (hg) ?_));conv=>whnf)|(exfalso;first|omega|contradiction))
          rw [hp]; rfl
  · rw [List.drop_eq_nil_of_le (show l.length ≤ i by omega)] at hp
    rw [hp]
    conv => whnf
    repeat' (first|((with_reducible refine Split.of_true ?_);conv=>whnf)|((with_reducible refine Split.of_false ?_);conv=>whnf)|((with_reducible refine Split.neg ?_))|((with_reducible refine Split.is_true ?_ ?_);decide;conv=>whnf)|((with_reducible refine Split.is_false ?_ ?_);decide;conv=>whnf)|((with_reducible refine Split.nez (fun _=>?_) (fun _=>?_))<;>conv=>whnf)|((with_reducible refine Split.eqz (fun _=>?_) (fun _=>?_))<;>conv=>whnf)|((with_reducible refine Split.dec (fun _=>?_) (fun _=>?_))<;>conv=>whnf)|((with_reducible refine Split.mk (fun _=>?_) (fun _=>?_))<;>conv=>whnf)|((with_reducible refine Need.mk ?_ ?_);(first|omega|rfl|decide|(refine ⟨?_, ?_⟩<;>simp<;>omega)|(simp;omega));conv=>whnf)|((with_reducible refine Wr.inr ?_ ?_);(first|omega|(simp;omega));conv=>whnf)|(exfalso;first|omega|contradiction))
    rfl
end Go.Proofs.Try
end

section
namespace Go.Proofs.Try
open Go Go.Vm
set_option maxRecDepth 20000
set_option maxHeartbeats 4000000
/-! Disposal: pits, factors, deposits. -/
def clsGo : Option Int → List Int → Int
  | _, [] => 0
  | p, c :: r => if outsideB c 0 9 = true then 2 else if p.any (fun q => decide (c ≤ q)) = true then 9 else clsGo (some c) r
def prevI (l : List Int) : Nat → Option Int
  | 0 => none
  | i + 1 => l[i]?
theorem cls_at {l : List Int} {i : Nat} {c : Int} (h : l[i]? = some c) : clsGo (prevI l i) (l.drop i) = if outsideB c 0 9 = true then 2 else if (prevI l i).any (fun q => decide (c ≤ q)) = true then 9 else clsGo (prevI l (i + 1)) (l.drop (i + 1)) := by
  have e : prevI l (i + 1) = some c := h
  rw [drop_of h, clsGo, e]
def ptErr (p : Pt) : Int := if (outsideB p.area 1 1000000000 || outsideB p.base (-20000) 20000 || outsideB p.top (-20000) 20000) = true then 2 else if p.top ≤ p.base then 9 else if outsideB p.price 0 10000 = true then 2 else clsGo none p.cls
theorem ev_checkPit (p : Pt) (hn : p.cls.length ≤ 1000000) : Ev Try.prog 67 [ptD p] (iD (ptErr p)) := by
  have hlen : (p.cls.map iD).length = p.cls.length := List.length_map _
  have hA := ev_dwithin p.area 1 1000000000
  have hB := ev_dwithin p.base (-20000) 20000
  have hT := ev_dwithin p.top (-20000) 20000
  have hP := ev_dwithin p.price 0 10000
  unfold ptErr
  generalize outsideB p.area 1 1000000000 = a1 at *
  generalize outsideB p.base (-20000) 20000 = a2 at *
  generalize outsideB p.top (-20000) 20000 = a3 at *
  generalize outsideB p.price 0 10000 = a4 at *
  by_cases h1 : (a1 || a2 || a3) = true
  · rw [if_pos h1]
    refine ev_of_awp tysOk mixed (fn := Try.f67) Try.func67 rfl rfl rfl ?_
    conv => whnf
    repeat' (first|((with_reducible refine Split.of_true ?_);conv=>whnf)|((with_reducible refine Split.of_false ?_);conv=>whnf)|((with_reducible refine Split.neg ?_))|((with_reducible refine Split.is_true ?_ ?_);decide;conv=>whnf)|((with_reducible refine Split.is_false ?_ ?_);decide;conv=>whnf)|((with_reducible refine Split.eqz (fun _=>?_) (fun _=>?_))<;>conv=>whnf)|((with_reducible refine Split.dec (fun _=>?_) (fun _=>?_))<;>conv=>whnf)|((with_reducible refine Split.mk (fun _=>?_) (fun _=>?_))<;>conv=>whnf)|((with_reducible refine Need.mk ?_ ?_);(first|omega|rfl|decide|(refine ⟨?_, ?_⟩<;>simp<;>omega)|(simp;omega));conv=>whnf)|((with_reducible refine Wr.inr ?_ ?_);(first|omega|(simp;omega));conv=>whnf)|((with_reducible refine AltK.l ?_);(conv=>whnf);(first|(refine CallK.mk _ (hA) ?_)|(refine CallK.mk _ (hB) ?_)|(refine CallK.mk _ (hT) ?_)|(refine CallK.mk _ (hP) ?_));conv=>whnf)|(exfalso;first|omega|contradiction))
    all_goals first
      | rfl
      | (exfalso;simp_all;done)
  rw [if_neg h1]
  have h1 : a1 = false ∧ a2 = false ∧ a3 = false := by simpa [and_assoc] using h1
  obtain ⟨rfl, rfl, rfl⟩ := h1
  by_cases h2 : p.top ≤ p.base
  · rw [if_pos h2]
    refine ev_of_awp tysOk mixed (fn := Try.f67) Try.func67 rfl rfl rfl ?_
    conv => whnf
    repeat' (first|((with_reducible refine Split.of_true ?_);conv=>whnf)|((with_reducible refine Split.of_false ?_);conv=>whnf)|((with_reducible refine Split.neg ?_))|((with_reducible refine Split.is_true ?_ ?_);decide;conv=>whnf)|((with_reducible refine Split.is_false ?_ ?_);decide;conv=>whnf)|((with_reducible refine Split.eqz (fun _=>?_) (fun _=>?_))<;>conv=>whnf)|((with_reducible refine Split.dec (fun _=>?_) (fun _=>?_))<;>conv=>whnf)|((with_reducible refine Split.mk (fun _=>?_) (fun _=>?_))<;>conv=>whnf)|((with_reducible refine Need.mk ?_ ?_);(first|omega|rfl|decide|(refine ⟨?_, ?_⟩<;>simp<;>omega)|(simp;omega));conv=>whnf)|((with_reducible refine Wr.inr ?_ ?_);(first|omega|(simp;omega));conv=>whnf)|((with_reducible refine AltK.l ?_);(conv=>whnf);(first|(refine CallK.mk _ (hA) ?_)|(refine CallK.mk _ (hB) ?_)|(refine CallK.mk _ (hT) ?_)|(refine CallK.mk _ (hP) ?_));conv=>whnf)|(exfalso;first|omega|contradiction))
    all_goals first
      | rfl
      | (exfalso;omega)
  rw [if_neg h2]
  cases a4 with
  | true =>
    rw [if_pos rfl]
    refine ev_of_awp tysOk mixed (fn := Try.f67) Try.func67 rfl rfl rfl ?_
    conv => whnf
    repeat' (first|((with_reducible refine Split.of_true ?_);conv=>whnf)|((with_reducible refine Split.of_false ?_);conv=>whnf)|((with_reducible refine Split.neg ?_))|((with_reducible refine Split.is_true ?_ ?_);decide;conv=>whnf)|((with_reducible refine Split.is_false ?_ ?_);decide;conv=>whnf)|((with_reducible refine Split.eqz (fun _=>?_) (fun _=>?_))<;>conv=>whnf)|((with_reducible refine Split.dec (fun _=>?_) (fun _=>?_))<;>conv=>whnf)|((with_reducible refine Split.mk (fun _=>?_) (fun _=>?_))<;>conv=>whnf)|((with_reducible refine Need.mk ?_ ?_);(first|omega|rfl|decide|(refine ⟨?_, ?_⟩<;>simp<;>omega)|(simp;omega));conv=>whnf)|((with_reducible refine Wr.inr ?_ ?_);(first|omega|(simp;omega));conv=>whnf)|((with_reducible refine AltK.l ?_);(conv=>whnf);(first|(refine CallK.mk _ (hA) ?_)|(refine CallK.mk _ (hB) ?_)|(refine CallK.mk _ (hT) ?_)|(refine CallK.mk _ (hP) ?_));conv=>whnf)|(exfalso;first|omega|contradiction))
    all_goals first
      | rfl
      | (exfalso;omega)
  | false =>
  rw [if_neg (by decide)]
  have e0 : clsGo none p.cls = clsGo (prevI p.cls 0) (p.cls.drop 0) := rfl
  refine ev_of_awp tysOk mixed (fn := Try.f67) Try.func67 rfl rfl rfl ?_
  conv => whnf
  repeat' (first|((with_reducible refine Split.of_true ?_);conv=>whnf)|((with_reducible refine Split.of_false ?_);conv=>whnf)|((with_reducible refine Split.neg ?_))|((with_reducible refine Split.is_true ?_ ?_);decide;conv=>whnf)|((with_reducible refine Split.is_false ?_ ?_);decide;conv=>whnf)|((with_reducible refine Split.eqz (fun _=>?_) (fun _=>?_))<;>conv=>whnf)|((with_reducible refine Split.dec (fun _=>?_) (fun _=>?_))<;>conv=>whnf)|((with_reducible refine Split.mk (fun _=>?_) (fun _=>?_))<;>conv=>whnf)|((with_reducible refine Need.mk ?_ ?_);(first|omega|rfl|decide|(refine ⟨?_, ?_⟩<;>simp<;>omega)|(simp;omega));conv=>whnf)|((with_reducible refine Wr.inr ?_ ?_);(first|omega|(simp;omega));conv=>whnf)|((with_reducible refine AltK.l ?_);(conv=>whnf);(first|(refine CallK.mk _ (hA) ?_)|(refine CallK.mk _ (hB) ?_)|(refine CallK.mk _ (hT) ?_)|(refine CallK.mk _ (hP) ?_));conv=>whnf)|(exfalso;first|omega|contradiction))
  refine LoopK.o2 (fun i : Nat => i ≤ p.cls.length ∧ clsGo none p.cls = clsGo (prevI p.cls i) (p.cls.drop i)) (fun i => [(36, .d (.int .i64 i))]) (fun _ => []) (fun i => p.cls.length - i) 0 ⟨by omega, e0⟩ (by refine ⟨?_, ?_, rfl⟩<;>(repeat' (first|exact True.intro|exact rfl|refine ⟨?_, ?_⟩|(intro h;cases h;done)|(intro h;exact h)|exact map_snoc|(refine own_congr ?_;simp;done)|(refine int_congr ?_;(first|omega|(simp;omega)))|(simp;done)|(refine view_congr ?_ ?_<;>(first|omega|(simp;done)|(simp;omega)))));done) ?_
  rintro i ⟨hi, hp⟩
  by_cases hil : i < p.cls.length
  · obtain ⟨c, hc⟩ := some_of_lt hil
    have hC := ev_dwithin c 0 9
    rw [cls_at hc] at hp
    cases ho : outsideB c 0 9 with
    | true =>
      rw [ho, if_pos rfl] at hp
      rw [ho] at hC
      conv => whnf
      repeat' (first|((refine PickE.map i hc (by omega) ?_);conv=>whnf)|((with_reducible refine Split.of_true ?_);conv=>whnf)|((with_reducible refine Split.of_false ?_);conv=>whnf)|((with_reducible refine Split.neg ?_))|((with_reducible refine Split.is_true ?_ ?_);decide;conv=>whnf)|((with_reducible refine Split.is_false ?_ ?_);decide;conv=>whnf)|((with_reducible refine Split.eqz (fun _=>?_) (fun _=>?_))<;>conv=>whnf)|((with_reducible refine Split.dec (fun _=>?_) (fun _=>?_))<;>conv=>whnf)|((with_reducible refine Split.mk (fun _=>?_) (fun _=>?_))<;>conv=>whnf)|((with_reducible refine Need.mk ?_ ?_);(first|omega|rfl|decide|(refine ⟨?_, ?_⟩<;>simp<;>omega)|(simp;omega));conv=>whnf)|((with_reducible refine Wr.inr ?_ ?_);(first|omega|(simp;omega));conv=>whnf)|((with_reducible refine AltK.l ?_);(conv=>whnf);(first|(refine CallK.mk _ (hC) ?_));conv=>whnf)|(exfalso;first|omega|contradiction))
      rw [hp]; rfl
    | false =>
      rw [ho, if_neg (by decide)] at hp
      rw [ho] at hC
      by_cases hz : i = 0
      · subst hz
        rw [if_neg (by simp [prevI])] at hp
        conv => whnf
        repeat' (first|((refine PickE.map 0 hc (by omega) ?_);conv=>whnf)|((with_reducible refine Split.of_true ?_);conv=>whnf)|((with_reducible refine Split.of_false ?_);conv=>whnf)|((with_reducible refine Split.neg ?_))|((with_reducible refine Split.is_true ?_ ?_);decide;conv=>whnf)|((with_reducible refine Split.is_false ?_ ?_);decide;conv=>whnf)|((with_reducible refine Split.eqz (fun _=>?_) (fun _=>?_))<;>conv=>whnf)|((with_reducible refine Split.dec (fun _=>?_) (fun _=>?_))<;>conv=>whnf)|((with_reducible refine Split.mk (fun _=>?_) (fun _=>?_))<;>conv=>whnf)|((with_reducible refine Need.mk ?_ ?_);(first|omega|rfl|decide|(refine ⟨?_, ?_⟩<;>simp<;>omega)|(simp;omega));conv=>whnf)|((with_reducible refine Wr.inr ?_ ?_);(first|omega|(simp;omega));conv=>whnf)|((with_reducible refine AltK.l ?_);(conv=>whnf);(first|(refine CallK.mk _ (hC) ?_));conv=>whnf)|(exfalso;first|omega|contradiction))
        all_goals first
          | exact Again.au (0 + 1) ⟨by omega, hp⟩ (by omega) (by refine ⟨?_, ?_, rfl⟩<;>(repeat' (first|exact True.intro|exact rfl|refine ⟨?_, ?_⟩|(intro h;cases h;done)|(intro h;exact h)|exact map_snoc|(refine own_congr ?_;simp;done)|(refine int_congr ?_;(first|omega|(simp;omega)))|(simp;done)|(refine view_congr ?_ ?_<;>(first|omega|(simp;done)|(simp;omega)))));done)
          | (exfalso;omega)
      · obtain ⟨q, hq⟩ := some_of_lt (show i - 1 < p.cls.length by omega)
        have hpv : prevI p.cls i = some q := by
          cases i with
          | zero => exact absurd rfl hz
          | succ j => simpa [prevI] using hq
        rw [hpv] at hp
        by_cases hle : c ≤ q
        · rw [if_pos (by simp [hle])] at hp
          conv => whnf
          repeat' (first|((refine PickE.map (i - 1) hq (by omega) ?_);conv=>whnf)|((refine PickE.map i hc (by omega) ?_);conv=>whnf)|((with_reducible refine Split.of_true ?_);conv=>whnf)|((with_reducible refine Split.of_false ?_);conv=>whnf)|((with_reducible refine Split.neg ?_))|((with_reducible refine Split.is_true ?_ ?_);decide;conv=>whnf)|((with_reducible refine Split.is_false ?_ ?_);decide;conv=>whnf)|((with_reducible refine Split.eqz (fun _=>?_) (fun _=>?_))<;>conv=>whnf)|((with_reducible refine Split.dec (fun _=>?_) (fun _=>?_))<;>conv=>whnf)|((with_reducible refine Split.mk (fun _=>?_) (fun _=>?_))<;>conv=>whnf)|((with_reducible refine Need.mk ?_ ?_);(first|omega|rfl|decide|(refine ⟨?_, ?_⟩<;>simp<;>omega)|(simp;omega));conv=>whnf)|((with_reducible refine Wr.inr ?_ ?_);(first|omega|(simp;omega));conv=>whnf)|((with_reducible refine AltK.l ?_);(conv=>whnf);(first|(refine CallK.mk _ (hC) ?_));conv=>whnf)|(exfalso;first|omega|contradiction))
          all_goals first
            | (rw [hp];rfl)
            | (exfalso;omega)
        · rw [if_neg (by simp; omega)] at hp
          conv => whnf
          repeat' (first|((refine PickE.map (i - 1) hq (by omega) ?_);conv=>whnf)|((refine PickE.map i hc (by omega) ?_);conv=>whnf)|((with_reducible refine Split.of_true ?_);conv=>whnf)|((with_reducible refine Split.of_false ?_);conv=>whnf)|((with_reducible refine Split.neg ?_))|((with_reducible refine Split.is_true ?_ ?_);decide;conv=>whnf)|((with_reducible refine Split.is_false ?_ ?_);decide;conv=>whnf)|((with_reducible refine Split.eqz (fun _=>?_) (fun _=>?_))<;>conv=>whnf)|((with_reducible refine Split.dec (fun _=>?_) (fun _=>?_))<;>conv=>whnf)|((with_reducible refine Split.mk (fun _=>?_) (fun _=>?_))<;>conv=>whnf)|((with_reducible refine Need.mk ?_ ?_);(first|omega|rfl|decide|(refine ⟨?_, ?_⟩<;>simp<;>omega)|(simp;omega));conv=>whnf)|((with_reducible refine Wr.inr ?_ ?_);(first|omega|(simp;omega));conv=>whnf)|((with_reducible refine AltK.l ?_);(conv=>whnf);(first|(refine CallK.mk _ (hC) ?_));conv=>whnf)|(exfalso;first|omega|contradiction))
          all_goals first
            | exact Again.au (i + 1) ⟨by omega, hp⟩ (by omega) (by refine ⟨?_, ?_, rfl⟩<;>(repeat' (first|exact True.intro|exact rfl|refine ⟨?_, ?_⟩|(intro h;cases h;done)|(intro h;exact h)|exact map_snoc|(refine own_congr ?_;simp;done)|(refine int_congr ?_;(first|omega|(simp;omega)))|(simp;done)|(refine view_congr ?_ ?_<;>(first|omega|(simp;done)|(simp;omega)))));done)
            | (exfalso;omega)
  · rw [List.drop_eq_nil_of_le (show p.cls.length ≤ i by omega)] at hp
    rw [hp]
    conv => whnf
    repeat' (first|((with_reducible refine Split.of_true ?_);conv=>whnf)|((with_reducible refine Split.of_false ?_);conv=>whnf)|((with_reducible refine Split.neg ?_))|((with_reducible refine Split.is_true ?_ ?_);decide;conv=>whnf)|((with_reducible refine Split.is_false ?_ ?_);decide;conv=>whnf)|((with_reducible refine Split.eqz (fun _=>?_) (fun _=>?_))<;>conv=>whnf)|((with_reducible refine Split.dec (fun _=>?_) (fun _=>?_))<;>conv=>whnf)|((with_reducible refine Split.mk (fun _=>?_) (fun _=>?_))<;>conv=>whnf)|((with_reducible refine Need.mk ?_ ?_);(first|omega|rfl|decide|(refine ⟨?_, ?_⟩<;>simp<;>omega)|(simp;omega));conv=>whnf)|((with_reducible refine Wr.inr ?_ ?_);(first|omega|(simp;omega));conv=>whnf)|(exfalso;first|omega|contradiction))
    cases prevI p.cls i <;> rfl
def bkErr (b : Bk) : Int := if (outsideB b.den 1 1000 || outsideB b.num 1 (10 * b.den)) = true then 2 else 0
theorem ev_checkFactor (b : Bk) : Ev Try.prog 70 [bkD b] (iD (bkErr b)) := by
  have h1 := ev_dwithin b.den 1 1000
  have h2 := ev_dwithin b.num 1 (10 * b.den)
  unfold bkErr
  cases ho : outsideB b.den 1 1000 with
  | true =>
    rw [ho] at h1
    refine ev_of_awp tysOk mixed (fn := Try.f70) Try.func70 rfl rfl rfl ?_
    conv => whnf
    repeat' (first|((with_reducible refine Split.of_true ?_);conv=>whnf)|((with_reducible refine Split.of_false ?_);conv=>whnf)|((with_reducible refine Split.neg ?_))|((with_reducible refine Split.is_true ?_ ?_);decide;conv=>whnf)|((with_reducible refine Split.is_false ?_ ?_);decide;conv=>whnf)|((with_reducible refine Split.eqz (fun _=>?_) (fun _=>?_))<;>conv=>whnf)|((with_reducible refine Split.dec (fun _=>?_) (fun _=>?_))<;>conv=>whnf)|((with_reducible refine Split.mk (fun _=>?_) (fun _=>?_))<;>conv=>whnf)|((with_reducible refine Need.mk ?_ ?_);(first|omega|rfl|decide|(refine ⟨?_, ?_⟩<;>simp<;>omega)|(simp;omega));conv=>whnf)|((with_reducible refine Wr.inr ?_ ?_);(first|omega|(simp;omega));conv=>whnf)|((with_reducible refine AltK.l ?_);(conv=>whnf);(first|(refine CallK.mk _ (h1) ?_)|(refine CallK.mk _ (h2) ?_));conv=>whnf)|(exfalso;first|omega|contradiction))
    rfl
  | false =>
    rw [ho] at h1
    have hd : 1 ≤ b.den ∧ b.den ≤ 1000 := by simp [outsideB] at ho; omega
    rw [Bool.false_or]
    generalize outsideB b.num 1 (10 * b.den) = x at *
    refine ev_of_awp tysOk mixed (fn := Try.f70) Try.func70 rfl rfl rfl ?_
    conv => whnf
    repeat' (first|((with_reducible refine Split.of_true ?_);conv=>whnf)|((with_reducible refine Split.of_false ?_);conv=>whnf)|((with_reducible refine Split.neg ?_))|((with_reducible refine Split.is_true ?_ ?_);decide;conv=>whnf)|((with_reducible refine Split.is_false ?_ ?_);decide;conv=>whnf)|((with_reducible refine Split.eqz (fun _=>?_) (fun _=>?_))<;>conv=>whnf)|((with_reducible refine Split.dec (fun _=>?_) (fun _=>?_))<;>conv=>whnf)|((with_reducible refine Split.mk (fun _=>?_) (fun _=>?_))<;>conv=>whnf)|((with_reducible refine Need.mk ?_ ?_);(first|omega|rfl|decide|(refine ⟨?_, ?_⟩<;>simp<;>omega)|(simp;omega));conv=>whnf)|((with_reducible refine Wr.inr ?_ ?_);(first|omega|(simp;omega));conv=>whnf)|((with_reducible refine AltK.l ?_);(conv=>whnf);(first|(refine CallK.mk _ (h1) ?_)|(refine CallK.mk _ (h2) ?_));conv=>whnf)|(exfalso;first|omega|contradiction))
    all_goals (simp_all [retOf, iD])
theorem ev_Check1 (p : Pt) : Ev Try.prog 66 [ptD p] (.str p.name) := by
  refine ev_of_awp tysOk mixed (fn := Try.f66) Try.func66 rfl rfl rfl ?_
  conv => whnf
  repeat' (first|((with_reducible refine Split.of_true ?_);conv=>whnf)|((with_reducible refine Split.of_false ?_);conv=>whnf)|((with_reducible refine Split.neg ?_))|((with_reducible refine Split.is_true ?_ ?_);decide;conv=>whnf)|((with_reducible refine Split.is_false ?_ ?_);decide;conv=>whnf)|((with_reducible refine Split.eqz (fun _=>?_) (fun _=>?_))<;>conv=>whnf)|((with_reducible refine Split.dec (fun _=>?_) (fun _=>?_))<;>conv=>whnf)|((with_reducible refine Split.mk (fun _=>?_) (fun _=>?_))<;>conv=>whnf)|((with_reducible refine Need.mk ?_ ?_);(first|omega|rfl|decide|(refine ⟨?_, ?_⟩<;>simp<;>omega)|(simp;omega));conv=>whnf)|((with_reducible refine Wr.inr ?_ ?_);(first|omega|(simp;omega));conv=>whnf)|(exfalso;first|omega|contradiction))
  rfl
theorem ev_Check2 (b : Bk) : Ev Try.prog 69 [bkD b] (.str b.soil) := by
  refine ev_of_awp tysOk mixed (fn := Try.f69) Try.func69 rfl rfl rfl ?_
  conv => whnf
  repeat' (first|((with_reducible refine Split.of_true ?_);conv=>whnf)|((with_reducible refine Split.of_false ?_);conv=>whnf)|((with_reducible refine Split.neg ?_))|((with_reducible refine Split.is_true ?_ ?_);decide;conv=>whnf)|((with_reducible refine Split.is_false ?_ ?_);decide;conv=>whnf)|((with_reducible refine Split.eqz (fun _=>?_) (fun _=>?_))<;>conv=>whnf)|((with_reducible refine Split.dec (fun _=>?_) (fun _=>?_))<;>conv=>whnf)|((with_reducible refine Split.mk (fun _=>?_) (fun _=>?_))<;>conv=>whnf)|((with_reducible refine Need.mk ?_ ?_);(first|omega|rfl|decide|(refine ⟨?_, ?_⟩<;>simp<;>omega)|(simp;omega));conv=>whnf)|((with_reducible refine Wr.inr ?_ ?_);(first|omega|(simp;omega));conv=>whnf)|(exfalso;first|omega|contradiction))
  rfl
end Go.Proofs.Try
end
