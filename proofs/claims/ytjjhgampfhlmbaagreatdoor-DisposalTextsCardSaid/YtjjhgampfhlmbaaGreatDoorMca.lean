/- Texts VmTbl TxP TwA TwB TyA TwF TwG TwI SdA DpA DpB DpC DpD DpF, joined; what is not needed is left out. -/
import Derived.Test.YtjjhgampfhlmbaaGreatDoorProg
import Derived.Test.YtjjhgampfhlmbaaGreatDoorMgH
import Derived.Test.YtjjhgampfhlmbaaGreatDoorMgI
import Derived.Lib.AtoiTie
import Derived.Lib.ItoaLen
import Derived.Lib.SplitLaws
import Derived.Shelf.LaysM
import Derived.Shelf.LaysC
import Derived.Shelf.Lays
import Derived.Shelf.Strings.Builder1
section
/- The types of the seat, as the evaluator looks them up (written by tbl.py). -/
namespace Go.Proofs.Tryz
open Go Go.Vm
def tbl : List (Nat × TI) := [
 (1, ⟨Go.TypeDesc.func { toList := [] } { toList := [] } Bool.false, 1, 8, [.junk]⟩),
 (2, ⟨Go.TypeDesc.int Go.IntKind.i64, 1, 8, [.d (.int .i64 0)]⟩),
 (3, ⟨Go.TypeDesc.int Go.IntKind.i64, 1, 8, [.d (.int .i64 0)]⟩),
 (4, ⟨Go.TypeDesc.bool, 1, 1, [.d (.bool false)]⟩),
 (5, ⟨Go.TypeDesc.int Go.IntKind.u8, 1, 1, [.d (.int .u8 0)]⟩),
 (6, ⟨Go.TypeDesc.int Go.IntKind.u8, 1, 1, [.d (.int .u8 0)]⟩),
 (7, ⟨Go.TypeDesc.struct { toList := [{ name := "x", type := 2, offset := 0, embedded := Bool.false, tag := "", pkgPath := "runtime", byteOffset := 0 }, { name := "y", type := 3, offset := 1, embedded := Bool.false, tag := "", pkgPath := "runtime", byteOffset := 8 }, { name := "signed", type := 4, offset := 2, embedded := Bool.false, tag := "", pkgPath := "runtime", byteOffset := 16 }, { name := "code", type := 6, offset := 3, embedded := Bool.false, tag := "", pkgPath := "runtime", byteOffset := 17 }] }, 4, 24, [.d (.int .i64 0), .d (.int .i64 0), .d (.bool false), .d (.int .u8 0)]⟩),
 (8, ⟨Go.TypeDesc.struct { toList := [{ name := "x", type := 2, offset := 0, embedded := Bool.false, tag := "", pkgPath := "runtime", byteOffset := 0 }, { name := "y", type := 3, offset := 1, embedded := Bool.false, tag := "", pkgPath := "runtime", byteOffset := 8 }, { name := "signed", type := 4, offset := 2, embedded := Bool.false, tag := "", pkgPath := "runtime", byteOffset := 16 }, { name := "code", type := 6, offset := 3, embedded := Bool.false, tag := "", pkgPath := "runtime", byteOffset := 17 }] }, 4, 24, [.d (.int .i64 0), .d (.int .i64 0), .d (.bool false), .d (.int .u8 0)]⟩),
 (9, ⟨Go.TypeDesc.string, 1, 16, [.d (.str ⟨⟨[]⟩⟩)]⟩),
 (10, ⟨Go.TypeDesc.string, 1, 16, [.d (.str ⟨⟨[]⟩⟩)]⟩),
 (11, ⟨Go.TypeDesc.string, 1, 16, [.d (.str ⟨⟨[]⟩⟩)]⟩),
 (12, ⟨Go.TypeDesc.int Go.IntKind.u64, 1, 8, [.d (.int .u64 0)]⟩),
 (15, ⟨Go.TypeDesc.pointer 211, 1, 8, [.d .np]⟩),
 (16, ⟨Go.TypeDesc.pointer 214, 1, 8, [.d .np]⟩),
 (17, ⟨Go.TypeDesc.pointer 222, 1, 8, [.d .np]⟩),
 (20, ⟨Go.TypeDesc.interface { toList := [] }, 1, 16, [.d (.ifc false)]⟩),
 (21, ⟨Go.TypeDesc.int Go.IntKind.i32, 1, 4, [.d (.int .i32 0)]⟩),
 (22, ⟨Go.TypeDesc.slice 58, 1, 24, [.nil 6]⟩),
 (23, ⟨Go.TypeDesc.slice 62, 1, 24, [.nil 3]⟩),
 (24, ⟨Go.TypeDesc.slice 64, 1, 24, [.nil 3]⟩),
 (25, ⟨Go.TypeDesc.slice 3, 1, 24, [.nil 1]⟩),
 (26, ⟨Go.TypeDesc.struct { toList := [{ name := "Pits", type := 22, offset := 0, embedded := Bool.false, tag := "", pkgPath := "", byteOffset := 0 }, { name := "Bulking", type := 23, offset := 1, embedded := Bool.false, tag := "", pkgPath := "", byteOffset := 24 }, { name := "Deposits", type := 24, offset := 2, embedded := Bool.false, tag := "", pkgPath := "", byteOffset := 48 }, { name := "Carry", type := 25, offset := 3, embedded := Bool.false, tag := "", pkgPath := "", byteOffset := 72 }] }, 4, 96, [.nil 6, .nil 3, .nil 3, .nil 1]⟩),
 (27, ⟨Go.TypeDesc.struct { toList := [{ name := "Pits", type := 22, offset := 0, embedded := Bool.false, tag := "", pkgPath := "", byteOffset := 0 }, { name := "Bulking", type := 23, offset := 1, embedded := Bool.false, tag := "", pkgPath := "", byteOffset := 24 }, { name := "Deposits", type := 24, offset := 2, embedded := Bool.false, tag := "", pkgPath := "", byteOffset := 48 }, { name := "Carry", type := 25, offset := 3, embedded := Bool.false, tag := "", pkgPath := "", byteOffset := 72 }] }, 4, 96, [.nil 6, .nil 3, .nil 3, .nil 1]⟩),
 (28, ⟨Go.TypeDesc.func { toList := [] } { toList := [4] } Bool.false, 1, 8, [.junk]⟩),
 (29, ⟨Go.TypeDesc.func { toList := [27] } { toList := [4] } Bool.false, 1, 8, [.junk]⟩),
 (30, ⟨Go.TypeDesc.int Go.IntKind.i64, 1, 8, [.d (.int .i64 0)]⟩),
 (32, ⟨Go.TypeDesc.func { toList := [27] } { toList := [9, 30] } Bool.false, 1, 8, [.junk]⟩),
 (33, ⟨Go.TypeDesc.func { toList := [27] } { toList := [27] } Bool.false, 1, 8, [.junk]⟩),
 (34, ⟨Go.TypeDesc.func { toList := [27] } { toList := [3] } Bool.false, 1, 8, [.junk]⟩),
 (36, ⟨Go.TypeDesc.func { toList := [9] } { toList := [27, 3, 30] } Bool.false, 1, 8, [.junk]⟩),
 (37, ⟨Go.TypeDesc.func { toList := [27] } { toList := [9] } Bool.false, 1, 8, [.junk]⟩),
 (38, ⟨Go.TypeDesc.func { toList := [27, 27] } { toList := [4] } Bool.false, 1, 8, [.junk]⟩),
 (40, ⟨Go.TypeDesc.func { toList := [9] } { toList := [27, 3, 4] } Bool.false, 1, 8, [.junk]⟩),
 (41, ⟨Go.TypeDesc.func { toList := [27, 9] } { toList := [4] } Bool.false, 1, 8, [.junk]⟩),
 (43, ⟨Go.TypeDesc.func { toList := [27, 46, 9] } { toList := [27, 30] } Bool.false, 1, 8, [.junk]⟩),
 (44, ⟨Go.TypeDesc.func { toList := [] } { toList := [27] } Bool.false, 1, 8, [.junk]⟩),
 (45, ⟨Go.TypeDesc.struct { toList := [{ name := "Number", type := 3, offset := 0, embedded := Bool.false, tag := "", pkgPath := "", byteOffset := 0 }, { name := "Bed", type := 3, offset := 1, embedded := Bool.false, tag := "", pkgPath := "", byteOffset := 8 }, { name := "Overflow", type := 3, offset := 2, embedded := Bool.false, tag := "", pkgPath := "", byteOffset := 16 }, { name := "Soil", type := 9, offset := 3, embedded := Bool.false, tag := "", pkgPath := "", byteOffset := 24 }, { name := "Class", type := 3, offset := 4, embedded := Bool.false, tag := "", pkgPath := "", byteOffset := 40 }] }, 5, 48, [.d (.int .i64 0), .d (.int .i64 0), .d (.int .i64 0), .d (.str ⟨⟨[]⟩⟩), .d (.int .i64 0)]⟩),
 (46, ⟨Go.TypeDesc.struct { toList := [{ name := "Number", type := 3, offset := 0, embedded := Bool.false, tag := "", pkgPath := "", byteOffset := 0 }, { name := "Bed", type := 3, offset := 1, embedded := Bool.false, tag := "", pkgPath := "", byteOffset := 8 }, { name := "Overflow", type := 3, offset := 2, embedded := Bool.false, tag := "", pkgPath := "", byteOffset := 16 }, { name := "Soil", type := 9, offset := 3, embedded := Bool.false, tag := "", pkgPath := "", byteOffset := 24 }, { name := "Class", type := 3, offset := 4, embedded := Bool.false, tag := "", pkgPath := "", byteOffset := 40 }] }, 5, 48, [.d (.int .i64 0), .d (.int .i64 0), .d (.int .i64 0), .d (.str ⟨⟨[]⟩⟩), .d (.int .i64 0)]⟩),
 (47, ⟨Go.TypeDesc.slice 46, 1, 24, [.nil 5]⟩),
 (48, ⟨Go.TypeDesc.func { toList := [] } { toList := [47] } Bool.false, 1, 8, [.junk]⟩),
 (49, ⟨Go.TypeDesc.func { toList := [27, 46] } { toList := [9, 30] } Bool.false, 1, 8, [.junk]⟩),
 (50, ⟨Go.TypeDesc.slice 138, 1, 24, [.nil 3]⟩),
 (51, ⟨Go.TypeDesc.struct { toList := [{ name := "Batches", type := 25, offset := 0, embedded := Bool.false, tag := "", pkgPath := "", byteOffset := 0 }, { name := "Pits", type := 25, offset := 1, embedded := Bool.false, tag := "", pkgPath := "", byteOffset := 24 }] }, 2, 48, [.nil 1, .nil 1]⟩),
 (52, ⟨Go.TypeDesc.struct { toList := [{ name := "Batches", type := 25, offset := 0, embedded := Bool.false, tag := "", pkgPath := "", byteOffset := 0 }, { name := "Pits", type := 25, offset := 1, embedded := Bool.false, tag := "", pkgPath := "", byteOffset := 24 }] }, 2, 48, [.nil 1, .nil 1]⟩),
 (53, ⟨Go.TypeDesc.struct { toList := [{ name := "Allots", type := 50, offset := 0, embedded := Bool.false, tag := "", pkgPath := "", byteOffset := 0 }, { name := "Cost", type := 3, offset := 1, embedded := Bool.false, tag := "", pkgPath := "", byteOffset := 24 }, { name := "Tariff", type := 52, offset := 2, embedded := Bool.false, tag := "", pkgPath := "", byteOffset := 32 }] }, 4, 80, [.nil 3, .d (.int .i64 0), .nil 1, .nil 1]⟩),
 (54, ⟨Go.TypeDesc.struct { toList := [{ name := "Allots", type := 50, offset := 0, embedded := Bool.false, tag := "", pkgPath := "", byteOffset := 0 }, { name := "Cost", type := 3, offset := 1, embedded := Bool.false, tag := "", pkgPath := "", byteOffset := 24 }, { name := "Tariff", type := 52, offset := 2, embedded := Bool.false, tag := "", pkgPath := "", byteOffset := 32 }] }, 4, 80, [.nil 3, .d (.int .i64 0), .nil 1, .nil 1]⟩),
 (56, ⟨Go.TypeDesc.func { toList := [27, 47] } { toList := [54, 30] } Bool.false, 1, 8, [.junk]⟩),
 (57, ⟨Go.TypeDesc.struct { toList := [{ name := "Name", type := 9, offset := 0, embedded := Bool.false, tag := "", pkgPath := "", byteOffset := 0 }, { name := "Area", type := 3, offset := 1, embedded := Bool.false, tag := "", pkgPath := "", byteOffset := 16 }, { name := "Base", type := 3, offset := 2, embedded := Bool.false, tag := "", pkgPath := "", byteOffset := 24 }, { name := "Top", type := 3, offset := 3, embedded := Bool.false, tag := "", pkgPath := "", byteOffset := 32 }, { name := "Classes", type := 25, offset := 4, embedded := Bool.false, tag := "", pkgPath := "", byteOffset := 40 }, { name := "Price", type := 3, offset := 5, embedded := Bool.false, tag := "", pkgPath := "", byteOffset := 64 }] }, 6, 72, [.d (.str ⟨⟨[]⟩⟩), .d (.int .i64 0), .d (.int .i64 0), .d (.int .i64 0), .nil 1, .d (.int .i64 0)]⟩),
 (58, ⟨Go.TypeDesc.struct { toList := [{ name := "Name", type := 9, offset := 0, embedded := Bool.false, tag := "", pkgPath := "", byteOffset := 0 }, { name := "Area", type := 3, offset := 1, embedded := Bool.false, tag := "", pkgPath := "", byteOffset := 16 }, { name := "Base", type := 3, offset := 2, embedded := Bool.false, tag := "", pkgPath := "", byteOffset := 24 }, { name := "Top", type := 3, offset := 3, embedded := Bool.false, tag := "", pkgPath := "", byteOffset := 32 }, { name := "Classes", type := 25, offset := 4, embedded := Bool.false, tag := "", pkgPath := "", byteOffset := 40 }, { name := "Price", type := 3, offset := 5, embedded := Bool.false, tag := "", pkgPath := "", byteOffset := 64 }] }, 6, 72, [.d (.str ⟨⟨[]⟩⟩), .d (.int .i64 0), .d (.int .i64 0), .d (.int .i64 0), .nil 1, .d (.int .i64 0)]⟩),
 (59, ⟨Go.TypeDesc.struct { toList := [{ name := "Num", type := 3, offset := 0, embedded := Bool.false, tag := "", pkgPath := "", byteOffset := 0 }, { name := "Den", type := 3, offset := 1, embedded := Bool.false, tag := "", pkgPath := "", byteOffset := 8 }] }, 2, 16, [.d (.int .i64 0), .d (.int .i64 0)]⟩),
 (60, ⟨Go.TypeDesc.struct { toList := [{ name := "Num", type := 3, offset := 0, embedded := Bool.false, tag := "", pkgPath := "", byteOffset := 0 }, { name := "Den", type := 3, offset := 1, embedded := Bool.false, tag := "", pkgPath := "", byteOffset := 8 }] }, 2, 16, [.d (.int .i64 0), .d (.int .i64 0)]⟩),
 (61, ⟨Go.TypeDesc.struct { toList := [{ name := "Soil", type := 9, offset := 0, embedded := Bool.false, tag := "", pkgPath := "", byteOffset := 0 }, { name := "Factor", type := 60, offset := 1, embedded := Bool.false, tag := "", pkgPath := "", byteOffset := 16 }] }, 3, 32, [.d (.str ⟨⟨[]⟩⟩), .d (.int .i64 0), .d (.int .i64 0)]⟩),
 (62, ⟨Go.TypeDesc.struct { toList := [{ name := "Soil", type := 9, offset := 0, embedded := Bool.false, tag := "", pkgPath := "", byteOffset := 0 }, { name := "Factor", type := 60, offset := 1, embedded := Bool.false, tag := "", pkgPath := "", byteOffset := 16 }] }, 3, 32, [.d (.str ⟨⟨[]⟩⟩), .d (.int .i64 0), .d (.int .i64 0)]⟩),
 (63, ⟨Go.TypeDesc.struct { toList := [{ name := "Batch", type := 3, offset := 0, embedded := Bool.false, tag := "", pkgPath := "", byteOffset := 0 }, { name := "Pit", type := 9, offset := 1, embedded := Bool.false, tag := "", pkgPath := "", byteOffset := 8 }, { name := "Volume", type := 3, offset := 2, embedded := Bool.false, tag := "", pkgPath := "", byteOffset := 24 }] }, 3, 32, [.d (.int .i64 0), .d (.str ⟨⟨[]⟩⟩), .d (.int .i64 0)]⟩),
 (64, ⟨Go.TypeDesc.struct { toList := [{ name := "Batch", type := 3, offset := 0, embedded := Bool.false, tag := "", pkgPath := "", byteOffset := 0 }, { name := "Pit", type := 9, offset := 1, embedded := Bool.false, tag := "", pkgPath := "", byteOffset := 8 }, { name := "Volume", type := 3, offset := 2, embedded := Bool.false, tag := "", pkgPath := "", byteOffset := 24 }] }, 3, 32, [.d (.int .i64 0), .d (.str ⟨⟨[]⟩⟩), .d (.int .i64 0)]⟩),
 (65, ⟨Go.TypeDesc.func { toList := [27] } { toList := [30] } Bool.false, 1, 8, [.junk]⟩),
 (66, ⟨Go.TypeDesc.pointer 69, 1, 8, [.d .np]⟩),
 (67, ⟨Go.TypeDesc.slice 5, 1, 24, [.nil 1]⟩),
 (68, ⟨Go.TypeDesc.struct { toList := [{ name := "addr", type := 66, offset := 0, embedded := Bool.false, tag := "", pkgPath := "strings", byteOffset := 0 }, { name := "buf", type := 67, offset := 1, embedded := Bool.false, tag := "", pkgPath := "strings", byteOffset := 8 }] }, 2, 32, [.d .np, .nil 1]⟩),
 (69, ⟨Go.TypeDesc.struct { toList := [{ name := "addr", type := 66, offset := 0, embedded := Bool.false, tag := "", pkgPath := "strings", byteOffset := 0 }, { name := "buf", type := 67, offset := 1, embedded := Bool.false, tag := "", pkgPath := "strings", byteOffset := 8 }] }, 2, 32, [.d .np, .nil 1]⟩),
 (70, ⟨Go.TypeDesc.interface { toList := [("Error", 77)] }, 1, 16, [.d (.ifc false)]⟩),
 (71, ⟨Go.TypeDesc.interface { toList := [("Error", 77)] }, 1, 16, [.d (.ifc false)]⟩),
 (73, ⟨Go.TypeDesc.func { toList := [9] } { toList := [3, 71] } Bool.false, 1, 8, [.junk]⟩),
 (74, ⟨Go.TypeDesc.func { toList := [75, 25] } { toList := [9] } Bool.true, 1, 8, [.junk]⟩),
 (75, ⟨Go.TypeDesc.slice 9, 1, 24, [.nil 1]⟩),
 (76, ⟨Go.TypeDesc.func { toList := [3] } { toList := [9] } Bool.false, 1, 8, [.junk]⟩),
 (77, ⟨Go.TypeDesc.func { toList := [] } { toList := [9] } Bool.false, 1, 8, [.junk]⟩),
 (78, ⟨Go.TypeDesc.func { toList := [25] } { toList := [25] } Bool.false, 1, 8, [.junk]⟩),
 (79, ⟨Go.TypeDesc.func { toList := [58, 22] } { toList := [3] } Bool.false, 1, 8, [.junk]⟩),
 (80, ⟨Go.TypeDesc.func { toList := [3, 3, 3] } { toList := [4] } Bool.false, 1, 8, [.junk]⟩),
 (81, ⟨Go.TypeDesc.func { toList := [24, 3] } { toList := [4] } Bool.false, 1, 8, [.junk]⟩),
 (82, ⟨Go.TypeDesc.func { toList := [22, 9] } { toList := [3] } Bool.false, 1, 8, [.junk]⟩),
 (83, ⟨Go.TypeDesc.func { toList := [27, 3] } { toList := [3] } Bool.false, 1, 8, [.junk]⟩),
 (84, ⟨Go.TypeDesc.func { toList := [58] } { toList := [3] } Bool.false, 1, 8, [.junk]⟩),
 (85, ⟨Go.TypeDesc.struct { toList := [{ name := "s", type := 27, offset := 0, embedded := Bool.false, tag := "", pkgPath := "draghead/disposal", byteOffset := 0 }] }, 4, 96, [.nil 6, .nil 3, .nil 3, .nil 1]⟩),
 (86, ⟨Go.TypeDesc.struct { toList := [{ name := "s", type := 27, offset := 0, embedded := Bool.false, tag := "", pkgPath := "draghead/disposal", byteOffset := 0 }] }, 4, 96, [.nil 6, .nil 3, .nil 3, .nil 1]⟩),
 (88, ⟨Go.TypeDesc.func { toList := [9, 9] } { toList := [9, 9, 4] } Bool.false, 1, 8, [.junk]⟩),
 (89, ⟨Go.TypeDesc.func { toList := [9] } { toList := [4] } Bool.false, 1, 8, [.junk]⟩),
 (90, ⟨Go.TypeDesc.func { toList := [75, 25] } { toList := [9] } Bool.false, 1, 8, [.junk]⟩),
 (91, ⟨Go.TypeDesc.func { toList := [25, 25] } { toList := [4] } Bool.false, 1, 8, [.junk]⟩),
 (92, ⟨Go.TypeDesc.func { toList := [24, 24] } { toList := [4] } Bool.false, 1, 8, [.junk]⟩),
 (93, ⟨Go.TypeDesc.func { toList := [9, 5] } { toList := [75] } Bool.false, 1, 8, [.junk]⟩),
 (95, ⟨Go.TypeDesc.func { toList := [75] } { toList := [25, 4] } Bool.false, 1, 8, [.junk]⟩),
 (96, ⟨Go.TypeDesc.func { toList := [27, 46] } { toList := [30] } Bool.false, 1, 8, [.junk]⟩),
 (97, ⟨Go.TypeDesc.func { toList := [27, 9] } { toList := [3] } Bool.false, 1, 8, [.junk]⟩),
 (98, ⟨Go.TypeDesc.func { toList := [27, 3] } { toList := [4] } Bool.false, 1, 8, [.junk]⟩),
 (99, ⟨Go.TypeDesc.func { toList := [27, 46, 25] } { toList := [3] } Bool.false, 1, 8, [.junk]⟩),
 (100, ⟨Go.TypeDesc.func { toList := [27, 58, 3, 3] } { toList := [30] } Bool.false, 1, 8, [.junk]⟩),
 (102, ⟨Go.TypeDesc.func { toList := [27, 46] } { toList := [3, 3, 30] } Bool.false, 1, 8, [.junk]⟩),
 (103, ⟨Go.TypeDesc.pointer 134, 1, 8, [.d .np]⟩),
 (105, ⟨Go.TypeDesc.func { toList := [27, 47] } { toList := [103, 30] } Bool.false, 1, 8, [.junk]⟩),
 (106, ⟨Go.TypeDesc.func { toList := [] } { toList := [50] } Bool.false, 1, 8, [.junk]⟩),
 (107, ⟨Go.TypeDesc.func { toList := [50] } { toList := [3] } Bool.false, 1, 8, [.junk]⟩),
 (108, ⟨Go.TypeDesc.func { toList := [] } { toList := [52] } Bool.false, 1, 8, [.junk]⟩),
 (109, ⟨Go.TypeDesc.func { toList := [22, 110, 111] } { toList := [30] } Bool.false, 1, 8, [.junk]⟩),
 (110, ⟨Go.TypeDesc.func { toList := [58] } { toList := [9] } Bool.false, 1, 8, [.junk]⟩),
 (111, ⟨Go.TypeDesc.func { toList := [58] } { toList := [30] } Bool.false, 1, 8, [.junk]⟩),
 (112, ⟨Go.TypeDesc.func { toList := [23, 113, 114] } { toList := [30] } Bool.false, 1, 8, [.junk]⟩),
 (113, ⟨Go.TypeDesc.func { toList := [62] } { toList := [9] } Bool.false, 1, 8, [.junk]⟩),
 (114, ⟨Go.TypeDesc.func { toList := [62] } { toList := [30] } Bool.false, 1, 8, [.junk]⟩),
 (115, ⟨Go.TypeDesc.func { toList := [75, 9] } { toList := [9] } Bool.false, 1, 8, [.junk]⟩),
 (116, ⟨Go.TypeDesc.pointer 5, 1, 8, [.d .np]⟩),
 (117, ⟨Go.TypeDesc.func { toList := [23, 9] } { toList := [3] } Bool.false, 1, 8, [.junk]⟩),
 (118, ⟨Go.TypeDesc.pointer 86, 1, 8, [.d .np]⟩),
 (119, ⟨Go.TypeDesc.func { toList := [9, 9] } { toList := [75] } Bool.false, 1, 8, [.junk]⟩),
 (120, ⟨Go.TypeDesc.func { toList := [75] } { toList := [4] } Bool.false, 1, 8, [.junk]⟩),
 (121, ⟨Go.TypeDesc.func { toList := [22, 122] } { toList := [3] } Bool.false, 1, 8, [.junk]⟩),
 (122, ⟨Go.TypeDesc.func { toList := [58] } { toList := [4] } Bool.false, 1, 8, [.junk]⟩),
 (123, ⟨Go.TypeDesc.func { toList := [24, 124] } { toList := [4] } Bool.false, 1, 8, [.junk]⟩),
 (124, ⟨Go.TypeDesc.func { toList := [64] } { toList := [4] } Bool.false, 1, 8, [.junk]⟩),
 (125, ⟨Go.TypeDesc.func { toList := [22] } { toList := [22] } Bool.false, 1, 8, [.junk]⟩),
 (126, ⟨Go.TypeDesc.func { toList := [23] } { toList := [23] } Bool.false, 1, 8, [.junk]⟩),
 (127, ⟨Go.TypeDesc.func { toList := [24] } { toList := [24] } Bool.false, 1, 8, [.junk]⟩),
 (128, ⟨Go.TypeDesc.func { toList := [25, 3] } { toList := [4] } Bool.false, 1, 8, [.junk]⟩),
 (129, ⟨Go.TypeDesc.func { toList := [27, 58] } { toList := [3] } Bool.false, 1, 8, [.junk]⟩),
 (130, ⟨Go.TypeDesc.func { toList := [27, 47, 3, 131] } { toList := [30] } Bool.false, 1, 8, [.junk]⟩),
 (131, ⟨Go.TypeDesc.func { toList := [3] } { toList := [4] } Bool.false, 1, 8, [.junk]⟩),
 (132, ⟨Go.TypeDesc.slice 25, 1, 24, [.nil 1]⟩),
 (133, ⟨Go.TypeDesc.struct { toList := [{ name := "s", type := 27, offset := 0, embedded := Bool.false, tag := "", pkgPath := "draghead/disposal", byteOffset := 0 }, { name := "l", type := 47, offset := 4, embedded := Bool.false, tag := "", pkgPath := "draghead/disposal", byteOffset := 96 }, { name := "volumes", type := 25, offset := 5, embedded := Bool.false, tag := "", pkgPath := "draghead/disposal", byteOffset := 120 }, { name := "rooms", type := 25, offset := 6, embedded := Bool.false, tag := "", pkgPath := "draghead/disposal", byteOffset := 144 }, { name := "flow", type := 132, offset := 7, embedded := Bool.false, tag := "", pkgPath := "draghead/disposal", byteOffset := 168 }] }, 8, 192, [.nil 6, .nil 3, .nil 3, .nil 1, .nil 5, .nil 1, .nil 1, .nil 1]⟩),
 (134, ⟨Go.TypeDesc.struct { toList := [{ name := "s", type := 27, offset := 0, embedded := Bool.false, tag := "", pkgPath := "draghead/disposal", byteOffset := 0 }, { name := "l", type := 47, offset := 4, embedded := Bool.false, tag := "", pkgPath := "draghead/disposal", byteOffset := 96 }, { name := "volumes", type := 25, offset := 5, embedded := Bool.false, tag := "", pkgPath := "draghead/disposal", byteOffset := 120 }, { name := "rooms", type := 25, offset := 6, embedded := Bool.false, tag := "", pkgPath := "draghead/disposal", byteOffset := 144 }, { name := "flow", type := 132, offset := 7, embedded := Bool.false, tag := "", pkgPath := "draghead/disposal", byteOffset := 168 }] }, 8, 192, [.nil 6, .nil 3, .nil 3, .nil 1, .nil 5, .nil 1, .nil 1, .nil 1]⟩),
 (135, ⟨Go.TypeDesc.func { toList := [25, 136] } { toList := [] } Bool.false, 1, 8, [.junk]⟩),
 (136, ⟨Go.TypeDesc.func { toList := [3, 3] } { toList := [3] } Bool.false, 1, 8, [.junk]⟩),
 (137, ⟨Go.TypeDesc.func { toList := [3] } { toList := [3] } Bool.false, 1, 8, [.junk]⟩),
 (138, ⟨Go.TypeDesc.struct { toList := [{ name := "Batch", type := 3, offset := 0, embedded := Bool.false, tag := "", pkgPath := "", byteOffset := 0 }, { name := "Pit", type := 9, offset := 1, embedded := Bool.false, tag := "", pkgPath := "", byteOffset := 8 }, { name := "Volume", type := 3, offset := 2, embedded := Bool.false, tag := "", pkgPath := "", byteOffset := 24 }] }, 3, 32, [.d (.int .i64 0), .d (.str ⟨⟨[]⟩⟩), .d (.int .i64 0)]⟩),
 (139, ⟨Go.TypeDesc.func { toList := [3, 3] } { toList := [4] } Bool.false, 1, 8, [.junk]⟩),
 (140, ⟨Go.TypeDesc.map 9 4, 1, 8, [.junk]⟩),
 (141, ⟨Go.TypeDesc.map 3 4, 1, 8, [.junk]⟩),
 (143, ⟨Go.TypeDesc.func { toList := [142] } { toList := [142] } Bool.false, 1, 8, [.junk]⟩),
 (144, ⟨Go.TypeDesc.func { toList := [3] } { toList := [] } Bool.false, 1, 8, [.junk]⟩),
 (145, ⟨Go.TypeDesc.func { toList := [2, 3] } { toList := [9] } Bool.false, 1, 8, [.junk]⟩),
 (146, ⟨Go.TypeDesc.func { toList := [9, 9] } { toList := [3] } Bool.false, 1, 8, [.junk]⟩),
 (147, ⟨Go.TypeDesc.func { toList := [9, 9, 3, 3] } { toList := [75] } Bool.false, 1, 8, [.junk]⟩),
 (148, ⟨Go.TypeDesc.func { toList := [24, 124] } { toList := [3] } Bool.false, 1, 8, [.junk]⟩),
 (149, ⟨Go.TypeDesc.func { toList := [23, 150] } { toList := [3] } Bool.false, 1, 8, [.junk]⟩),
 (150, ⟨Go.TypeDesc.func { toList := [62] } { toList := [4] } Bool.false, 1, 8, [.junk]⟩),
 (151, ⟨Go.TypeDesc.func { toList := [25, 3] } { toList := [3] } Bool.false, 1, 8, [.junk]⟩),
 (152, ⟨Go.TypeDesc.func { toList := [25, 3, 136] } { toList := [] } Bool.false, 1, 8, [.junk]⟩),
 (153, ⟨Go.TypeDesc.map 3 3, 1, 8, [.junk]⟩),
 (154, ⟨Go.TypeDesc.struct { toList := [{ name := "batches", type := 153, offset := 0, embedded := Bool.false, tag := "", pkgPath := "draghead/disposal", byteOffset := 0 }, { name := "pits", type := 153, offset := 1, embedded := Bool.false, tag := "", pkgPath := "draghead/disposal", byteOffset := 8 }] }, 2, 16, [.junk, .junk]⟩),
 (155, ⟨Go.TypeDesc.struct { toList := [{ name := "batches", type := 153, offset := 0, embedded := Bool.false, tag := "", pkgPath := "draghead/disposal", byteOffset := 0 }, { name := "pits", type := 153, offset := 1, embedded := Bool.false, tag := "", pkgPath := "draghead/disposal", byteOffset := 8 }] }, 2, 16, [.junk, .junk]⟩),
 (156, ⟨Go.TypeDesc.func { toList := [] } { toList := [155] } Bool.false, 1, 8, [.junk]⟩),
 (158, ⟨Go.TypeDesc.slice 160, 1, 24, [.nil 3]⟩),
 (159, ⟨Go.TypeDesc.struct { toList := [{ name := "batch", type := 3, offset := 0, embedded := Bool.false, tag := "", pkgPath := "draghead/disposal", byteOffset := 0 }, { name := "to", type := 3, offset := 1, embedded := Bool.false, tag := "", pkgPath := "draghead/disposal", byteOffset := 8 }, { name := "from", type := 3, offset := 2, embedded := Bool.false, tag := "", pkgPath := "draghead/disposal", byteOffset := 16 }] }, 3, 24, [.d (.int .i64 0), .d (.int .i64 0), .d (.int .i64 0)]⟩),
 (160, ⟨Go.TypeDesc.struct { toList := [{ name := "batch", type := 3, offset := 0, embedded := Bool.false, tag := "", pkgPath := "draghead/disposal", byteOffset := 0 }, { name := "to", type := 3, offset := 1, embedded := Bool.false, tag := "", pkgPath := "draghead/disposal", byteOffset := 8 }, { name := "from", type := 3, offset := 2, embedded := Bool.false, tag := "", pkgPath := "draghead/disposal", byteOffset := 16 }] }, 3, 24, [.d (.int .i64 0), .d (.int .i64 0), .d (.int .i64 0)]⟩),
 (161, ⟨Go.TypeDesc.func { toList := [5] } { toList := [4] } Bool.false, 1, 8, [.junk]⟩),
 (162, ⟨Go.TypeDesc.array 24 5, 24, 24, [.d (.int .u8 0), .d (.int .u8 0), .d (.int .u8 0), .d (.int .u8 0), .d (.int .u8 0), .d (.int .u8 0), .d (.int .u8 0), .d (.int .u8 0), .d (.int .u8 0), .d (.int .u8 0), .d (.int .u8 0), .d (.int .u8 0), .d (.int .u8 0), .d (.int .u8 0), .d (.int .u8 0), .d (.int .u8 0), .d (.int .u8 0), .d (.int .u8 0), .d (.int .u8 0), .d (.int .u8 0), .d (.int .u8 0), .d (.int .u8 0), .d (.int .u8 0), .d (.int .u8 0)]⟩),
 (163, ⟨Go.TypeDesc.int Go.IntKind.u64, 1, 8, [.d (.int .u64 0)]⟩),
 (164, ⟨Go.TypeDesc.func { toList := [163] } { toList := [3] } Bool.false, 1, 8, [.junk]⟩),
 (165, ⟨Go.TypeDesc.func { toList := [67, 163] } { toList := [] } Bool.false, 1, 8, [.junk]⟩),
 (167, ⟨Go.TypeDesc.func { toList := [67, 163, 3, 4, 4] } { toList := [67, 9] } Bool.false, 1, 8, [.junk]⟩),
 (168, ⟨Go.TypeDesc.func { toList := [9, 5] } { toList := [3] } Bool.false, 1, 8, [.junk]⟩),
 (169, ⟨Go.TypeDesc.int Go.IntKind.u64, 1, 8, [.d (.int .u64 0)]⟩),
 (170, ⟨Go.TypeDesc.func { toList := [9, 3] } { toList := [75] } Bool.false, 1, 8, [.junk]⟩),
 (171, ⟨Go.TypeDesc.func { toList := [9, 9] } { toList := [9] } Bool.false, 1, 8, [.junk]⟩),
 (172, ⟨Go.TypeDesc.func { toList := [25, 3, 3, 136] } { toList := [] } Bool.false, 1, 8, [.junk]⟩),
 (173, ⟨Go.TypeDesc.func { toList := [25, 3, 3, 3, 136] } { toList := [] } Bool.false, 1, 8, [.junk]⟩),
 (174, ⟨Go.TypeDesc.func { toList := [3] } { toList := [67] } Bool.false, 1, 8, [.junk]⟩),
 (175, ⟨Go.TypeDesc.func { toList := [4] } { toList := [3] } Bool.false, 1, 8, [.junk]⟩),
 (176, ⟨Go.TypeDesc.array 20 163, 20, 160, [.d (.int .u64 0), .d (.int .u64 0), .d (.int .u64 0), .d (.int .u64 0), .d (.int .u64 0), .d (.int .u64 0), .d (.int .u64 0), .d (.int .u64 0), .d (.int .u64 0), .d (.int .u64 0), .d (.int .u64 0), .d (.int .u64 0), .d (.int .u64 0), .d (.int .u64 0), .d (.int .u64 0), .d (.int .u64 0), .d (.int .u64 0), .d (.int .u64 0), .d (.int .u64 0), .d (.int .u64 0)]⟩),
 (177, ⟨Go.TypeDesc.int Go.IntKind.u32, 1, 4, [.d (.int .u32 0)]⟩),
 (179, ⟨Go.TypeDesc.func { toList := [169] } { toList := [3] } Bool.false, 1, 8, [.junk]⟩),
 (181, ⟨Go.TypeDesc.func { toList := [9] } { toList := [177, 177] } Bool.false, 1, 8, [.junk]⟩),
 (182, ⟨Go.TypeDesc.func { toList := [9] } { toList := [3] } Bool.false, 1, 8, [.junk]⟩),
 (184, ⟨Go.TypeDesc.func { toList := [9] } { toList := [21, 3] } Bool.false, 1, 8, [.junk]⟩),
 (185, ⟨Go.TypeDesc.func { toList := [9, 9, 3, 3, 71] } { toList := [71] } Bool.false, 1, 8, [.junk]⟩),
 (186, ⟨Go.TypeDesc.func { toList := [177] } { toList := [3] } Bool.false, 1, 8, [.junk]⟩),
 (187, ⟨Go.TypeDesc.int Go.IntKind.i64, 1, 8, [.d (.int .i64 0)]⟩),
 (189, ⟨Go.TypeDesc.func { toList := [9, 3, 3] } { toList := [2, 71] } Bool.false, 1, 8, [.junk]⟩),
 (190, ⟨Go.TypeDesc.pointer 204, 1, 8, [.d .np]⟩),
 (191, ⟨Go.TypeDesc.func { toList := [9, 9] } { toList := [190] } Bool.false, 1, 8, [.junk]⟩),
 (192, ⟨Go.TypeDesc.func { toList := [9, 9, 3] } { toList := [190] } Bool.false, 1, 8, [.junk]⟩),
 (193, ⟨Go.TypeDesc.func { toList := [9, 9] } { toList := [4] } Bool.false, 1, 8, [.junk]⟩),
 (194, ⟨Go.TypeDesc.array 32 5, 32, 32, [.d (.int .u8 0), .d (.int .u8 0), .d (.int .u8 0), .d (.int .u8 0), .d (.int .u8 0), .d (.int .u8 0), .d (.int .u8 0), .d (.int .u8 0), .d (.int .u8 0), .d (.int .u8 0), .d (.int .u8 0), .d (.int .u8 0), .d (.int .u8 0), .d (.int .u8 0), .d (.int .u8 0), .d (.int .u8 0), .d (.int .u8 0), .d (.int .u8 0), .d (.int .u8 0), .d (.int .u8 0), .d (.int .u8 0), .d (.int .u8 0), .d (.int .u8 0), .d (.int .u8 0), .d (.int .u8 0), .d (.int .u8 0), .d (.int .u8 0), .d (.int .u8 0), .d (.int .u8 0), .d (.int .u8 0), .d (.int .u8 0), .d (.int .u8 0)]⟩),
 (197, ⟨Go.TypeDesc.struct { toList := [{ name := "lo", type := 5, offset := 0, embedded := Bool.false, tag := "", pkgPath := "unicode/utf8", byteOffset := 0 }, { name := "hi", type := 5, offset := 1, embedded := Bool.false, tag := "", pkgPath := "unicode/utf8", byteOffset := 1 }] }, 2, 2, [.d (.int .u8 0), .d (.int .u8 0)]⟩),
 (198, ⟨Go.TypeDesc.struct { toList := [{ name := "lo", type := 5, offset := 0, embedded := Bool.false, tag := "", pkgPath := "unicode/utf8", byteOffset := 0 }, { name := "hi", type := 5, offset := 1, embedded := Bool.false, tag := "", pkgPath := "unicode/utf8", byteOffset := 1 }] }, 2, 2, [.d (.int .u8 0), .d (.int .u8 0)]⟩),
 (199, ⟨Go.TypeDesc.array 16 198, 32, 32, [.d (.int .u8 0), .d (.int .u8 0), .d (.int .u8 0), .d (.int .u8 0), .d (.int .u8 0), .d (.int .u8 0), .d (.int .u8 0), .d (.int .u8 0), .d (.int .u8 0), .d (.int .u8 0), .d (.int .u8 0), .d (.int .u8 0), .d (.int .u8 0), .d (.int .u8 0), .d (.int .u8 0), .d (.int .u8 0), .d (.int .u8 0), .d (.int .u8 0), .d (.int .u8 0), .d (.int .u8 0), .d (.int .u8 0), .d (.int .u8 0), .d (.int .u8 0), .d (.int .u8 0), .d (.int .u8 0), .d (.int .u8 0), .d (.int .u8 0), .d (.int .u8 0), .d (.int .u8 0), .d (.int .u8 0), .d (.int .u8 0), .d (.int .u8 0)]⟩),
 (201, ⟨Go.TypeDesc.func { toList := [9, 3, 3] } { toList := [163, 71] } Bool.false, 1, 8, [.junk]⟩),
 (202, ⟨Go.TypeDesc.func { toList := [9] } { toList := [9] } Bool.false, 1, 8, [.junk]⟩),
 (203, ⟨Go.TypeDesc.struct { toList := [{ name := "Func", type := 9, offset := 0, embedded := Bool.false, tag := "", pkgPath := "", byteOffset := 0 }, { name := "Num", type := 9, offset := 1, embedded := Bool.false, tag := "", pkgPath := "", byteOffset := 16 }, { name := "Err", type := 71, offset := 2, embedded := Bool.false, tag := "", pkgPath := "", byteOffset := 32 }] }, 3, 48, [.d (.str ⟨⟨[]⟩⟩), .d (.str ⟨⟨[]⟩⟩), .d (.ifc false)]⟩),
 (204, ⟨Go.TypeDesc.struct { toList := [{ name := "Func", type := 9, offset := 0, embedded := Bool.false, tag := "", pkgPath := "", byteOffset := 0 }, { name := "Num", type := 9, offset := 1, embedded := Bool.false, tag := "", pkgPath := "", byteOffset := 16 }, { name := "Err", type := 71, offset := 2, embedded := Bool.false, tag := "", pkgPath := "", byteOffset := 32 }] }, 3, 48, [.d (.str ⟨⟨[]⟩⟩), .d (.str ⟨⟨[]⟩⟩), .d (.ifc false)]⟩),
 (205, ⟨Go.TypeDesc.func { toList := [9] } { toList := [71] } Bool.false, 1, 8, [.junk]⟩),
 (206, ⟨Go.TypeDesc.func { toList := [5] } { toList := [5] } Bool.false, 1, 8, [.junk]⟩),
 (207, ⟨Go.TypeDesc.pointer 209, 1, 8, [.d .np]⟩),
 (208, ⟨Go.TypeDesc.struct { toList := [{ name := "s", type := 9, offset := 0, embedded := Bool.false, tag := "", pkgPath := "errors", byteOffset := 0 }] }, 1, 16, [.d (.str ⟨⟨[]⟩⟩)]⟩),
 (209, ⟨Go.TypeDesc.struct { toList := [{ name := "s", type := 9, offset := 0, embedded := Bool.false, tag := "", pkgPath := "errors", byteOffset := 0 }] }, 1, 16, [.d (.str ⟨⟨[]⟩⟩)]⟩),
 (212, ⟨Go.TypeDesc.array 0 16, 0, 0, []⟩),
 (215, ⟨Go.TypeDesc.func { toList := [] } { toList := [3] } Bool.false, 1, 8, [.junk]⟩),
 (216, ⟨Go.TypeDesc.int Go.IntKind.u8, 1, 1, [.d (.int .u8 0)]⟩),
 (217, ⟨Go.TypeDesc.int Go.IntKind.u8, 1, 1, [.d (.int .u8 0)]⟩),
 (218, ⟨Go.TypeDesc.func { toList := [142, 142] } { toList := [4] } Bool.false, 1, 8, [.junk]⟩),
 (219, ⟨Go.TypeDesc.int Go.IntKind.i32, 1, 4, [.d (.int .i32 0)]⟩),
 (220, ⟨Go.TypeDesc.int Go.IntKind.i32, 1, 4, [.d (.int .i32 0)]⟩)]
def S : Tys := lk tbl
theorem tysOk : TysOk Tryz.prog S := tysOk_of tbl (by kernel_rfl) (by kernel_rfl) (by kernel_rfl)
theorem mixed : Tryz.prog.follows .mixedOrders = true := by kernel_rfl
end Go.Proofs.Tryz
end

section
/- Plain facts on texts: numerals, digits, a text divided at a byte. No program is in sight. -/
namespace Go.Plain
open Go Go.Lib
theorem div_abs (m : Int) : (m.tdiv 10).natAbs = m.natAbs / 10 := by
 rw [Int.natAbs_tdiv]
 rfl
theorem dec_last {u : Nat} (h : u < 10) (s : List UInt8) : decDigits u ++ s = UInt8.ofNat (48 + u % 10) :: s := by
 rw [decDigits_one h, Nat.mod_eq_of_lt h]; rfl
theorem dec_more {u : Nat} (h : ¬ u < 10) (s : List UInt8) : decDigits u ++ s = decDigits (u / 10) ++ (UInt8.ofNat (48 + u % 10) :: s) := by
 rw [decDigits, dif_neg h, List.append_assoc]; rfl
def DecAt (n m : Int) (s : List UInt8) : Prop := (s = [] ∧ m = n) ∨ (s ≠ [] ∧ (if m = 0 then s else decDigits m.natAbs ++ s) = decDigits n.natAbs)
theorem DecAt.step {n m : Int} {s : List UInt8} (h : DecAt n m s) (h0 : s = [] ∨ m ≠ 0) : DecAt n (m.tdiv 10) (UInt8.ofNat (48 + m.natAbs % 10) :: s) := by
 have key : decDigits m.natAbs ++ s = decDigits n.natAbs := by
  rcases h with ⟨rfl, rfl⟩ | ⟨h1, h2⟩
  ·simp
  ·have hm : m ≠ 0 := h0.resolve_left h1
   rwa [if_neg hm] at h2
 refine .inr ⟨by simp, ?_⟩
 have hd := div_abs m
 by_cases hu : m.natAbs < 10
 ·have : m.tdiv 10 = 0 := by omega
  rw [if_pos this, ← dec_last hu]; exact key
 ·have : m.tdiv 10 ≠ 0 := by omega
  rw [if_neg this, hd, ← dec_more hu]; exact key
theorem DecAt.len {n m : Int} {s : List UInt8} (h : DecAt n m s) : s.length ≤ (decDigits n.natAbs).length := by
 rcases h with ⟨rfl, -⟩ | ⟨-, h⟩
 ·simp
 ·rw [← h]; split <;> simp
theorem DecAt.fin {n : Int} {s : List UInt8} (h : DecAt n 0 s) (hs : s ≠ []) : s = decDigits n.natAbs := by
 rcases h with ⟨h1, -⟩ | ⟨-, h⟩
 ·exact absurd h1 hs
 ·simpa using h
end Go.Plain
end

section
namespace Go.Proofs.Tryz
open Go Go.Vm
def outsideB (n lo hi : Int) : Bool := decide (n < lo) || decide (n > hi)
structure Mk where
 m : Int
 l : Int
end Go.Proofs.Tryz
end

section
namespace Go.Proofs.Tryz
open Go Go.Vm
set_option maxRecDepth 20000
set_option maxHeartbeats 2000000
def letterZ (c : Int) : Bool := (decide (c ≥ 97) && decide (c ≤ 122)) || (decide (c ≥ 65) && decide (c ≤ 90))
def otherZ (c : Int) : Bool := (decide (c ≥ 48) && decide (c ≤ 57)) || decide (c = 45)
def badAt (s : ByteArray) (i : Nat) : Bool := !letterZ (bAt s i) && (decide (i = 0) || !otherZ (bAt s i))
def nameB (s : ByteArray) : Bool := decide (s.size ≠ 0) && decide (s.size ≤ 12) && decide (∀ k, k < s.size → badAt s k = false)
theorem nameB_bad {s : ByteArray} {i : Nat} (h : i < s.size) (hb : badAt s i = true) : nameB s = false := by
 unfold nameB
 have : ¬ ∀ k, k < s.size → badAt s k = false := fun hk => by rw [hk i h] at hb; cases hb
 simp [this]
end Go.Proofs.Tryz
end

section
namespace Go.Proofs.Tryz
open Go Go.Vm Go.Plain
set_option maxRecDepth 20000
set_option maxHeartbeats 4000000
/-! Texts as lists of bytes. -/
theorem ba_size (s : ByteArray) : s.size = s.data.toList.length := by rw [Array.length_toList]; rfl
theorem name_no {s : ByteArray} (h : nameB s = true) (c : UInt8) (hc : c.toNat ≤ 32) : c ∉ s.data.toList := by
 intro hm
 obtain ⟨i, hi⟩ := List.getElem?_of_mem hm
 simp only [nameB, Bool.and_eq_true, decide_eq_true_eq] at h
 have hlt : i < s.size := by rw [ba_size]; exact lt_of_get hi
 have hb := h.2 i hlt
 have hv : bAt s i = (c.toNat : Int) := by unfold bAt; rw [hi]
 unfold badAt at hb
 rw [hv] at hb
 simp only [letterZ, otherZ, Bool.not_or, Bool.and_eq_false_iff, Bool.not_eq_false', Bool.and_eq_true, decide_eq_true_eq, Bool.or_eq_false_iff, decide_eq_false_iff_not] at hb
 omega
/-! Words with blanks between them. -/
end Go.Proofs.Tryz
end

section
namespace Go.Proofs.Tryz
open Go Go.Vm
set_option maxRecDepth 20000
set_option maxHeartbeats 2000000
open Classical in
noncomputable def eqB {α : Type} (a b : α) : Bool := decide (a = b)
theorem eqB_of {α : Type} {a b : α} (h : a = b) : eqB a b = true := by simp [eqB, h]
theorem eqB_ne {α : Type} {a b : α} (h : a ≠ b) : eqB a b = false := by simp [eqB, h]
theorem take_succ_eq {α : Type} {a b : List α} {i : Nat} {x : α} (ha : a[i]? = some x) (hb : b[i]? = some x) (h : a.take i = b.take i) : a.take (i + 1) = b.take (i + 1) := by
 rw [List.take_add_one, List.take_add_one, h, ha, hb]
theorem eq_of_take {α : Type} {a b : List α} {i : Nat} (h : a.take i = b.take i) (ha : a.length ≤ i) (hb : b.length ≤ i) : a = b := by
 rwa [List.take_of_length_le ha, List.take_of_length_le hb] at h
end Go.Proofs.Tryz
end

section
namespace Go.Proofs.Tryz
open Go Go.Vm
def meanR : List Mk → Int → Option (Int × Int)
 | [], _ => none
 | [b], t => if b.m = t then some (b.l, 1) else none
 | a :: b :: r, t => if a.m = t then some (a.l, 1) else if t < a.m then none else if t < b.m then some (a.l * (b.m - a.m) + (b.l - a.l) * (t - a.m), b.m - a.m) else meanR (b :: r) t
def Fr : Option (Int × Int) → Option (Int × Int) → Prop
 | none, none => True
 | some (n, d), some (n', d') => 0 < d ∧ 0 < d' ∧ n * d' = n' * d
 | _, _ => False
theorem Fr.trans {a b c : Option (Int × Int)} (h1 : Fr a b) (h2 : Fr b c) : Fr a c := by
 match a, b, c, h1, h2 with
 | none, none, none, _, _ => trivial
 | some (n, d), some (n', d'), some (n'', d''), ⟨p1, p2, e1⟩, ⟨_, p3, e2⟩ =>
  refine ⟨p1, p3, ?_⟩
  have : (n * d'') * d' = (n'' * d) * d' := by grind
  exact Int.eq_of_mul_eq_mul_right (by omega) this
theorem meanR_pos : ∀ {l : List Mk} {t n d : Int}, l.Pairwise (fun a b => a.m < b.m) → meanR l t = some (n, d) → 0 < d
 | [], t, n, d, _, h => by cases h
 | [b], t, n, d, _, h => by
  simp only [meanR] at h
  split at h
  ·simp at h; omega
  ·cases h
 | a :: b :: r, t, n, d, hp, h => by
  obtain ⟨h1, h2⟩ := List.pairwise_cons.1 hp
  have hab := h1 b (List.mem_cons_self ..)
  simp only [meanR] at h
  split at h
  ·simp at h; omega
  ·split at h
   ·cases h
   ·split at h
    ·simp at h; omega
    ·exact meanR_pos h2 h
theorem Fr.refl {l : List Mk} {t : Int} (hp : l.Pairwise (fun a b => a.m < b.m)) : Fr (meanR l t) (meanR l t) := by
 cases h : meanR l t with
 | none => trivial
 | some x => obtain ⟨n, d⟩ := x; have := meanR_pos hp h; exact ⟨this, this, rfl⟩
end Go.Proofs.Tryz
end

section
namespace Go.Proofs.Tryz
open Go Go.Vm
set_option maxRecDepth 20000
set_option maxHeartbeats 2000000
theorem take_snoc {α : Type} {l : List α} {i : Nat} {m : α} (h : l[i]? = some m) : l.take (i + 1) = l.take i ++ [m] := by
 rw [List.take_add_one, h]; rfl
end Go.Proofs.Tryz
end

section
namespace Go.Proofs.Tryz
open Go Go.Vm
set_option maxRecDepth 20000
set_option maxHeartbeats 2000000
def iD (n : Int) : D := .int .i64 n
def seenD {α : Type} (num : α → Int) (l : List α) : List (D × D) := l.map fun x => (iD (num x), D.bool true)
theorem mget_seen {α : Type} (num : α → Int) (k : Int) : ∀ l : List α, mget (seenD num l) (iD k) = if l.any (fun y => num y == k) = true then some (.bool true) else none
 | [] => rfl
 | a :: r => by
  have ih := mget_seen num k r
  simp only [seenD, List.map_cons] at ih ⊢
  rw [mget, ih]
  by_cases h : num a = k
  ·simp [keyEq, iD, h]
  ·simp [keyEq, iD, h, Ne.symm h]
theorem mput_new {v : D} {x : D} : ∀ {es : List (D × D)}, mget es x = none → mput es x v = es ++ [(x, v)]
 | [], _ => rfl
 |(k, u) :: r, h => by
  rw [mget] at h
  split at h
  ·cases h
  ·rename_i hk
   rw [mput, if_neg hk, mput_new h]; rfl
theorem seen_snoc {α : Type} {num : α → Int} {l : List α} {i : Nat} {g : α} (hg : l[i]? = some g) (hv : mget (seenD num (l.take i)) (iD (num g)) = none) :
 mput (seenD num (l.take i)) (iD (num g)) (.bool true) = seenD num (l.take (i + 1)) := by
 rw [mput_new hv, take_snoc hg]
 simp [seenD]
end Go.Proofs.Tryz
end

section
namespace Go.Proofs.Tryz
open Go Go.Vm
set_option maxRecDepth 20000
set_option maxHeartbeats 4000000
/-! Disposal: data; names; lists of named things. -/
structure Pt where
 name : ByteArray
 area : Int
 base : Int
 top : Int
 cls : List Int
 price : Int
def ptD (p : Pt) : D := .agg [.str p.name, iD p.area, iD p.base, iD p.top, .sl 1 (p.cls.map iD), iD p.price]
structure Bk where
 soil : ByteArray
 num : Int
 den : Int
def bkD (b : Bk) : D := .agg [.str b.soil, iD b.num, iD b.den]
structure Dp where
 batch : Int
 pit : ByteArray
 vol : Int
def dpD (d : Dp) : D := .agg [iD d.batch, .str d.pit, iD d.vol]
structure Yd where
 pits : List Pt
 bulk : List Bk
 deps : List Dp
 carry : List Int
def ydD (y : Yd) : D := .agg [.sl 6 (y.pits.map ptD), .sl 3 (y.bulk.map bkD), .sl 3 (y.deps.map dpD), .sl 1 (y.carry.map iD)]
structure Bt where
 n : Int
 bed : Int
 over : Int
 soil : ByteArray
 cls : Int
def btD (b : Bt) : D := .agg [iD b.n, iD b.bed, iD b.over, .str b.soil, iD b.cls]
theorem ev_dwithin (n lo hi : Int) : Ev Tryz.prog 58 [iD n, iD lo, iD hi] (.bool (!outsideB n lo hi)) := by
 have e : (!outsideB n lo hi) = (decide (lo ≤ n) && decide (n ≤ hi)) := by
  rw [Bool.eq_iff_iff]; simp [outsideB]
 rw [e]
 refine ev_of_awp tysOk mixed (fn := Tryz.f58) Tryz.func58 rfl rfl rfl ?_
 conv => whnf
 repeat' (first|((with_reducible refine Split.dec (fun _=>?_) (fun _=>?_))<;>conv=>whnf)|fail)
 ·have h : n ≥ lo := by assumption
  rw [decide_eq_true (show lo ≤ n from h), Bool.true_and]; rfl
 ·have h : ¬ n ≥ lo := by assumption
  rw [decide_eq_false (show ¬ lo ≤ n from h), Bool.false_and]; rfl
theorem ev_letter (c : Int) : Ev Tryz.prog 107 [.int .u8 c] (.bool (letterZ c)) := by
 refine ev_of_awp tysOk mixed (fn := Tryz.f107) Tryz.func107 rfl rfl rfl ?_
 conv => whnf
 repeat' (first|((with_reducible refine Split.of_false ?_);conv=>whnf)|((with_reducible refine Split.dec (fun _=>?_) (fun _=>?_))<;>conv=>whnf)|(exfalso;first|omega|contradiction)|fail)
 all_goals (simp_all [letterZ, retOf] <;> omega)
theorem bAt_bd (s : ByteArray) (i : Nat) : 0 ≤ bAt s i ∧ bAt s i ≤ 255 := by
 unfold bAt
 split
 ·rename_i b _
  have := b.toNat_lt
  omega
 ·omega
theorem ev_dname (s : ByteArray) : Ev Tryz.prog 91 [.str s] (.bool (nameB s)) := by
 refine ev_of_awp tysOk mixed (fn := Tryz.f91) Tryz.func91 rfl rfl rfl ?_
 conv => whnf
 repeat' (first|((with_reducible refine Split.of_true ?_);conv=>whnf)|(with_reducible refine Split.neg ?_)|((with_reducible refine Split.dec (fun _=>?_) (fun _=>?_))<;>conv=>whnf)|((with_reducible refine Split.mk (fun _=>?_) (fun _=>?_))<;>conv=>whnf)|((with_reducible refine Need.mk ?_ ?_);(first|omega|rfl|decide|(refine ⟨?_,?_⟩<;>simp<;>omega)|(simp;omega));conv=>whnf)|((with_reducible refine AltK.l ?_);(conv=>whnf);(first|(refine CallK.mk _ (ev_letter _) ?_));conv=>whnf)|fail)
 ·have e : nameB s = false := by
   rw [Bool.eq_false_iff]; intro h
   simp only [nameB, Bool.and_eq_true, decide_eq_true_eq] at h; omega
  rw [e]; rfl
 ·have e : nameB s = false := by
   rw [Bool.eq_false_iff]; intro h
   simp only [nameB, Bool.and_eq_true, decide_eq_true_eq] at h; omega
  rw [e]; rfl
 ·have hs : s.size ≤ 12 ∧ 1 ≤ s.size := by omega
  have h0 : letterZ (bAt s (Int.toNat 0)) = true := by assumption
  refine LoopK.o2 (fun i : Nat => i ≤ s.size ∧ ∀ k, k < i → badAt s k = false) (fun i => [(21, .d (.int .i64 i))]) (fun _ => []) (fun i => s.size - i) 0 ⟨by omega, fun k h => absurd h (by omega)⟩ (by refine ⟨?_, ?_, rfl⟩<;>(repeat' (first|exact True.intro|exact rfl|(refine ⟨?_,?_⟩)|fail));done) ?_
  rintro i ⟨hi, hk⟩
  have up : badAt s i = false → ∀ k, k < i + 1 → badAt s k = false := fun h k hk' => by
   rcases Nat.lt_or_ge k i with h1 | h1
   ·exact hk k h1
   ·rw [show k = i by omega]; exact h
  by_cases hil : i < s.size
  ·have hbd := bAt_bd s (i : Int).toNat
   have hz : i = 0 → letterZ (bAt s i) = true := fun h => by rw [h]; exact h0
   have hb : badAt s i = (!letterZ (bAt s i) && (decide (i = 0) || !otherZ (bAt s i))) := rfl
   cases hl : letterZ (bAt s i) with
   | true =>
    rw [hl, Bool.not_true, Bool.false_and] at hb
    have hmp : letterZ (bAt s (i : Int).toNat) = true := hl
    conv => whnf
    repeat' (first|((refine Split.is_true hmp ?_);conv=>whnf)|((with_reducible refine Split.of_false ?_);conv=>whnf)|(with_reducible refine Split.neg ?_)|((with_reducible refine Split.dec (fun _=>?_) (fun _=>?_))<;>conv=>whnf)|((with_reducible refine Need.mk ?_ ?_);(first|omega|rfl|decide|(refine ⟨?_,?_⟩<;>simp<;>omega)|(simp;omega));conv=>whnf)|((with_reducible refine Wr.inr ?_ ?_);(first|omega|(simp;omega));conv=>whnf)|((with_reducible refine AltK.l ?_);(conv=>whnf);(first|(refine CallK.mk _ (ev_letter _) ?_)|(refine CallK.mk _ (ev_dwithin _ _ _) ?_));conv=>whnf)|(exfalso;first|omega|contradiction)|fail)
    all_goals exact Again.au (i + 1) ⟨by omega, up hb⟩ (by omega) (by refine ⟨?_, ?_, rfl⟩<;>(repeat' (first|exact True.intro|exact rfl|(refine ⟨?_,?_⟩)|fail));done)
   | false =>
    have hi0 : i ≠ 0 := fun h => by rw [hz h] at hl; cases hl
    rw [hl, Bool.not_false, Bool.true_and, decide_eq_false hi0, Bool.false_or] at hb
    have hmp : letterZ (bAt s (i : Int).toNat) = false := hl
    conv => whnf
    repeat' (first|((refine Split.is_false hmp ?_);conv=>whnf)|((with_reducible refine Split.of_false ?_);conv=>whnf)|(with_reducible refine Split.neg ?_)|((with_reducible refine Split.nez (fun _=>?_) (fun _=>?_))<;>conv=>whnf)|((with_reducible refine Split.dec (fun _=>?_) (fun _=>?_))<;>conv=>whnf)|((with_reducible refine Split.mk (fun _=>?_) (fun _=>?_))<;>conv=>whnf)|((with_reducible refine Need.mk ?_ ?_);(first|omega|rfl|decide|(refine ⟨?_,?_⟩<;>simp<;>omega)|(simp;omega));conv=>whnf)|((with_reducible refine Wr.inr ?_ ?_);(first|omega|(simp;omega));conv=>whnf)|((with_reducible refine AltK.l ?_);(conv=>whnf);(first|(refine CallK.mk _ (ev_letter _) ?_)|(refine CallK.mk _ (ev_dwithin _ _ _) ?_));conv=>whnf)|(exfalso;first|omega|contradiction)|fail)
    all_goals first
     |(refine Again.au (i + 1) ⟨by omega, up ?_⟩ (by omega) (by refine ⟨?_, ?_, rfl⟩<;>(repeat' (first|exact True.intro|exact rfl|(refine ⟨?_,?_⟩)|fail));done)
       rw [hb, Bool.not_eq_false']
       first
        |(have h1 : outsideB (bAt s (i : Int).toNat) 48 57 = false := by assumption
          have h2 : outsideB (bAt s i) 48 57 = false := h1
          simp [outsideB] at h2
          simp [otherZ]; omega)
        |(have h1 : bAt s (i : Int).toNat = 45 := by assumption
          have h2 : bAt s i = 45 := h1
          simp [otherZ, h2]))
     |(have h1 : outsideB (bAt s (i : Int).toNat) 48 57 = true := by assumption
       have h2 : outsideB (bAt s i) 48 57 = true := h1
       have h3 : bAt s (i : Int).toNat ≠ 45 := by assumption
       have h4 : bAt s i ≠ 45 := h3
       have : badAt s i = true := by
        rw [hb]; simp [outsideB] at h2; simp [otherZ]; omega
       rw [nameB_bad hil this]; rfl)
  ·have e : nameB s = true := by
    simp only [nameB, Bool.and_eq_true, decide_eq_true_eq]
    exact ⟨⟨by omega, by omega⟩, fun k hk' => hk k (by omega)⟩
   rw [e]
   conv => whnf
   repeat' (first|((with_reducible refine Split.dec (fun _=>?_) (fun _=>?_))<;>conv=>whnf)|((with_reducible refine Need.mk ?_ ?_);(first|omega|rfl|decide|(refine ⟨?_,?_⟩<;>simp<;>omega)|(simp;omega));conv=>whnf)|(exfalso;first|omega|contradiction)|fail)
   rfl
 ·have h0 : letterZ (bAt s (Int.toNat 0)) = false := by assumption
  have h1 : letterZ (bAt s 0) = false := h0
  rw [nameB_bad (i := 0) (by omega) (by simp [badAt, h1])]; rfl
def seenS {α : Type} (nm : α → ByteArray) (l : List α) : List (D × D) := l.map fun x => (D.str (nm x), D.bool true)
def metB {α : Type} (nm : α → ByteArray) (l : List α) (s : ByteArray) : Bool := l.any fun x => decide (nm x = s)
theorem mget_seenS {α : Type} (nm : α → ByteArray) (s : ByteArray) : ∀ l : List α, mget (seenS nm l) (.str s) = if metB nm l s = true then some (.bool true) else none
 | [] => rfl
 | a :: r => by
  have ih := mget_seenS nm s r
  simp only [seenS, List.map_cons] at ih ⊢
  rw [mget, ih]
  by_cases h : nm a = s
  ·simp [keyEq, metB, h]
  ·simp [keyEq, metB, h, Ne.symm h]
theorem seenS_snoc {α : Type} {nm : α → ByteArray} {l : List α} {i : Nat} {g : α} (hg : l[i]? = some g) (hv : mget (seenS nm (l.take i)) (.str (nm g)) = none) :
 mput (seenS nm (l.take i)) (.str (nm g)) (.bool true) = seenS nm (l.take (i + 1)) := by
 rw [mput_new hv, take_snoc hg]
 simp [seenS]
def nmGo {α : Type} (nm : α → ByteArray) (own : α → Int) : List α → List α → Int
 | _, [] => 0
 | o, x :: r => if nameB (nm x) = false then 4 else if metB nm o (nm x) = true then 5 else if own x ≠ 0 then own x else nmGo nm own (o ++ [x]) r
theorem nmGo_at {α : Type} {nm : α → ByteArray} {own : α → Int} {l : List α} {i : Nat} {g : α} (hg : l[i]? = some g) :
 nmGo nm own (l.take i) (l.drop i) = if nameB (nm g) = false then 4 else if metB nm (l.take i) (nm g) = true then 5 else if own g ≠ 0 then own g else nmGo nm own (l.take (i + 1)) (l.drop (i + 1)) := by
 rw [drop_of hg, nmGo, take_snoc hg]
theorem ev_namedP (l : List Pt) (f g : Nat) (own : Pt → Int) (hn : l.length ≤ 1000000) (hf : ∀ p, Ev Tryz.prog f [ptD p] (.str p.name)) (hg : ∀ p ∈ l, Ev Tryz.prog g [ptD p] (iD (own p))) :
 Ev Tryz.prog 52 [.sl 6 (l.map ptD), .fn f [], .fn g []] (iD (nmGo Pt.name own [] l)) := by
 have hlen : (l.map ptD).length = l.length := List.length_map _
 have e0 : nmGo Pt.name own [] l = nmGo Pt.name own (l.take 0) (l.drop 0) := rfl
 refine ev_of_awp tysOk mixed (fn := Tryz.f52) Tryz.func52 rfl rfl rfl ?_
 conv => whnf
 skip
 refine LoopK.o2 (fun i : Nat => i ≤ l.length ∧ nmGo Pt.name own [] l = nmGo Pt.name own (l.take i) (l.drop i)) (fun i => [(15, .d (.int .i64 i))]) (fun i => [(12, .map 9 4 .string (seenS Pt.name (l.take i)))]) (fun i => l.length - i) 0 ⟨by omega, e0⟩ (by refine ⟨?_, ?_, rfl⟩<;>(repeat' (first|exact True.intro|exact rfl|(refine ⟨?_,?_⟩)|(intro h;cases h;done)|fail));done) ?_
 rintro i ⟨hi, hp⟩
 by_cases hil : i < l.length
 ·obtain ⟨x, hx⟩ := some_of_lt hil
  rw [nmGo_at hx] at hp
  have hf := hf x
  have hg := hg x (List.mem_of_getElem? hx)
  have hd := ev_dname x.name
  have hm := mget_seenS Pt.name x.name (l.take i)
  cases hb : nameB x.name with
  | false =>
   rw [hb, if_pos rfl] at hp
   rw [hb] at hd
   conv => whnf
   repeat' (first|((refine PickE.map i hx (by omega) ?_);conv=>whnf)|((with_reducible refine Split.of_false ?_);conv=>whnf)|(with_reducible refine Split.neg ?_)|((with_reducible refine Split.dec (fun _=>?_) (fun _=>?_))<;>conv=>whnf)|((with_reducible refine Need.mk ?_ ?_);(first|omega|rfl|decide|(refine ⟨?_,?_⟩<;>simp<;>omega)|(simp;omega));conv=>whnf)|((with_reducible refine AltK.l ?_);(conv=>whnf);(first|(refine CallK.mk _ (hf) ?_)|(refine CallK.mk _ (hg) ?_)|(refine CallK.mk _ (hd) ?_));conv=>whnf)|(exfalso;first|omega|contradiction)|fail)
   rw [hp]; rfl
  | true =>
   rw [hb, if_neg (by decide)] at hp
   rw [hb] at hd
   conv => whnf
   repeat' (first|((refine PickE.map i hx (by omega) ?_);conv=>whnf)|((with_reducible refine Split.of_true ?_);conv=>whnf)|(with_reducible refine Split.neg ?_)|((with_reducible refine Split.dec (fun _=>?_) (fun _=>?_))<;>conv=>whnf)|((with_reducible refine Need.mk ?_ ?_);(first|omega|rfl|decide|(refine ⟨?_,?_⟩<;>simp<;>omega)|(simp;omega));conv=>whnf)|((with_reducible refine AltK.l ?_);(conv=>whnf);(first|(refine CallK.mk _ (hf) ?_)|(refine CallK.mk _ (hg) ?_)|(refine CallK.mk _ (hd) ?_));conv=>whnf)|(exfalso;first|omega|contradiction)|fail)
   refine LookK.mk (fun v hv => ?_) (fun hv => ?_)
   ·rw [hm] at hv
    split at hv
    ·rename_i h1
     cases hv
     rw [if_pos h1] at hp
     conv => whnf
     repeat' (first|((with_reducible refine Split.of_true ?_);conv=>whnf)|fail)
     rw [hp]; rfl
    ·cases hv
   ·have h1 : ¬ metB Pt.name (l.take i) x.name = true := fun h => by rw [hm, if_pos h] at hv; cases hv
    rw [if_neg h1] at hp
    have hs := seenS_snoc hx hv
    by_cases ho : own x = 0
    ·rw [ho, if_neg (by decide)] at hp
     rw [ho] at hg
     conv => whnf
     repeat' (first|((with_reducible refine Split.of_false ?_);conv=>whnf)|((with_reducible refine Split.is_false ?_ ?_);decide;conv=>whnf)|((with_reducible refine Need.mk ?_ ?_);(first|omega|rfl|decide|(refine ⟨?_,?_⟩<;>simp<;>omega)|(simp;omega));conv=>whnf)|((with_reducible refine Wr.inr ?_ ?_);(first|omega|(simp;omega));conv=>whnf)|((with_reducible refine AltK.l ?_);(conv=>whnf);(first|(refine CallK.mk _ (hg) ?_));conv=>whnf)|fail)
     exact Again.au (i + 1) ⟨by omega, hp⟩ (by omega) (by refine ⟨?_, ?_, rfl⟩<;>(repeat' (first|exact True.intro|exact rfl|(refine ⟨?_,?_⟩)|(intro h;cases h;done)|((first|refine own_congr ?_|refine int_congr ?_|skip);simp [hs];done)|fail));done)
    ·rw [if_pos ho] at hp
     conv => whnf
     repeat' (first|((with_reducible refine Split.of_false ?_);conv=>whnf)|((with_reducible refine Split.nez (fun _=>?_) (fun _=>?_))<;>conv=>whnf)|((with_reducible refine Need.mk ?_ ?_);(first|omega|rfl|decide|(refine ⟨?_,?_⟩<;>simp<;>omega)|(simp;omega));conv=>whnf)|((with_reducible refine Wr.inr ?_ ?_);(first|omega|(simp;omega));conv=>whnf)|((with_reducible refine AltK.l ?_);(conv=>whnf);(first|(refine CallK.mk _ (hg) ?_));conv=>whnf)|(exfalso;first|omega|contradiction)|fail)
     rw [hp]; rfl
 ·rw [List.drop_eq_nil_of_le (show l.length ≤ i by omega)] at hp
  rw [hp]
  conv => whnf
  repeat' (first|((with_reducible refine Split.dec (fun _=>?_) (fun _=>?_))<;>conv=>whnf)|((with_reducible refine Need.mk ?_ ?_);(first|omega|rfl|decide|(refine ⟨?_,?_⟩<;>simp<;>omega)|(simp;omega));conv=>whnf)|(exfalso;first|omega|contradiction)|fail)
  rfl
theorem ev_namedB (l : List Bk) (f g : Nat) (own : Bk → Int) (hn : l.length ≤ 1000000) (hf : ∀ p, Ev Tryz.prog f [bkD p] (.str p.soil)) (hg : ∀ p ∈ l, Ev Tryz.prog g [bkD p] (iD (own p))) :
 Ev Tryz.prog 55 [.sl 3 (l.map bkD), .fn f [], .fn g []] (iD (nmGo Bk.soil own [] l)) := by
 have hlen : (l.map bkD).length = l.length := List.length_map _
 have e0 : nmGo Bk.soil own [] l = nmGo Bk.soil own (l.take 0) (l.drop 0) := rfl
 refine ev_of_awp tysOk mixed (fn := Tryz.f55) Tryz.func55 rfl rfl rfl ?_
 conv => whnf
 skip
 refine LoopK.o2 (fun i : Nat => i ≤ l.length ∧ nmGo Bk.soil own [] l = nmGo Bk.soil own (l.take i) (l.drop i)) (fun i => [(15, .d (.int .i64 i))]) (fun i => [(12, .map 9 4 .string (seenS Bk.soil (l.take i)))]) (fun i => l.length - i) 0 ⟨by omega, e0⟩ (by refine ⟨?_, ?_, rfl⟩<;>(repeat' (first|exact True.intro|exact rfl|(refine ⟨?_,?_⟩)|(intro h;cases h;done)|fail));done) ?_
 rintro i ⟨hi, hp⟩
 by_cases hil : i < l.length
 ·obtain ⟨x, hx⟩ := some_of_lt hil
  rw [nmGo_at hx] at hp
  have hf := hf x
  have hg := hg x (List.mem_of_getElem? hx)
  have hd := ev_dname x.soil
  have hm := mget_seenS Bk.soil x.soil (l.take i)
  cases hb : nameB x.soil with
  | false =>
   rw [hb, if_pos rfl] at hp
   rw [hb] at hd
   conv => whnf
   repeat' (first|((refine PickE.map i hx (by omega) ?_);conv=>whnf)|((with_reducible refine Split.of_false ?_);conv=>whnf)|(with_reducible refine Split.neg ?_)|((with_reducible refine Split.dec (fun _=>?_) (fun _=>?_))<;>conv=>whnf)|((with_reducible refine Need.mk ?_ ?_);(first|omega|rfl|decide|(refine ⟨?_,?_⟩<;>simp<;>omega)|(simp;omega));conv=>whnf)|((with_reducible refine AltK.l ?_);(conv=>whnf);(first|(refine CallK.mk _ (hf) ?_)|(refine CallK.mk _ (hg) ?_)|(refine CallK.mk _ (hd) ?_));conv=>whnf)|(exfalso;first|omega|contradiction)|fail)
   rw [hp]; rfl
  | true =>
   rw [hb, if_neg (by decide)] at hp
   rw [hb] at hd
   conv => whnf
   repeat' (first|((refine PickE.map i hx (by omega) ?_);conv=>whnf)|((with_reducible refine Split.of_true ?_);conv=>whnf)|(with_reducible refine Split.neg ?_)|((with_reducible refine Split.dec (fun _=>?_) (fun _=>?_))<;>conv=>whnf)|((with_reducible refine Need.mk ?_ ?_);(first|omega|rfl|decide|(refine ⟨?_,?_⟩<;>simp<;>omega)|(simp;omega));conv=>whnf)|((with_reducible refine AltK.l ?_);(conv=>whnf);(first|(refine CallK.mk _ (hf) ?_)|(refine CallK.mk _ (hg) ?_)|(refine CallK.mk _ (hd) ?_));conv=>whnf)|(exfalso;first|omega|contradiction)|fail)
   refine LookK.mk (fun v hv => ?_) (fun hv => ?_)
   ·rw [hm] at hv
    split at hv
    ·rename_i h1
     cases hv
     rw [if_pos h1] at hp
     conv => whnf
     repeat' (first|((with_reducible refine Split.of_true ?_);conv=>whnf)|fail)
     rw [hp]; rfl
    ·cases hv
   ·have h1 : ¬ metB Bk.soil (l.take i) x.soil = true := fun h => by rw [hm, if_pos h] at hv; cases hv
    rw [if_neg h1] at hp
    have hs := seenS_snoc hx hv
    by_cases ho : own x = 0
    ·rw [ho, if_neg (by decide)] at hp
     rw [ho] at hg
     conv => whnf
     repeat' (first|((with_reducible refine Split.of_false ?_);conv=>whnf)|((with_reducible refine Split.is_false ?_ ?_);decide;conv=>whnf)|((with_reducible refine Need.mk ?_ ?_);(first|omega|rfl|decide|(refine ⟨?_,?_⟩<;>simp<;>omega)|(simp;omega));conv=>whnf)|((with_reducible refine Wr.inr ?_ ?_);(first|omega|(simp;omega));conv=>whnf)|((with_reducible refine AltK.l ?_);(conv=>whnf);(first|(refine CallK.mk _ (hg) ?_));conv=>whnf)|fail)
     exact Again.au (i + 1) ⟨by omega, hp⟩ (by omega) (by refine ⟨?_, ?_, rfl⟩<;>(repeat' (first|exact True.intro|exact rfl|(refine ⟨?_,?_⟩)|(intro h;cases h;done)|((first|refine own_congr ?_|refine int_congr ?_|skip);simp [hs];done)|fail));done)
    ·rw [if_pos ho] at hp
     conv => whnf
     repeat' (first|((with_reducible refine Split.of_false ?_);conv=>whnf)|((with_reducible refine Split.nez (fun _=>?_) (fun _=>?_))<;>conv=>whnf)|((with_reducible refine Need.mk ?_ ?_);(first|omega|rfl|decide|(refine ⟨?_,?_⟩<;>simp<;>omega)|(simp;omega));conv=>whnf)|((with_reducible refine Wr.inr ?_ ?_);(first|omega|(simp;omega));conv=>whnf)|((with_reducible refine AltK.l ?_);(conv=>whnf);(first|(refine CallK.mk _ (hg) ?_));conv=>whnf)|(exfalso;first|omega|contradiction)|fail)
     rw [hp]; rfl
 ·rw [List.drop_eq_nil_of_le (show l.length ≤ i by omega)] at hp
  rw [hp]
  conv => whnf
  repeat' (first|((with_reducible refine Split.dec (fun _=>?_) (fun _=>?_))<;>conv=>whnf)|((with_reducible refine Need.mk ?_ ?_);(first|omega|rfl|decide|(refine ⟨?_,?_⟩<;>simp<;>omega)|(simp;omega));conv=>whnf)|(exfalso;first|omega|contradiction)|fail)
  rfl
end Go.Proofs.Tryz
end

section
namespace Go.Proofs.Tryz
open Go Go.Vm
set_option maxRecDepth 20000
set_option maxHeartbeats 4000000
/-! Disposal: pits, factors, deposits. -/
def clsGo : Option Int → List Int → Int
 | _, [] => 0
 | p, c :: r => if outsideB c 0 9 = true then 2 else if p.any (fun q => decide (c ≤ q)) = true then 9 else clsGo (some c) r
def prevI (l : List Int) : Nat → Option Int
 | 0 => none
 | i + 1 => l[i]?
theorem cls_at {l : List Int} {i : Nat} {c : Int} (h : l[i]? = some c) : clsGo (prevI l i) (l.drop i) = if outsideB c 0 9 = true then 2 else if (prevI l i).any (fun q => decide (c ≤ q)) = true then 9 else clsGo (prevI l (i + 1)) (l.drop (i + 1)) := by
 have e : prevI l (i + 1) = some c := h
 rw [drop_of h, clsGo, e]
def ptErr (p : Pt) : Int := if (outsideB p.area 1 1000000000 || outsideB p.base (-20000) 20000 || outsideB p.top (-20000) 20000) = true then 2 else if p.top ≤ p.base then 9 else if outsideB p.price 0 10000 = true then 2 else clsGo none p.cls
theorem ev_checkPit (p : Pt) (hn : p.cls.length ≤ 1000000) : Ev Tryz.prog 54 [ptD p] (iD (ptErr p)) := by
 have hlen : (p.cls.map iD).length = p.cls.length := List.length_map _
 have hA := ev_dwithin p.area 1 1000000000
 have hB := ev_dwithin p.base (-20000) 20000
 have hT := ev_dwithin p.top (-20000) 20000
 have hP := ev_dwithin p.price 0 10000
 unfold ptErr
 generalize outsideB p.area 1 1000000000 = a1 at *
 generalize outsideB p.base (-20000) 20000 = a2 at *
 generalize outsideB p.top (-20000) 20000 = a3 at *
 generalize outsideB p.price 0 10000 = a4 at *
 by_cases h1 : (a1 || a2 || a3) = true
 ·rw [if_pos h1]
  refine ev_of_awp tysOk mixed (fn := Tryz.f54) Tryz.func54 rfl rfl rfl ?_
  conv => whnf
  repeat' (first|((with_reducible refine Split.of_true ?_);conv=>whnf)|(with_reducible refine Split.neg ?_)|((with_reducible refine Split.dec (fun _=>?_) (fun _=>?_))<;>conv=>whnf)|((with_reducible refine Split.mk (fun _=>?_) (fun _=>?_))<;>conv=>whnf)|((with_reducible refine AltK.l ?_);(conv=>whnf);(first|(refine CallK.mk _ (hA) ?_)|(refine CallK.mk _ (hB) ?_)|(refine CallK.mk _ (hT) ?_)|(refine CallK.mk _ (hP) ?_));conv=>whnf)|fail)
  all_goals first
   | rfl
   |(exfalso; simp_all; done)
 rw [if_neg h1]
 have h1 : a1 = false ∧ a2 = false ∧ a3 = false := by simpa [and_assoc] using h1
 obtain ⟨rfl, rfl, rfl⟩ := h1
 by_cases h2 : p.top ≤ p.base
 ·rw [if_pos h2]
  refine ev_of_awp tysOk mixed (fn := Tryz.f54) Tryz.func54 rfl rfl rfl ?_
  conv => whnf
  repeat' (first|((with_reducible refine Split.of_false ?_);conv=>whnf)|(with_reducible refine Split.neg ?_)|((with_reducible refine Split.dec (fun _=>?_) (fun _=>?_))<;>conv=>whnf)|((with_reducible refine Split.mk (fun _=>?_) (fun _=>?_))<;>conv=>whnf)|((with_reducible refine AltK.l ?_);(conv=>whnf);(first|(refine CallK.mk _ (hA) ?_)|(refine CallK.mk _ (hB) ?_)|(refine CallK.mk _ (hT) ?_)|(refine CallK.mk _ (hP) ?_));conv=>whnf)|(exfalso;first|omega|contradiction)|fail)
  all_goals first
   | rfl
   |(exfalso; omega)
 rw [if_neg h2]
 cases a4 with
 | true =>
  rw [if_pos rfl]
  refine ev_of_awp tysOk mixed (fn := Tryz.f54) Tryz.func54 rfl rfl rfl ?_
  conv => whnf
  repeat' (first|((with_reducible first|refine Split.of_true ?_|refine Split.of_false ?_);conv=>whnf)|(with_reducible refine Split.neg ?_)|((with_reducible refine Split.dec (fun _=>?_) (fun _=>?_))<;>conv=>whnf)|((with_reducible refine AltK.l ?_);(conv=>whnf);(first|(refine CallK.mk _ (hA) ?_)|(refine CallK.mk _ (hB) ?_)|(refine CallK.mk _ (hT) ?_)|(refine CallK.mk _ (hP) ?_));conv=>whnf)|(exfalso;first|omega|contradiction)|fail)
  all_goals first
   | rfl
   |(exfalso; omega)
 | false =>
 rw [if_neg (by decide)]
 have e0 : clsGo none p.cls = clsGo (prevI p.cls 0) (p.cls.drop 0) := rfl
 refine ev_of_awp tysOk mixed (fn := Tryz.f54) Tryz.func54 rfl rfl rfl ?_
 conv => whnf
 repeat' (first|((with_reducible refine Split.of_false ?_);conv=>whnf)|(with_reducible refine Split.neg ?_)|((with_reducible refine Split.dec (fun _=>?_) (fun _=>?_))<;>conv=>whnf)|((with_reducible refine AltK.l ?_);(conv=>whnf);(first|(refine CallK.mk _ (hA) ?_)|(refine CallK.mk _ (hB) ?_)|(refine CallK.mk _ (hT) ?_)|(refine CallK.mk _ (hP) ?_));conv=>whnf)|(exfalso;first|omega|contradiction)|fail)
 refine LoopK.o2 (fun i : Nat => i ≤ p.cls.length ∧ clsGo none p.cls = clsGo (prevI p.cls i) (p.cls.drop i)) (fun i => [(36, .d (.int .i64 i))]) (fun _ => []) (fun i => p.cls.length - i) 0 ⟨by omega, e0⟩ (by refine ⟨?_, ?_, rfl⟩<;>(repeat' (first|exact True.intro|exact rfl|(refine ⟨?_,?_⟩)|(intro h;cases h;done)|fail));done) ?_
 rintro i ⟨hi, hp⟩
 by_cases hil : i < p.cls.length
 ·obtain ⟨c, hc⟩ := some_of_lt hil
  have hC := ev_dwithin c 0 9
  rw [cls_at hc] at hp
  cases ho : outsideB c 0 9 with
  | true =>
   rw [ho, if_pos rfl] at hp
   rw [ho] at hC
   conv => whnf
   repeat' (first|((refine PickE.map i hc (by omega) ?_);conv=>whnf)|((with_reducible refine Split.of_true ?_);conv=>whnf)|(with_reducible refine Split.neg ?_)|((with_reducible refine Split.dec (fun _=>?_) (fun _=>?_))<;>conv=>whnf)|((with_reducible refine Need.mk ?_ ?_);(first|omega|rfl|decide|(refine ⟨?_,?_⟩<;>simp<;>omega)|(simp;omega));conv=>whnf)|((with_reducible refine AltK.l ?_);(conv=>whnf);(first|(refine CallK.mk _ (hC) ?_));conv=>whnf)|(exfalso;first|omega|contradiction)|fail)
   rw [hp]; rfl
  | false =>
   rw [ho, if_neg (by decide)] at hp
   rw [ho] at hC
   by_cases hz : i = 0
   ·subst hz
    rw [if_neg (by simp [prevI])] at hp
    conv => whnf
    repeat' (first|((refine PickE.map 0 hc (by omega) ?_);conv=>whnf)|((with_reducible refine Split.of_false ?_);conv=>whnf)|(with_reducible refine Split.neg ?_)|((with_reducible refine Split.is_false ?_ ?_);decide;conv=>whnf)|((with_reducible refine Split.dec (fun _=>?_) (fun _=>?_))<;>conv=>whnf)|((with_reducible refine Need.mk ?_ ?_);(first|omega|rfl|decide|(refine ⟨?_,?_⟩<;>simp<;>omega)|(simp;omega));conv=>whnf)|((with_reducible refine Wr.inr ?_ ?_);(first|omega|(simp;omega));conv=>whnf)|((with_reducible refine AltK.l ?_);(conv=>whnf);(first|(refine CallK.mk _ (hC) ?_));conv=>whnf)|(exfalso;first|omega|contradiction)|fail)
    all_goals first
     | exact Again.au (0 + 1) ⟨by omega, hp⟩ (by omega) (by refine ⟨?_, ?_, rfl⟩<;>(repeat' (first|exact True.intro|exact rfl|(refine ⟨?_,?_⟩)|(intro h;cases h;done)|fail));done)
     |(exfalso; omega)
   ·obtain ⟨q, hq⟩ := some_of_lt (show i - 1 < p.cls.length by omega)
    have hpv : prevI p.cls i = some q := by
     cases i with
     | zero => exact absurd rfl hz
     | succ j => simpa [prevI] using hq
    rw [hpv] at hp
    by_cases hle : c ≤ q
    ·rw [if_pos (by simp [hle])] at hp
     conv => whnf
     repeat' (first|((refine PickE.map (i - 1) hq (by omega) ?_);conv=>whnf)|((refine PickE.map i hc (by omega) ?_);conv=>whnf)|((with_reducible refine Split.of_false ?_);conv=>whnf)|(with_reducible refine Split.neg ?_)|((with_reducible refine Split.dec (fun _=>?_) (fun _=>?_))<;>conv=>whnf)|((with_reducible refine Need.mk ?_ ?_);(first|omega|rfl|decide|(refine ⟨?_,?_⟩<;>simp<;>omega)|(simp;omega));conv=>whnf)|((with_reducible refine Wr.inr ?_ ?_);(first|omega|(simp;omega));conv=>whnf)|((with_reducible refine AltK.l ?_);(conv=>whnf);(first|(refine CallK.mk _ (hC) ?_));conv=>whnf)|(exfalso;first|omega|contradiction)|fail)
     all_goals first
      |(rw [hp]; rfl)
      |(exfalso; omega)
    ·rw [if_neg (by simp; omega)] at hp
     conv => whnf
     repeat' (first|((refine PickE.map (i - 1) hq (by omega) ?_);conv=>whnf)|((refine PickE.map i hc (by omega) ?_);conv=>whnf)|((with_reducible refine Split.of_false ?_);conv=>whnf)|(with_reducible refine Split.neg ?_)|((with_reducible refine Split.dec (fun _=>?_) (fun _=>?_))<;>conv=>whnf)|((with_reducible refine Need.mk ?_ ?_);(first|omega|rfl|decide|(refine ⟨?_,?_⟩<;>simp<;>omega)|(simp;omega));conv=>whnf)|((with_reducible refine Wr.inr ?_ ?_);(first|omega|(simp;omega));conv=>whnf)|((with_reducible refine AltK.l ?_);(conv=>whnf);(first|(refine CallK.mk _ (hC) ?_));conv=>whnf)|(exfalso;first|omega|contradiction)|fail)
     all_goals first
      | exact Again.au (i + 1) ⟨by omega, hp⟩ (by omega) (by refine ⟨?_, ?_, rfl⟩<;>(repeat' (first|exact True.intro|exact rfl|(refine ⟨?_,?_⟩)|(intro h;cases h;done)|fail));done)
      |(exfalso; omega)
 ·rw [List.drop_eq_nil_of_le (show p.cls.length ≤ i by omega)] at hp
  rw [hp]
  conv => whnf
  repeat' (first|((with_reducible refine Split.dec (fun _=>?_) (fun _=>?_))<;>conv=>whnf)|((with_reducible refine Need.mk ?_ ?_);(first|omega|rfl|decide|(refine ⟨?_,?_⟩<;>simp<;>omega)|(simp;omega));conv=>whnf)|(exfalso;first|omega|contradiction)|fail)
  cases prevI p.cls i <;> rfl
def bkErr (b : Bk) : Int := if (outsideB b.den 1 1000 || outsideB b.num 1 (10 * b.den)) = true then 2 else 0
theorem ev_checkFactor (b : Bk) : Ev Tryz.prog 57 [bkD b] (iD (bkErr b)) := by
 have h1 := ev_dwithin b.den 1 1000
 have h2 := ev_dwithin b.num 1 (10 * b.den)
 unfold bkErr
 cases ho : outsideB b.den 1 1000 with
 | true =>
  rw [ho] at h1
  refine ev_of_awp tysOk mixed (fn := Tryz.f57) Tryz.func57 rfl rfl rfl ?_
  conv => whnf
  repeat' (first|((with_reducible refine Split.of_true ?_);conv=>whnf)|(with_reducible refine Split.neg ?_)|((with_reducible refine AltK.l ?_);(conv=>whnf);(first|(refine CallK.mk _ (h1) ?_)|(refine CallK.mk _ (h2) ?_));conv=>whnf)|fail)
  rfl
 | false =>
  rw [ho] at h1
  have hd : 1 ≤ b.den ∧ b.den ≤ 1000 := by simp [outsideB] at ho; omega
  rw [Bool.false_or]
  generalize outsideB b.num 1 (10 * b.den) = x at *
  refine ev_of_awp tysOk mixed (fn := Tryz.f57) Tryz.func57 rfl rfl rfl ?_
  conv => whnf
  repeat' (first|((with_reducible refine Split.of_false ?_);conv=>whnf)|(with_reducible refine Split.neg ?_)|((with_reducible refine Split.mk (fun _=>?_) (fun _=>?_))<;>conv=>whnf)|((with_reducible refine Wr.inr ?_ ?_);(first|omega|(simp;omega));conv=>whnf)|((with_reducible refine AltK.l ?_);(conv=>whnf);(first|(refine CallK.mk _ (h1) ?_)|(refine CallK.mk _ (h2) ?_));conv=>whnf)|fail)
  all_goals (simp_all [retOf, iD])
theorem ev_Check1 (p : Pt) : Ev Tryz.prog 53 [ptD p] (.str p.name) := by
 refine ev_of_awp tysOk mixed (fn := Tryz.f53) Tryz.func53 rfl rfl rfl ?_
 conv => whnf
 skip
 rfl
theorem ev_Check2 (b : Bk) : Ev Tryz.prog 56 [bkD b] (.str b.soil) := by
 refine ev_of_awp tysOk mixed (fn := Tryz.f56) Tryz.func56 rfl rfl rfl ?_
 conv => whnf
 skip
 rfl
end Go.Proofs.Tryz
end

section
namespace Go.Proofs.Tryz
open Go Go.Vm
set_option maxRecDepth 20000
set_option maxHeartbeats 4000000
/-! Disposal: pits and factors by name; what a pit has taken; deposits. -/
def sEq (a b : ByteArray) : Bool := a.toList == b.toList
theorem sEq_self (a : ByteArray) : sEq a a = true := by simp [sEq]
theorem sEq_ne {a b : ByteArray} (h : a ≠ b) : sEq a b = false := by
 rw [Bool.eq_false_iff]; intro h1; exact h (toList_inj (by simpa [sEq] using h1))
def ixI {α : Type} (p : α → Bool) (l : List α) : Int := match l.findIdx? p with | some i => (i : Int) | none => -1
theorem ev_IndexPt (l : List Pt) (f : Nat) (caps : List D) (p : Pt → Bool) (hn : l.length ≤ 1000000) (hf : ∀ g ∈ l, Ev Tryz.prog f ([ptD g] ++ caps) (.bool (p g))) :
 Ev Tryz.prog 71 [.sl 6 (l.map ptD), .fn f caps] (iD (ixI p l)) := by
 have hlen : (l.map ptD).length = l.length := List.length_map _
 refine ev_of_awp tysOk mixed (fn := Tryz.f71) Tryz.func71 rfl rfl rfl ?_
 conv => whnf
 skip
 refine LoopK.o2 (fun i : Nat => i ≤ l.length ∧ ∀ g ∈ l.take i, p g = false) (fun i => [(8, .d (.int .i64 i))]) (fun _ => []) (fun i => l.length - i) 0 (by simp) (by refine ⟨?_, ?_, rfl⟩<;>(repeat' (first|exact True.intro|exact rfl|(refine ⟨?_,?_⟩)|fail));done) ?_
 rintro i ⟨hi, hp⟩
 have hn : (i : Int) < l.length → ∃ m, l[i]? = some m := fun h => some_of_lt (by omega)
 conv => whnf
 repeat' (first|((with_reducible refine Split.dec (fun _=>?_) (fun _=>?_))<;>conv=>whnf)|((with_reducible refine Need.mk ?_ ?_);(first|omega|rfl|decide|(refine ⟨?_,?_⟩<;>simp<;>omega)|(simp;omega));conv=>whnf)|fail)
 ·obtain ⟨g, hg⟩ := hn (by omega)
  have hf := hf g (List.mem_of_getElem? hg)
  conv => whnf
  repeat' (first|((refine PickE.map i hg (by omega) ?_);conv=>whnf)|fail)
  refine AltK.l ?_
  conv => whnf
  refine CallK.mk _ hf ?_
  conv => whnf
  refine Split.mk (fun hpg => ?_) (fun hpg => ?_)
  ·conv => whnf
   skip
   have e : l.findIdx? p = some i := by
    rw [List.findIdx?_eq_some_iff_getElem]
    refine ⟨by omega, by rw [(List.getElem?_eq_some_iff.1 hg).2]; exact hpg, fun j hj => ?_⟩
    have := hp l[j] (List.mem_take_iff_getElem.2 ⟨j, by omega, rfl⟩)
    rw [this]; decide
   rw [ixI, e]; rfl
  ·conv => whnf
   conv => whnf
   repeat' (first|((with_reducible refine Wr.inr ?_ ?_);(first|omega|(simp;omega));conv=>whnf)|fail)
   refine Again.au (i + 1) ⟨by omega, fun x hx => ?_⟩ (by omega) (by refine ⟨?_, ?_, rfl⟩<;>(repeat' (first|exact True.intro|exact rfl|(refine ⟨?_,?_⟩)|fail));done)
   rw [take_snoc hg] at hx
   rcases List.mem_append.1 hx with hx | hx
   ·exact hp x hx
   ·rw [List.mem_singleton.1 hx]; exact hpg
 ·have e : l.findIdx? p = none := by
   rw [List.findIdx?_eq_none_iff]
   intro x hx
   rw [← List.take_of_length_le (show l.length ≤ i by omega)] at hx
   exact hp x hx
  rw [ixI, e]; rfl
theorem ev_IndexBk (l : List Bk) (f : Nat) (caps : List D) (p : Bk → Bool) (hn : l.length ≤ 1000000) (hf : ∀ g ∈ l, Ev Tryz.prog f ([bkD g] ++ caps) (.bool (p g))) :
 Ev Tryz.prog 99 [.sl 3 (l.map bkD), .fn f caps] (iD (ixI p l)) := by
 have hlen : (l.map bkD).length = l.length := List.length_map _
 refine ev_of_awp tysOk mixed (fn := Tryz.f99) Tryz.func99 rfl rfl rfl ?_
 conv => whnf
 skip
 refine LoopK.o2 (fun i : Nat => i ≤ l.length ∧ ∀ g ∈ l.take i, p g = false) (fun i => [(8, .d (.int .i64 i))]) (fun _ => []) (fun i => l.length - i) 0 (by simp) (by refine ⟨?_, ?_, rfl⟩<;>(repeat' (first|exact True.intro|exact rfl|(refine ⟨?_,?_⟩)|fail));done) ?_
 rintro i ⟨hi, hp⟩
 have hn : (i : Int) < l.length → ∃ m, l[i]? = some m := fun h => some_of_lt (by omega)
 conv => whnf
 repeat' (first|((with_reducible refine Split.dec (fun _=>?_) (fun _=>?_))<;>conv=>whnf)|((with_reducible refine Need.mk ?_ ?_);(first|omega|rfl|decide|(refine ⟨?_,?_⟩<;>simp<;>omega)|(simp;omega));conv=>whnf)|fail)
 ·obtain ⟨g, hg⟩ := hn (by omega)
  have hf := hf g (List.mem_of_getElem? hg)
  conv => whnf
  repeat' (first|((refine PickE.map i hg (by omega) ?_);conv=>whnf)|fail)
  refine AltK.l ?_
  conv => whnf
  refine CallK.mk _ hf ?_
  conv => whnf
  refine Split.mk (fun hpg => ?_) (fun hpg => ?_)
  ·conv => whnf
   skip
   have e : l.findIdx? p = some i := by
    rw [List.findIdx?_eq_some_iff_getElem]
    refine ⟨by omega, by rw [(List.getElem?_eq_some_iff.1 hg).2]; exact hpg, fun j hj => ?_⟩
    have := hp l[j] (List.mem_take_iff_getElem.2 ⟨j, by omega, rfl⟩)
    rw [this]; decide
   rw [ixI, e]; rfl
  ·conv => whnf
   conv => whnf
   repeat' (first|((with_reducible refine Wr.inr ?_ ?_);(first|omega|(simp;omega));conv=>whnf)|fail)
   refine Again.au (i + 1) ⟨by omega, fun x hx => ?_⟩ (by omega) (by refine ⟨?_, ?_, rfl⟩<;>(repeat' (first|exact True.intro|exact rfl|(refine ⟨?_,?_⟩)|fail));done)
   rw [take_snoc hg] at hx
   rcases List.mem_append.1 hx with hx | hx
   ·exact hp x hx
   ·rw [List.mem_singleton.1 hx]; exact hpg
 ·have e : l.findIdx? p = none := by
   rw [List.findIdx?_eq_none_iff]
   intro x hx
   rw [← List.take_of_length_le (show l.length ≤ i by omega)] at hx
   exact hp x hx
  rw [ixI, e]; rfl
theorem ev_IndexDp (l : List Dp) (f : Nat) (caps : List D) (p : Dp → Bool) (hn : l.length ≤ 1000000) (hf : ∀ g ∈ l, Ev Tryz.prog f ([dpD g] ++ caps) (.bool (p g))) :
 Ev Tryz.prog 98 [.sl 3 (l.map dpD), .fn f caps] (iD (ixI p l)) := by
 have hlen : (l.map dpD).length = l.length := List.length_map _
 refine ev_of_awp tysOk mixed (fn := Tryz.f98) Tryz.func98 rfl rfl rfl ?_
 conv => whnf
 skip
 refine LoopK.o2 (fun i : Nat => i ≤ l.length ∧ ∀ g ∈ l.take i, p g = false) (fun i => [(8, .d (.int .i64 i))]) (fun _ => []) (fun i => l.length - i) 0 (by simp) (by refine ⟨?_, ?_, rfl⟩<;>(repeat' (first|exact True.intro|exact rfl|(refine ⟨?_,?_⟩)|fail));done) ?_
 rintro i ⟨hi, hp⟩
 have hn : (i : Int) < l.length → ∃ m, l[i]? = some m := fun h => some_of_lt (by omega)
 conv => whnf
 repeat' (first|((with_reducible refine Split.dec (fun _=>?_) (fun _=>?_))<;>conv=>whnf)|((with_reducible refine Need.mk ?_ ?_);(first|omega|rfl|decide|(refine ⟨?_,?_⟩<;>simp<;>omega)|(simp;omega));conv=>whnf)|fail)
 ·obtain ⟨g, hg⟩ := hn (by omega)
  have hf := hf g (List.mem_of_getElem? hg)
  conv => whnf
  repeat' (first|((refine PickE.map i hg (by omega) ?_);conv=>whnf)|fail)
  refine AltK.l ?_
  conv => whnf
  refine CallK.mk _ hf ?_
  conv => whnf
  refine Split.mk (fun hpg => ?_) (fun hpg => ?_)
  ·conv => whnf
   skip
   have e : l.findIdx? p = some i := by
    rw [List.findIdx?_eq_some_iff_getElem]
    refine ⟨by omega, by rw [(List.getElem?_eq_some_iff.1 hg).2]; exact hpg, fun j hj => ?_⟩
    have := hp l[j] (List.mem_take_iff_getElem.2 ⟨j, by omega, rfl⟩)
    rw [this]; decide
   rw [ixI, e]; rfl
  ·conv => whnf
   conv => whnf
   repeat' (first|((with_reducible refine Wr.inr ?_ ?_);(first|omega|(simp;omega));conv=>whnf)|fail)
   refine Again.au (i + 1) ⟨by omega, fun x hx => ?_⟩ (by omega) (by refine ⟨?_, ?_, rfl⟩<;>(repeat' (first|exact True.intro|exact rfl|(refine ⟨?_,?_⟩)|fail));done)
   rw [take_snoc hg] at hx
   rcases List.mem_append.1 hx with hx | hx
   ·exact hp x hx
   ·rw [List.mem_singleton.1 hx]; exact hpg
 ·have e : l.findIdx? p = none := by
   rw [List.findIdx?_eq_none_iff]
   intro x hx
   rw [← List.take_of_length_le (show l.length ≤ i by omega)] at hx
   exact hp x hx
  rw [ixI, e]; rfl
theorem ix_at {α : Type} {p : α → Bool} {l : List α} (h : ¬ ixI p l < 0) : ∃ (i : Nat) (r : α), ixI p l = i ∧ l[i]? = some r ∧ p r = true := by
 unfold ixI at h ⊢
 split
 ·rename_i i hi
  obtain ⟨h1, h2, -⟩ := List.findIdx?_eq_some_iff_getElem.1 hi
  exact ⟨i, l[i], rfl, List.getElem?_eq_getElem h1, h2⟩
 ·rename_i hi
  rw [hi] at h; simp at h
theorem ev_pitOf1 (p : Pt) (s : ByteArray) : Ev Tryz.prog 72 [ptD p, .ref [.str s] 0] (.bool (sEq p.name s)) := by
 refine ev_of_awp tysOk mixed (fn := Tryz.f72) Tryz.func72 rfl rfl rfl ?_
 conv => whnf
 skip
 rfl
theorem ev_factorOf1 (p : Bk) (s : ByteArray) : Ev Tryz.prog 100 [bkD p, .ref [.str s] 0] (.bool (sEq p.soil s)) := by
 refine ev_of_awp tysOk mixed (fn := Tryz.f100) Tryz.func100 rfl rfl rfl ?_
 conv => whnf
 skip
 rfl
def pitI (y : Yd) (s : ByteArray) : Int := ixI (fun p => sEq p.name s) y.pits
def facI (y : Yd) (s : ByteArray) : Int := ixI (fun b => sEq b.soil s) y.bulk
theorem ev_pitOf (y : Yd) (s : ByteArray) (hn : y.pits.length ≤ 1000000) : Ev Tryz.prog 41 [ydD y, .str s] (iD (pitI y s)) := by
 have h := ev_IndexPt y.pits 72 [.ref [.str s] 0] (fun p => sEq p.name s) hn (fun p _ => ev_pitOf1 p s)
 refine ev_of_awp tysOk mixed (fn := Tryz.f41) Tryz.func41 rfl rfl rfl ?_
 conv => whnf
 repeat' (first|((with_reducible refine AltK.l ?_);(conv=>whnf);(first|(refine CallK.mk _ (h) ?_));conv=>whnf)|fail)
 rfl
theorem ev_factorOf (y : Yd) (s : ByteArray) (hn : y.bulk.length ≤ 1000000) : Ev Tryz.prog 79 [ydD y, .str s] (iD (facI y s)) := by
 have h := ev_IndexBk y.bulk 100 [.ref [.str s] 0] (fun p => sEq p.soil s) hn (fun p _ => ev_factorOf1 p s)
 refine ev_of_awp tysOk mixed (fn := Tryz.f79) Tryz.func79 rfl rfl rfl ?_
 conv => whnf
 repeat' (first|((with_reducible refine AltK.l ?_);(conv=>whnf);(first|(refine CallK.mk _ (h) ?_));conv=>whnf)|fail)
 rfl
def capS (p : Pt) : Int := p.area * (p.top - p.base)
structure PtOk (p : Pt) : Prop where
 area : 1 ≤ p.area ∧ p.area ≤ 1000000000
 base : -20000 ≤ p.base ∧ p.base ≤ 20000
 top : -20000 ≤ p.top ∧ p.top ≤ 20000
 up : p.base < p.top
 price : 0 ≤ p.price ∧ p.price ≤ 10000
theorem pt_ok {p : Pt} (h : ptErr p = 0) : PtOk p := by
 unfold ptErr at h
 split at h
 ·cases h
 rename_i h1
 split at h
 ·cases h
 split at h
 ·cases h
 rename_i h2
 simp [outsideB] at h1 h2
 exact ⟨by omega, by omega, by omega, by omega, by omega⟩
theorem cap_bd {p : Pt} (h : PtOk p) : 1 ≤ capS p ∧ capS p ≤ 40000000000000 := by
 have h1 := h.area
 have h2 := h.base
 have h3 := h.top
 have h4 := h.up
 unfold capS
 have m1 : p.area * (p.top - p.base) ≤ 1000000000 * 40000 := Int.mul_le_mul (by omega) (by omega) (by omega) (by omega)
 have m2 : 1 * 1 ≤ p.area * (p.top - p.base) := Int.mul_le_mul (by omega) (by omega) (by omega) (by omega)
 omega
theorem ev_capacity {p : Pt} (h : PtOk p) : Ev Tryz.prog 102 [ptD p] (iD (capS p)) := by
 have hc := cap_bd h
 have h2 := h.base
 have h3 := h.top
 unfold capS at *
 refine ev_of_awp tysOk mixed (fn := Tryz.f102) Tryz.func102 rfl rfl rfl ?_
 conv => whnf
 repeat' (first|((with_reducible refine Wr.inr ?_ ?_);(first|omega|(simp;omega));conv=>whnf)|fail)
 rfl
def takS (s : ByteArray) : List Dp → Int
 | [] => 0
 | d :: r => (if sEq d.pit s = true then d.vol else 0) + takS s r
theorem takS_app (s : ByteArray) (b : List Dp) : ∀ a, takS s (a ++ b) = takS s a + takS s b
 | [] => by simp [takS]
 | d :: a => by rw [List.cons_append, takS, takS, takS_app s b a]; omega
theorem takS_snoc {s : ByteArray} {l : List Dp} {i : Nat} {d : Dp} (h : l[i]? = some d) : takS s (l.take (i + 1)) = takS s (l.take i) + if sEq d.pit s = true then d.vol else 0 := by
 rw [take_snoc h, takS_app]; simp [takS]
def volOk (l : List Dp) : Prop := ∀ d ∈ l, 0 ≤ d.vol ∧ d.vol ≤ 100000000000000
theorem takS_bd (s : ByteArray) : ∀ l : List Dp, volOk l → 0 ≤ takS s l ∧ takS s l ≤ 100000000000000 * l.length
 | [], _ => by simp [takS]
 | d :: r, h => by
  have ih := takS_bd s r (fun x hx => h x (List.mem_cons_of_mem _ hx))
  have hd := h d (by simp)
  rw [takS, List.length_cons]
  split <;> omega
theorem ev_taken (y : Yd) (s : ByteArray) (hv : volOk y.deps) (hn : y.deps.length ≤ 300) : Ev Tryz.prog 103 [ydD y, .str s] (iD (takS s y.deps)) := by
 have hlen : (y.deps.map dpD).length = y.deps.length := List.length_map _
 refine ev_of_awp tysOk mixed (fn := Tryz.f103) Tryz.func103 rfl rfl rfl ?_
 conv => whnf
 skip
 refine LoopK.o2 (fun i : Nat => i ≤ y.deps.length) (fun i => [(5, .d (iD (takS s (y.deps.take i)))), (11, .d (.int .i64 i))]) (fun _ => []) (fun i => y.deps.length - i) 0 (by simp) (by refine ⟨?_, ?_, rfl⟩<;>(repeat' (first|exact True.intro|exact rfl|(refine ⟨?_,?_⟩)|(intro h;cases h;done)|fail));done) ?_
 rintro i hi
 have hb := takS_bd s (y.deps.take i) (fun x hx => hv x (List.mem_of_mem_take hx))
 have hl : (y.deps.take i).length ≤ 300 := by rw [List.length_take]; omega
 by_cases hil : i < y.deps.length
 ·obtain ⟨d, hd⟩ := some_of_lt hil
  have hs := takS_snoc (s := s) hd
  have hdv := hv d (List.mem_of_getElem? hd)
  by_cases he : d.pit = s
  ·rw [he, sEq_self, if_pos rfl] at hs
   conv => whnf
   repeat' (first|((refine PickE.map i hd (by omega) ?_);conv=>whnf)|((with_reducible refine Split.streq (fun _=>?_) (fun _=>?_))<;>conv=>whnf)|((with_reducible refine Split.dec (fun _=>?_) (fun _=>?_))<;>conv=>whnf)|((with_reducible refine Need.mk ?_ ?_);(first|omega|rfl|decide|(refine ⟨?_,?_⟩<;>simp<;>omega)|(simp;omega));conv=>whnf)|((with_reducible refine Wr.inr ?_ ?_);(first|omega|(simp;omega));conv=>whnf)|(exfalso;first|omega|contradiction)|fail)
   ·refine Again.au (i + 1) (by omega) (by omega) ?_
    rw [hs]
    exact (by refine ⟨?_, ?_, rfl⟩<;>(repeat' (first|exact True.intro|exact rfl|(refine ⟨?_,?_⟩)|(intro h;cases h;done)|fail));done)
   all_goals (exfalso; contradiction)
  ·rw [sEq_ne he, if_neg (by decide)] at hs
   conv => whnf
   repeat' (first|((refine PickE.map i hd (by omega) ?_);conv=>whnf)|((with_reducible refine Split.streq (fun _=>?_) (fun _=>?_))<;>conv=>whnf)|((with_reducible refine Split.dec (fun _=>?_) (fun _=>?_))<;>conv=>whnf)|((with_reducible refine Need.mk ?_ ?_);(first|omega|rfl|decide|(refine ⟨?_,?_⟩<;>simp<;>omega)|(simp;omega));conv=>whnf)|((with_reducible refine Wr.inr ?_ ?_);(first|omega|(simp;omega));conv=>whnf)|(exfalso;first|omega|contradiction)|fail)
   all_goals first
    |(exfalso; contradiction)
    |(refine Again.au (i + 1) (by omega) (by omega) ?_
      rw [hs, Int.add_zero]
      exact (by refine ⟨?_, ?_, rfl⟩<;>(repeat' (first|exact True.intro|exact rfl|(refine ⟨?_,?_⟩)|(intro h;cases h;done)|fail));done))
 ·have e : y.deps.take i = y.deps := List.take_of_length_le (by omega)
  conv => whnf
  repeat' (first|((with_reducible refine Split.dec (fun _=>?_) (fun _=>?_))<;>conv=>whnf)|((with_reducible refine Need.mk ?_ ?_);(first|omega|rfl|decide|(refine ⟨?_,?_⟩<;>simp<;>omega)|(simp;omega));conv=>whnf)|(exfalso;first|omega|contradiction)|fail)
  rw [e]; rfl
def roomS (y : Yd) (p : Pt) : Int := capS p - takS p.name y.deps
theorem ev_room (y : Yd) {p : Pt} (hp : PtOk p) (hv : volOk y.deps) (hn : y.deps.length ≤ 300) : Ev Tryz.prog 81 [ydD y, ptD p] (iD (roomS y p)) := by
 have h1 := ev_capacity hp
 have h2 := ev_taken y p.name hv hn
 have b1 := cap_bd hp
 have b2 := takS_bd p.name y.deps hv
 unfold roomS
 generalize capS p = c at *
 generalize takS p.name y.deps = t at *
 refine ev_of_awp tysOk mixed (fn := Tryz.f81) Tryz.func81 rfl rfl rfl ?_
 conv => whnf
 repeat' (first|((with_reducible refine Wr.inr ?_ ?_);(first|omega|(simp;omega));conv=>whnf)|((with_reducible refine AltK.l ?_);(conv=>whnf);(first|(refine CallK.mk _ (h1) ?_)|(refine CallK.mk _ (h2) ?_));conv=>whnf)|fail)
 rfl
end Go.Proofs.Tryz
end

section
namespace Go.Proofs.Tryz
open Go Go.Vm
set_option maxRecDepth 20000
set_option maxHeartbeats 4000000
/-! Disposal: Check. -/
def dpGo (y : Yd) : List Dp → List Dp → Int
 | _, [] => 0
 | o, d :: r => if outsideB d.batch 1 1000000 = true then 2 else if o.any (fun x => x.batch == d.batch) = true then 5 else if pitI y d.pit < 0 then 6 else if outsideB d.vol 0 100000000000000 = true then 2 else dpGo y (o ++ [d]) r
theorem dpGo_at {y : Yd} {l : List Dp} {i : Nat} {d : Dp} (h : l[i]? = some d) : dpGo y (l.take i) (l.drop i) =
 if outsideB d.batch 1 1000000 = true then 2 else if (l.take i).any (fun x => x.batch == d.batch) = true then 5 else if pitI y d.pit < 0 then 6 else if outsideB d.vol 0 100000000000000 = true then 2 else dpGo y (l.take (i + 1)) (l.drop (i + 1)) := by
 rw [drop_of h, dpGo, take_snoc h]
theorem dpGo_vol {y : Yd} : ∀ {r o : List Dp}, dpGo y o r = 0 → volOk r
 | [], _, _ => fun _ h => by cases h
 | d :: r, o, h => by
  rw [dpGo] at h
  split at h
  ·cases h
  split at h
  ·cases h
  split at h
  ·cases h
  split at h
  ·cases h
  rename_i hv
  intro x hx
  rcases List.mem_cons.1 hx with rfl | hx
  ·simp [outsideB] at hv; omega
  ·exact dpGo_vol h x hx
def dpsErr (y : Yd) : Int := if 200 < y.deps.length then 8 else if dpGo y [] y.deps ≠ 0 then dpGo y [] y.deps else if y.pits.any (fun p => decide (roomS y p < 0)) = true then 19 else 0
theorem any_no {α : Type} {p : α → Bool} {l : List α} {i : Nat} {a : α} (h : l[i]? = some a) (hp : (l.take i).any p = false) (ha : p a = false) : (l.take (i + 1)).any p = false := by
 rw [take_snoc h, List.any_append, hp]; simp [ha]
theorem any_yes {α : Type} {p : α → Bool} {l : List α} {i : Nat} {a : α} (h : l[i]? = some a) (ha : p a = true) : l.any p = true :=
 List.any_eq_true.2 ⟨a, List.mem_of_getElem? h, ha⟩
theorem ev_checkDeposits (y : Yd) (hP : ∀ p ∈ y.pits, PtOk p) (hn : y.pits.length ≤ 8) : Ev Tryz.prog 59 [ydD y] (iD (dpsErr y)) := by
 have hlen : (y.deps.map dpD).length = y.deps.length := List.length_map _
 have hlp : (y.pits.map ptD).length = y.pits.length := List.length_map _
 unfold dpsErr
 by_cases h0 : 200 < y.deps.length
 ·rw [if_pos h0]
  refine ev_of_awp tysOk mixed (fn := Tryz.f59) Tryz.func59 rfl rfl rfl ?_
  conv => whnf
  repeat' (first|((with_reducible refine Split.dec (fun _=>?_) (fun _=>?_))<;>conv=>whnf)|(exfalso;first|omega|contradiction)|fail)
  all_goals first
   | rfl
   |(exfalso; omega)
 rw [if_neg h0]
 have e0 : dpGo y [] y.deps = dpGo y (y.deps.take 0) (y.deps.drop 0) := rfl
 refine ev_of_awp tysOk mixed (fn := Tryz.f59) Tryz.func59 rfl rfl rfl ?_
 conv => whnf
 repeat' (first|((with_reducible refine Split.dec (fun _=>?_) (fun _=>?_))<;>conv=>whnf)|(exfalso;first|omega|contradiction)|fail)
 refine LoopK.o2 (fun i : Nat => i ≤ y.deps.length ∧ dpGo y [] y.deps = dpGo y (y.deps.take i) (y.deps.drop i)) (fun i => [(16, .d (.int .i64 i))]) (fun i => [(12, .map 3 4 (.int .i64) (seenD Dp.batch (y.deps.take i)))]) (fun i => y.deps.length - i) 0 ⟨by omega, e0⟩ (by refine ⟨?_, ?_, rfl⟩<;>(repeat' (first|exact True.intro|exact rfl|(refine ⟨?_,?_⟩)|(intro h;cases h;done)|fail));done) ?_
 rintro i ⟨hi, hp⟩
 by_cases hil : i < y.deps.length
 ·obtain ⟨d, hd⟩ := some_of_lt hil
  rw [dpGo_at hd] at hp
  have w1 := ev_dwithin d.batch 1 1000000
  have w2 := ev_dwithin d.vol 0 100000000000000
  have w3 := ev_pitOf y d.pit (by omega)
  have hm := mget_seen Dp.batch d.batch (y.deps.take i)
  cases hb : outsideB d.batch 1 1000000 with
  | true =>
   rw [hb, if_pos rfl] at hp
   rw [hb] at w1
   conv => whnf
   repeat' (first|((refine PickE.map i hd (by omega) ?_);conv=>whnf)|((with_reducible refine Split.of_true ?_);conv=>whnf)|(with_reducible refine Split.neg ?_)|((with_reducible refine Split.dec (fun _=>?_) (fun _=>?_))<;>conv=>whnf)|((with_reducible refine Need.mk ?_ ?_);(first|omega|rfl|decide|(refine ⟨?_,?_⟩<;>simp<;>omega)|(simp;omega));conv=>whnf)|((with_reducible refine AltK.l ?_);(conv=>whnf);(first|(refine CallK.mk _ (w1) ?_)|(refine CallK.mk _ (w2) ?_)|(refine CallK.mk _ (w3) ?_));conv=>whnf)|(exfalso;first|omega|contradiction)|fail)
   rw [hp]; rfl
  | false =>
   rw [hb, if_neg (by decide)] at hp
   rw [hb] at w1
   conv => whnf
   repeat' (first|((refine PickE.map i hd (by omega) ?_);conv=>whnf)|((with_reducible refine Split.of_false ?_);conv=>whnf)|(with_reducible refine Split.neg ?_)|((with_reducible refine Split.dec (fun _=>?_) (fun _=>?_))<;>conv=>whnf)|((with_reducible refine Need.mk ?_ ?_);(first|omega|rfl|decide|(refine ⟨?_,?_⟩<;>simp<;>omega)|(simp;omega));conv=>whnf)|((with_reducible refine AltK.l ?_);(conv=>whnf);(first|(refine CallK.mk _ (w1) ?_));conv=>whnf)|(exfalso;first|omega|contradiction)|fail)
   refine LookK.mk (fun v hv => ?_) (fun hv => ?_)
   ·rw [hm] at hv
    split at hv
    ·rename_i h1
     cases hv
     rw [if_pos h1] at hp
     conv => whnf
     repeat' (first|((with_reducible refine Split.of_true ?_);conv=>whnf)|fail)
     rw [hp]; rfl
    ·cases hv
   ·have h1 : ¬ (y.deps.take i).any (fun x => x.batch == d.batch) = true := fun h => by rw [hm, if_pos h] at hv; cases hv
    rw [if_neg h1] at hp
    have hs := seen_snoc hd hv
    by_cases hpt : pitI y d.pit < 0
    ·rw [if_pos hpt] at hp
     conv => whnf
     repeat' (first|((with_reducible refine Split.of_false ?_);conv=>whnf)|(with_reducible refine Split.neg ?_)|((with_reducible refine Split.dec (fun _=>?_) (fun _=>?_))<;>conv=>whnf)|((with_reducible refine Split.mk (fun _=>?_) (fun _=>?_))<;>conv=>whnf)|((with_reducible refine Need.mk ?_ ?_);(first|omega|rfl|decide|(refine ⟨?_,?_⟩<;>simp<;>omega)|(simp;omega));conv=>whnf)|((with_reducible refine Wr.inr ?_ ?_);(first|omega|(simp;omega));conv=>whnf)|((with_reducible refine AltK.l ?_);(conv=>whnf);(first|(refine CallK.mk _ (w3) ?_)|(refine CallK.mk _ (w2) ?_));conv=>whnf)|(exfalso;first|omega|contradiction)|fail)
     all_goals first
      |(rw [hp]; rfl)
      |(exfalso; omega)
    ·rw [if_neg hpt] at hp
     cases hv2 : outsideB d.vol 0 100000000000000 with
     | true =>
      rw [hv2, if_pos rfl] at hp
      rw [hv2] at w2
      conv => whnf
      repeat' (first|((with_reducible first|refine Split.of_true ?_|refine Split.of_false ?_);conv=>whnf)|(with_reducible refine Split.neg ?_)|((with_reducible refine Split.dec (fun _=>?_) (fun _=>?_))<;>conv=>whnf)|((with_reducible refine AltK.l ?_);(conv=>whnf);(first|(refine CallK.mk _ (w3) ?_)|(refine CallK.mk _ (w2) ?_));conv=>whnf)|(exfalso;first|omega|contradiction)|fail)
      all_goals first
       |(rw [hp]; rfl)
       |(exfalso; omega)
     | false =>
      rw [hv2, if_neg (by decide)] at hp
      rw [hv2] at w2
      conv => whnf
      repeat' (first|((with_reducible refine Split.of_false ?_);conv=>whnf)|(with_reducible refine Split.neg ?_)|((with_reducible refine Split.dec (fun _=>?_) (fun _=>?_))<;>conv=>whnf)|((with_reducible refine Need.mk ?_ ?_);(first|omega|rfl|decide|(refine ⟨?_,?_⟩<;>simp<;>omega)|(simp;omega));conv=>whnf)|((with_reducible refine Wr.inr ?_ ?_);(first|omega|(simp;omega));conv=>whnf)|((with_reducible refine AltK.l ?_);(conv=>whnf);(first|(refine CallK.mk _ (w3) ?_)|(refine CallK.mk _ (w2) ?_));conv=>whnf)|(exfalso;first|omega|contradiction)|fail)
      all_goals first
       | exact Again.au (i + 1) ⟨by omega, hp⟩ (by omega) (by refine ⟨?_, ?_, rfl⟩<;>(repeat' (first|exact True.intro|exact rfl|(refine ⟨?_,?_⟩)|(intro h;cases h;done)|((first|refine own_congr ?_|refine int_congr ?_|skip);simp [hs];done)|fail));done)
       |(exfalso; omega)
 ·rw [List.drop_eq_nil_of_le (show y.deps.length ≤ i by omega)] at hp
  have hp : dpGo y [] y.deps = 0 := hp
  have hv := dpGo_vol hp
  rw [hp, if_neg (by decide)]
  conv => whnf
  repeat' (first|((with_reducible refine Split.dec (fun _=>?_) (fun _=>?_))<;>conv=>whnf)|((with_reducible refine Need.mk ?_ ?_);(first|omega|rfl|decide|(refine ⟨?_,?_⟩<;>simp<;>omega)|(simp;omega));conv=>whnf)|(exfalso;first|omega|contradiction)|fail)
  refine LoopK.o2 (fun k : Nat => k ≤ y.pits.length ∧ (y.pits.take k).any (fun p => decide (roomS y p < 0)) = false) (fun k => [(48, .d (.int .i64 k))]) (fun _ => []) (fun k => y.pits.length - k) 0 ⟨by omega, rfl⟩ (by refine ⟨?_, ?_, rfl⟩<;>(repeat' (first|exact True.intro|exact rfl|(refine ⟨?_,?_⟩)|(intro h;cases h;done)|fail));done) ?_
  rintro k ⟨hk, hq⟩
  by_cases hkl : k < y.pits.length
  ·obtain ⟨p, hpk⟩ := some_of_lt hkl
   have hR := ev_room y (hP p (List.mem_of_getElem? hpk)) hv (by omega)
   have hy := @any_yes _ (fun p => decide (roomS y p < 0)) y.pits k p hpk
   have hno := @any_no _ (fun p => decide (roomS y p < 0)) y.pits k p hpk hq
   conv => whnf
   repeat' (first|((refine PickE.map k hpk (by omega) ?_);conv=>whnf)|((with_reducible refine Split.dec (fun _=>?_) (fun _=>?_))<;>conv=>whnf)|((with_reducible refine Need.mk ?_ ?_);(first|omega|rfl|decide|(refine ⟨?_,?_⟩<;>simp<;>omega)|(simp;omega));conv=>whnf)|((with_reducible refine Wr.inr ?_ ?_);(first|omega|(simp;omega));conv=>whnf)|((with_reducible refine AltK.l ?_);(conv=>whnf);(first|(refine CallK.mk _ (hR) ?_));conv=>whnf)|(exfalso;first|omega|contradiction)|fail)
   ·rw [hy (by simpa using (by assumption : roomS y p < 0)), if_pos rfl]; rfl
   ·exact Again.au (k + 1) ⟨by omega, hno (by simp;omega)⟩ (by omega) (by refine ⟨?_, ?_, rfl⟩<;>(repeat' (first|exact True.intro|exact rfl|(refine ⟨?_,?_⟩)|(intro h;cases h;done)|fail));done)
  ·rw [List.take_of_length_le (by omega)] at hq
   rw [hq]
   conv => whnf
   repeat' (first|((with_reducible refine Split.dec (fun _=>?_) (fun _=>?_))<;>conv=>whnf)|((with_reducible refine Need.mk ?_ ?_);(first|omega|rfl|decide|(refine ⟨?_,?_⟩<;>simp<;>omega)|(simp;omega));conv=>whnf)|(exfalso;first|omega|contradiction)|fail)
   rfl
def carGo : List Bk → List Int → Int
 | _, [] => 0
 | [], _ :: _ => 0
 | b :: bs, c :: cs => if outsideB c 0 (b.den - 1) = true then 2 else carGo bs cs
theorem car_at {bs : List Bk} {cs : List Int} {i : Nat} {b : Bk} {c : Int} (hb : bs[i]? = some b) (hc : cs[i]? = some c) : carGo (bs.drop i) (cs.drop i) = if outsideB c 0 (b.den - 1) = true then 2 else carGo (bs.drop (i + 1)) (cs.drop (i + 1)) := by
 rw [drop_of hb, drop_of hc, carGo]
def ydErr (y : Yd) : Int :=
 if 8 < y.pits.length then 8 else if nmGo Pt.name ptErr [] y.pits ≠ 0 then nmGo Pt.name ptErr [] y.pits else
 if 20 < y.bulk.length then 8 else if nmGo Bk.soil bkErr [] y.bulk ≠ 0 then nmGo Bk.soil bkErr [] y.bulk else
 if y.carry.length ≠ y.bulk.length then 10 else if carGo y.bulk y.carry ≠ 0 then carGo y.bulk y.carry else dpsErr y
theorem nmGo_zero {α : Type} {nm : α → ByteArray} {own : α → Int} : ∀ {r o : List α}, nmGo nm own o r = 0 → ∀ x ∈ r, own x = 0 ∧ nameB (nm x) = true
 | [], _, _, _, h => by cases h
 | a :: r, o, h, x, hx => by
  rw [nmGo] at h
  split at h
  ·cases h
  rename_i h1
  split at h
  ·cases h
  split at h
  ·contradiction
  rename_i h2
  rcases List.mem_cons.1 hx with rfl | hx
  ·exact ⟨by simpa using h2, by simpa using h1⟩
  ·exact nmGo_zero h x hx
def smallP (y : Yd) : Prop := ∀ p ∈ y.pits, p.cls.length ≤ 1000000
theorem ev_DCheck (y : Yd) (hs : smallP y) : Ev Tryz.prog 19 [ydD y] (iD (ydErr y)) := by
 have hlp : (y.pits.map ptD).length = y.pits.length := List.length_map _
 have hlb : (y.bulk.map bkD).length = y.bulk.length := List.length_map _
 have hlc : (y.carry.map iD).length = y.carry.length := List.length_map _
 unfold ydErr
 by_cases h1 : 8 < y.pits.length
 ·rw [if_pos h1]
  refine ev_of_awp tysOk mixed (fn := Tryz.f19) Tryz.func19 rfl rfl rfl ?_
  conv => whnf
  repeat' (first|((with_reducible refine Split.dec (fun _=>?_) (fun _=>?_))<;>conv=>whnf)|(exfalso;first|omega|contradiction)|fail)
  all_goals first
   | rfl
   |(exfalso; omega)
 rw [if_neg h1]
 have n1 := ev_namedP y.pits 53 54 ptErr (by omega) ev_Check1 (fun p hp => ev_checkPit p (hs p hp))
 have z1 := @nmGo_zero _ Pt.name ptErr y.pits []
 generalize nmGo Pt.name ptErr [] y.pits = e1 at *
 by_cases h2 : e1 = 0
 case neg =>
  rw [if_pos h2]
  refine ev_of_awp tysOk mixed (fn := Tryz.f19) Tryz.func19 rfl rfl rfl ?_
  conv => whnf
  repeat' (first|((with_reducible refine Split.nez (fun _=>?_) (fun _=>?_))<;>conv=>whnf)|((with_reducible refine Split.dec (fun _=>?_) (fun _=>?_))<;>conv=>whnf)|((with_reducible refine AltK.l ?_);(conv=>whnf);(first|(refine CallK.mk _ (n1) ?_));conv=>whnf)|(exfalso;first|omega|contradiction)|fail)
  all_goals first
   | rfl
   |(exfalso; omega)
 subst h2
 rw [if_neg (by decide)]
 have hP : ∀ p ∈ y.pits, PtOk p := fun p hp => pt_ok (z1 rfl p hp).1
 by_cases h3 : 20 < y.bulk.length
 ·rw [if_pos h3]
  refine ev_of_awp tysOk mixed (fn := Tryz.f19) Tryz.func19 rfl rfl rfl ?_
  conv => whnf
  repeat' (first|((with_reducible refine Split.is_false ?_ ?_);decide;conv=>whnf)|((with_reducible refine Split.dec (fun _=>?_) (fun _=>?_))<;>conv=>whnf)|((with_reducible refine AltK.l ?_);(conv=>whnf);(first|(refine CallK.mk _ (n1) ?_));conv=>whnf)|(exfalso;first|omega|contradiction)|fail)
  all_goals first
   | rfl
   |(exfalso; omega)
 rw [if_neg h3]
 have n2 := ev_namedB y.bulk 56 57 bkErr (by omega) ev_Check2 (fun b _ => ev_checkFactor b)
 have z2 := @nmGo_zero _ Bk.soil bkErr y.bulk []
 generalize nmGo Bk.soil bkErr [] y.bulk = e2 at *
 by_cases h4 : e2 = 0
 case neg =>
  rw [if_pos h4]
  refine ev_of_awp tysOk mixed (fn := Tryz.f19) Tryz.func19 rfl rfl rfl ?_
  conv => whnf
  repeat' (first|((with_reducible refine Split.is_false ?_ ?_);decide;conv=>whnf)|((with_reducible refine Split.nez (fun _=>?_) (fun _=>?_))<;>conv=>whnf)|((with_reducible refine Split.dec (fun _=>?_) (fun _=>?_))<;>conv=>whnf)|((with_reducible refine AltK.l ?_);(conv=>whnf);(first|(refine CallK.mk _ (n1) ?_)|(refine CallK.mk _ (n2) ?_));conv=>whnf)|(exfalso;first|omega|contradiction)|fail)
  all_goals first
   | rfl
   |(exfalso; omega)
 subst h4
 rw [if_neg (by decide)]
 by_cases h5 : y.carry.length = y.bulk.length
 case neg =>
  rw [if_pos h5]
  refine ev_of_awp tysOk mixed (fn := Tryz.f19) Tryz.func19 rfl rfl rfl ?_
  conv => whnf
  repeat' (first|((with_reducible refine Split.is_false ?_ ?_);decide;conv=>whnf)|((with_reducible refine Split.nez (fun _=>?_) (fun _=>?_))<;>conv=>whnf)|((with_reducible refine Split.dec (fun _=>?_) (fun _=>?_))<;>conv=>whnf)|((with_reducible refine AltK.l ?_);(conv=>whnf);(first|(refine CallK.mk _ (n1) ?_)|(refine CallK.mk _ (n2) ?_));conv=>whnf)|(exfalso;first|omega|contradiction)|fail)
  all_goals first
   | rfl
   |(exfalso; omega)
 rw [if_neg (by simpa using h5)]
 have hD := ev_checkDeposits y hP (by omega)
 generalize dpsErr y = ed at *
 have e0 : carGo y.bulk y.carry = carGo (y.bulk.drop 0) (y.carry.drop 0) := rfl
 have hbk : ∀ b ∈ y.bulk, 1 ≤ b.den ∧ b.den ≤ 1000 := fun b hb => by
  have := (z2 rfl b hb).1
  unfold bkErr at this
  split at this
  ·cases this
  ·rename_i h; simp [outsideB] at h; omega
 refine ev_of_awp tysOk mixed (fn := Tryz.f19) Tryz.func19 rfl rfl rfl ?_
 conv => whnf
 repeat' (first|((with_reducible refine Split.is_false ?_ ?_);decide;conv=>whnf)|((with_reducible refine Split.nez (fun _=>?_) (fun _=>?_))<;>conv=>whnf)|((with_reducible refine Split.dec (fun _=>?_) (fun _=>?_))<;>conv=>whnf)|((with_reducible refine AltK.l ?_);(conv=>whnf);(first|(refine CallK.mk _ (n1) ?_)|(refine CallK.mk _ (n2) ?_));conv=>whnf)|(exfalso;first|omega|contradiction)|fail)
 refine LoopK.o2 (fun i : Nat => i ≤ y.carry.length ∧ carGo y.bulk y.carry = carGo (y.bulk.drop i) (y.carry.drop i)) (fun i => [(37, .d (.int .i64 i))]) (fun _ => []) (fun i => y.carry.length - i) 0 ⟨by omega, e0⟩ (by refine ⟨?_, ?_, rfl⟩<;>(repeat' (first|exact True.intro|exact rfl|(refine ⟨?_,?_⟩)|(intro h;cases h;done)|fail));done) ?_
 rintro i ⟨hi, hp⟩
 by_cases hil : i < y.carry.length
 ·obtain ⟨c, hc⟩ := some_of_lt hil
  obtain ⟨b, hb⟩ := some_of_lt (show i < y.bulk.length by omega)
  rw [car_at hb hc] at hp
  have hbb := hbk b (List.mem_of_getElem? hb)
  have w := ev_dwithin c 0 (b.den - 1)
  cases ho : outsideB c 0 (b.den - 1) with
  | true =>
   rw [ho, if_pos rfl] at hp
   rw [ho] at w
   conv => whnf
   repeat' (first|((refine PickE.map i hb (by omega) ?_);conv=>whnf)|((refine PickE.map i hc (by omega) ?_);conv=>whnf)|((with_reducible refine Split.of_true ?_);conv=>whnf)|(with_reducible refine Split.neg ?_)|((with_reducible refine Split.dec (fun _=>?_) (fun _=>?_))<;>conv=>whnf)|((with_reducible refine Need.mk ?_ ?_);(first|omega|rfl|decide|(refine ⟨?_,?_⟩<;>simp<;>omega)|(simp;omega));conv=>whnf)|((with_reducible refine Wr.inr ?_ ?_);(first|omega|(simp;omega));conv=>whnf)|((with_reducible refine AltK.l ?_);(conv=>whnf);(first|(refine CallK.mk _ (w) ?_));conv=>whnf)|(exfalso;first|omega|contradiction)|fail)
   rw [hp]; rfl
  | false =>
   rw [ho, if_neg (by decide)] at hp
   rw [ho] at w
   conv => whnf
   repeat' (first|((refine PickE.map i hb (by omega) ?_);conv=>whnf)|((refine PickE.map i hc (by omega) ?_);conv=>whnf)|((with_reducible refine Split.of_false ?_);conv=>whnf)|(with_reducible refine Split.neg ?_)|((with_reducible refine Split.dec (fun _=>?_) (fun _=>?_))<;>conv=>whnf)|((with_reducible refine Need.mk ?_ ?_);(first|omega|rfl|decide|(refine ⟨?_,?_⟩<;>simp<;>omega)|(simp;omega));conv=>whnf)|((with_reducible refine Wr.inr ?_ ?_);(first|omega|(simp;omega));conv=>whnf)|((with_reducible refine AltK.l ?_);(conv=>whnf);(first|(refine CallK.mk _ (w) ?_));conv=>whnf)|(exfalso;first|omega|contradiction)|fail)
   exact Again.au (i + 1) ⟨by omega, hp⟩ (by omega) (by refine ⟨?_, ?_, rfl⟩<;>(repeat' (first|exact True.intro|exact rfl|(refine ⟨?_,?_⟩)|(intro h;cases h;done)|fail));done)
 ·rw [List.drop_eq_nil_of_le (show y.carry.length ≤ i by omega), carGo] at hp
  rw [hp, if_neg (by decide)]
  conv => whnf
  repeat' (first|((with_reducible refine Split.dec (fun _=>?_) (fun _=>?_))<;>conv=>whnf)|((with_reducible refine Need.mk ?_ ?_);(first|omega|rfl|decide|(refine ⟨?_,?_⟩<;>simp<;>omega)|(simp;omega));conv=>whnf)|((with_reducible refine AltK.l ?_);(conv=>whnf);(first|(refine CallK.mk _ (hD) ?_));conv=>whnf)|(exfalso;first|omega|contradiction)|fail)
  rfl
end Go.Proofs.Tryz
end

section
namespace Go.Proofs.Tryz
open Go Go.Vm
set_option maxRecDepth 20000
set_option maxHeartbeats 4000000
/-! Disposal: the reference's Check (whole); batches. -/
def batErr (y : Yd) (b : Bt) : Int := if (outsideB b.n 1 1000000 || outsideB b.bed 0 1000000000000 || outsideB b.over 0 b.bed) = true then 2 else if facI y b.soil < 0 then 6 else if outsideB b.cls 0 9 = true then 2 else 0
theorem ev_checkBatch (y : Yd) (b : Bt) (hn : y.bulk.length ≤ 1000000) : Ev Tryz.prog 70 [ydD y, btD b] (iD (batErr y b)) := by
 have w1 := ev_dwithin b.n 1 1000000
 have w2 := ev_dwithin b.bed 0 1000000000000
 have w3 := ev_dwithin b.over 0 b.bed
 have w4 := ev_dwithin b.cls 0 9
 have w5 := ev_factorOf y b.soil hn
 unfold batErr
 generalize outsideB b.n 1 1000000 = a1 at *
 generalize outsideB b.bed 0 1000000000000 = a2 at *
 generalize outsideB b.over 0 b.bed = a3 at *
 generalize outsideB b.cls 0 9 = a4 at *
 generalize facI y b.soil = f at *
 by_cases hf : f < 0
 ·rw [if_pos hf]
  refine ev_of_awp tysOk mixed (fn := Tryz.f70) Tryz.func70 rfl rfl rfl ?_
  conv => whnf
  repeat' (first|((with_reducible refine Split.of_true ?_);conv=>whnf)|(with_reducible refine Split.neg ?_)|((with_reducible refine Split.dec (fun _=>?_) (fun _=>?_))<;>conv=>whnf)|((with_reducible refine Split.mk (fun _=>?_) (fun _=>?_))<;>conv=>whnf)|((with_reducible refine AltK.l ?_);(conv=>whnf);(first|(refine CallK.mk _ (w1) ?_)|(refine CallK.mk _ (w2) ?_)|(refine CallK.mk _ (w3) ?_)|(refine CallK.mk _ (w4) ?_)|(refine CallK.mk _ (w5) ?_));conv=>whnf)|(exfalso;first|omega|contradiction)|fail)
  all_goals first
   |(simp_all [retOf, iD]; done)
   |(exfalso; omega)
 ·rw [if_neg hf]
  refine ev_of_awp tysOk mixed (fn := Tryz.f70) Tryz.func70 rfl rfl rfl ?_
  conv => whnf
  repeat' (first|((with_reducible refine Split.of_true ?_);conv=>whnf)|(with_reducible refine Split.neg ?_)|((with_reducible refine Split.dec (fun _=>?_) (fun _=>?_))<;>conv=>whnf)|((with_reducible refine Split.mk (fun _=>?_) (fun _=>?_))<;>conv=>whnf)|((with_reducible refine AltK.l ?_);(conv=>whnf);(first|(refine CallK.mk _ (w1) ?_)|(refine CallK.mk _ (w2) ?_)|(refine CallK.mk _ (w3) ?_)|(refine CallK.mk _ (w4) ?_)|(refine CallK.mk _ (w5) ?_));conv=>whnf)|(exfalso;first|omega|contradiction)|fail)
  all_goals first
   |(simp_all [retOf, iD]; done)
   |(exfalso; omega)
def withErr (y : Yd) (b : Bt) : Int := if ydErr y ≠ 0 then ydErr y else batErr y b
theorem bulk_few {y : Yd} (h : ydErr y = 0) : y.bulk.length ≤ 20 := by
 unfold ydErr at h
 split at h
 ·cases h
 split at h
 ·contradiction
 split at h
 ·cases h
 omega
theorem ev_CheckBatch (y : Yd) (b : Bt) (hs : smallP y) : Ev Tryz.prog 40 [ydD y, btD b] (iD (withErr y b)) := by
 have h1 := ev_DCheck y hs
 unfold withErr
 by_cases h0 : ydErr y = 0
 ·have h2 := ev_checkBatch y b (by have := bulk_few h0; omega)
  rw [h0] at h1
  rw [if_neg (by simpa using h0)]
  refine ev_of_awp tysOk mixed (fn := Tryz.f40) Tryz.func40 rfl rfl rfl ?_
  conv => whnf
  repeat' (first|((with_reducible refine Split.is_false ?_ ?_);decide;conv=>whnf)|((with_reducible refine AltK.l ?_);(conv=>whnf);(first|(refine CallK.mk _ (h1) ?_)|(refine CallK.mk _ (h2) ?_));conv=>whnf)|fail)
  rfl
 ·rw [if_pos h0]
  refine ev_of_awp tysOk mixed (fn := Tryz.f40) Tryz.func40 rfl rfl rfl ?_
  conv => whnf
  repeat' (first|((with_reducible refine Split.nez (fun _=>?_) (fun _=>?_))<;>conv=>whnf)|((with_reducible refine AltK.l ?_);(conv=>whnf);(first|(refine CallK.mk _ (h1) ?_));conv=>whnf)|(exfalso;first|omega|contradiction)|fail)
  rfl
end Go.Proofs.Tryz
end
