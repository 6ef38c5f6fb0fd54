/- Texts VmTbl TxP TwA TwB TwC TwD TwG TwI TwL TwM SdA SdB, joined; what is not needed is left out. -/
import Derived.Test.YtokamphljnlkpaaGreatDoorProg
import Derived.Test.YtokamphljnlkpaaGreatDoorMgH
import Derived.Test.YtokamphljnlkpaaGreatDoorMgI
import Derived.Lib.AtoiTie
import Derived.Lib.ItoaLen
import Derived.Lib.SplitLaws
section
/- The types of the seat, as the evaluator looks them up (written by tbl.py). -/
namespace Go.Proofs.Tryz
open Go Go.Vm
def tbl : List (Nat × TI) := [
 (1, ⟨Go.TypeDesc.func { toList := [] } { toList := [] } Bool.false, 1, 8, [.junk]⟩),
 (2, ⟨Go.TypeDesc.int Go.IntKind.i64, 1, 8, [.d (.int .i64 0)]⟩),
 (3, ⟨Go.TypeDesc.int Go.IntKind.i64, 1, 8, [.d (.int .i64 0)]⟩),
 (4, ⟨Go.TypeDesc.bool, 1, 1, [.d (.bool false)]⟩),
 (5, ⟨Go.TypeDesc.int Go.IntKind.u8, 1, 1, [.d (.int .u8 0)]⟩),
 (6, ⟨Go.TypeDesc.int Go.IntKind.u8, 1, 1, [.d (.int .u8 0)]⟩),
 (7, ⟨Go.TypeDesc.struct { toList := [{ name := "x", type := 2, offset := 0, embedded := Bool.false, tag := "", pkgPath := "runtime", byteOffset := 0 }, { name := "y", type := 3, offset := 1, embedded := Bool.false, tag := "", pkgPath := "runtime", byteOffset := 8 }, { name := "signed", type := 4, offset := 2, embedded := Bool.false, tag := "", pkgPath := "runtime", byteOffset := 16 }, { name := "code", type := 6, offset := 3, embedded := Bool.false, tag := "", pkgPath := "runtime", byteOffset := 17 }] }, 4, 24, [.d (.int .i64 0), .d (.int .i64 0), .d (.bool false), .d (.int .u8 0)]⟩),
 (8, ⟨Go.TypeDesc.struct { toList := [{ name := "x", type := 2, offset := 0, embedded := Bool.false, tag := "", pkgPath := "runtime", byteOffset := 0 }, { name := "y", type := 3, offset := 1, embedded := Bool.false, tag := "", pkgPath := "runtime", byteOffset := 8 }, { name := "signed", type := 4, offset := 2, embedded := Bool.false, tag := "", pkgPath := "runtime", byteOffset := 16 }, { name := "code", type := 6, offset := 3, embedded := Bool.false, tag := "", pkgPath := "runtime", byteOffset := 17 }] }, 4, 24, [.d (.int .i64 0), .d (.int .i64 0), .d (.bool false), .d (.int .u8 0)]⟩),
 (9, ⟨Go.TypeDesc.string, 1, 16, [.d (.str ⟨⟨[]⟩⟩)]⟩),
 (10, ⟨Go.TypeDesc.string, 1, 16, [.d (.str ⟨⟨[]⟩⟩)]⟩),
 (11, ⟨Go.TypeDesc.string, 1, 16, [.d (.str ⟨⟨[]⟩⟩)]⟩),
 (12, ⟨Go.TypeDesc.int Go.IntKind.u64, 1, 8, [.d (.int .u64 0)]⟩),
 (15, ⟨Go.TypeDesc.pointer 227, 1, 8, [.d .np]⟩),
 (16, ⟨Go.TypeDesc.pointer 230, 1, 8, [.d .np]⟩),
 (17, ⟨Go.TypeDesc.pointer 238, 1, 8, [.d .np]⟩),
 (20, ⟨Go.TypeDesc.interface { toList := [] }, 1, 16, [.d (.ifc false)]⟩),
 (21, ⟨Go.TypeDesc.int Go.IntKind.i32, 1, 4, [.d (.int .i32 0)]⟩),
 (22, ⟨Go.TypeDesc.struct { toList := [{ name := "Number", type := 3, offset := 0, embedded := Bool.false, tag := "", pkgPath := "", byteOffset := 0 }, { name := "Minute", type := 3, offset := 1, embedded := Bool.false, tag := "", pkgPath := "", byteOffset := 8 }, { name := "X", type := 3, offset := 2, embedded := Bool.false, tag := "", pkgPath := "", byteOffset := 16 }, { name := "Y", type := 3, offset := 3, embedded := Bool.false, tag := "", pkgPath := "", byteOffset := 24 }, { name := "Depth", type := 3, offset := 4, embedded := Bool.false, tag := "", pkgPath := "", byteOffset := 32 }, { name := "Draught", type := 3, offset := 5, embedded := Bool.false, tag := "", pkgPath := "", byteOffset := 40 }, { name := "Error", type := 3, offset := 6, embedded := Bool.false, tag := "", pkgPath := "", byteOffset := 48 }] }, 7, 56, [.d (.int .i64 0), .d (.int .i64 0), .d (.int .i64 0), .d (.int .i64 0), .d (.int .i64 0), .d (.int .i64 0), .d (.int .i64 0)]⟩),
 (23, ⟨Go.TypeDesc.struct { toList := [{ name := "Number", type := 3, offset := 0, embedded := Bool.false, tag := "", pkgPath := "", byteOffset := 0 }, { name := "Minute", type := 3, offset := 1, embedded := Bool.false, tag := "", pkgPath := "", byteOffset := 8 }, { name := "X", type := 3, offset := 2, embedded := Bool.false, tag := "", pkgPath := "", byteOffset := 16 }, { name := "Y", type := 3, offset := 3, embedded := Bool.false, tag := "", pkgPath := "", byteOffset := 24 }, { name := "Depth", type := 3, offset := 4, embedded := Bool.false, tag := "", pkgPath := "", byteOffset := 32 }, { name := "Draught", type := 3, offset := 5, embedded := Bool.false, tag := "", pkgPath := "", byteOffset := 40 }, { name := "Error", type := 3, offset := 6, embedded := Bool.false, tag := "", pkgPath := "", byteOffset := 48 }] }, 7, 56, [.d (.int .i64 0), .d (.int .i64 0), .d (.int .i64 0), .d (.int .i64 0), .d (.int .i64 0), .d (.int .i64 0), .d (.int .i64 0)]⟩),
 (24, ⟨Go.TypeDesc.slice 52, 1, 24, [.nil 5]⟩),
 (25, ⟨Go.TypeDesc.func { toList := [24] } { toList := [4] } Bool.false, 1, 8, [.junk]⟩),
 (26, ⟨Go.TypeDesc.func { toList := [] } { toList := [4] } Bool.false, 1, 8, [.junk]⟩),
 (27, ⟨Go.TypeDesc.int Go.IntKind.i64, 1, 8, [.d (.int .i64 0)]⟩),
 (29, ⟨Go.TypeDesc.func { toList := [23] } { toList := [9, 27] } Bool.false, 1, 8, [.junk]⟩),
 (31, ⟨Go.TypeDesc.func { toList := [23] } { toList := [9, 3] } Bool.false, 1, 8, [.junk]⟩),
 (33, ⟨Go.TypeDesc.func { toList := [9] } { toList := [23, 27] } Bool.false, 1, 8, [.junk]⟩),
 (35, ⟨Go.TypeDesc.func { toList := [9] } { toList := [23, 3] } Bool.false, 1, 8, [.junk]⟩),
 (36, ⟨Go.TypeDesc.func { toList := [24] } { toList := [9, 27] } Bool.false, 1, 8, [.junk]⟩),
 (37, ⟨Go.TypeDesc.func { toList := [24] } { toList := [9, 3] } Bool.false, 1, 8, [.junk]⟩),
 (39, ⟨Go.TypeDesc.func { toList := [9] } { toList := [24, 3, 27] } Bool.false, 1, 8, [.junk]⟩),
 (41, ⟨Go.TypeDesc.func { toList := [9] } { toList := [24, 3, 3] } Bool.false, 1, 8, [.junk]⟩),
 (42, ⟨Go.TypeDesc.func { toList := [24, 27, 24, 3] } { toList := [4] } Bool.false, 1, 8, [.junk]⟩),
 (43, ⟨Go.TypeDesc.func { toList := [24, 24] } { toList := [4] } Bool.false, 1, 8, [.junk]⟩),
 (44, ⟨Go.TypeDesc.func { toList := [23, 24, 9] } { toList := [4] } Bool.false, 1, 8, [.junk]⟩),
 (45, ⟨Go.TypeDesc.struct { toList := [{ name := "Minute", type := 3, offset := 0, embedded := Bool.false, tag := "", pkgPath := "", byteOffset := 0 }, { name := "Level", type := 3, offset := 1, embedded := Bool.false, tag := "", pkgPath := "", byteOffset := 8 }] }, 2, 16, [.d (.int .i64 0), .d (.int .i64 0)]⟩),
 (46, ⟨Go.TypeDesc.struct { toList := [{ name := "Minute", type := 3, offset := 0, embedded := Bool.false, tag := "", pkgPath := "", byteOffset := 0 }, { name := "Level", type := 3, offset := 1, embedded := Bool.false, tag := "", pkgPath := "", byteOffset := 8 }] }, 2, 16, [.d (.int .i64 0), .d (.int .i64 0)]⟩),
 (47, ⟨Go.TypeDesc.slice 46, 1, 24, [.nil 2]⟩),
 (48, ⟨Go.TypeDesc.struct { toList := [{ name := "Name", type := 9, offset := 0, embedded := Bool.false, tag := "", pkgPath := "", byteOffset := 0 }, { name := "X", type := 3, offset := 1, embedded := Bool.false, tag := "", pkgPath := "", byteOffset := 16 }, { name := "Error", type := 3, offset := 2, embedded := Bool.false, tag := "", pkgPath := "", byteOffset := 24 }, { name := "Marks", type := 47, offset := 3, embedded := Bool.false, tag := "", pkgPath := "", byteOffset := 32 }] }, 4, 56, [.d (.str ⟨⟨[]⟩⟩), .d (.int .i64 0), .d (.int .i64 0), .nil 2]⟩),
 (49, ⟨Go.TypeDesc.struct { toList := [{ name := "Name", type := 9, offset := 0, embedded := Bool.false, tag := "", pkgPath := "", byteOffset := 0 }, { name := "X", type := 3, offset := 1, embedded := Bool.false, tag := "", pkgPath := "", byteOffset := 16 }, { name := "Error", type := 3, offset := 2, embedded := Bool.false, tag := "", pkgPath := "", byteOffset := 24 }, { name := "Marks", type := 47, offset := 3, embedded := Bool.false, tag := "", pkgPath := "", byteOffset := 32 }] }, 4, 56, [.d (.str ⟨⟨[]⟩⟩), .d (.int .i64 0), .d (.int .i64 0), .nil 2]⟩),
 (50, ⟨Go.TypeDesc.slice 49, 1, 24, [.nil 4]⟩),
 (51, ⟨Go.TypeDesc.struct { toList := [{ name := "Number", type := 3, offset := 0, embedded := Bool.false, tag := "", pkgPath := "", byteOffset := 0 }, { name := "X", type := 3, offset := 1, embedded := Bool.false, tag := "", pkgPath := "", byteOffset := 8 }, { name := "Y", type := 3, offset := 2, embedded := Bool.false, tag := "", pkgPath := "", byteOffset := 16 }, { name := "Lo", type := 3, offset := 3, embedded := Bool.false, tag := "", pkgPath := "", byteOffset := 24 }, { name := "Hi", type := 3, offset := 4, embedded := Bool.false, tag := "", pkgPath := "", byteOffset := 32 }] }, 5, 40, [.d (.int .i64 0), .d (.int .i64 0), .d (.int .i64 0), .d (.int .i64 0), .d (.int .i64 0)]⟩),
 (52, ⟨Go.TypeDesc.struct { toList := [{ name := "Number", type := 3, offset := 0, embedded := Bool.false, tag := "", pkgPath := "", byteOffset := 0 }, { name := "X", type := 3, offset := 1, embedded := Bool.false, tag := "", pkgPath := "", byteOffset := 8 }, { name := "Y", type := 3, offset := 2, embedded := Bool.false, tag := "", pkgPath := "", byteOffset := 16 }, { name := "Lo", type := 3, offset := 3, embedded := Bool.false, tag := "", pkgPath := "", byteOffset := 24 }, { name := "Hi", type := 3, offset := 4, embedded := Bool.false, tag := "", pkgPath := "", byteOffset := 32 }] }, 5, 40, [.d (.int .i64 0), .d (.int .i64 0), .d (.int .i64 0), .d (.int .i64 0), .d (.int .i64 0)]⟩),
 (54, ⟨Go.TypeDesc.func { toList := [50, 23] } { toList := [52, 27] } Bool.false, 1, 8, [.junk]⟩),
 (55, ⟨Go.TypeDesc.slice 3, 1, 24, [.nil 1]⟩),
 (56, ⟨Go.TypeDesc.slice 63, 1, 24, [.nil 2]⟩),
 (57, ⟨Go.TypeDesc.struct { toList := [{ name := "Kept", type := 55, offset := 0, embedded := Bool.false, tag := "", pkgPath := "", byteOffset := 0 }, { name := "Guards", type := 56, offset := 1, embedded := Bool.false, tag := "", pkgPath := "", byteOffset := 24 }] }, 2, 48, [.nil 1, .nil 2]⟩),
 (58, ⟨Go.TypeDesc.struct { toList := [{ name := "Kept", type := 55, offset := 0, embedded := Bool.false, tag := "", pkgPath := "", byteOffset := 0 }, { name := "Guards", type := 56, offset := 1, embedded := Bool.false, tag := "", pkgPath := "", byteOffset := 24 }] }, 2, 48, [.nil 1, .nil 2]⟩),
 (60, ⟨Go.TypeDesc.func { toList := [24, 3] } { toList := [58, 27] } Bool.false, 1, 8, [.junk]⟩),
 (61, ⟨Go.TypeDesc.func { toList := [] } { toList := [24] } Bool.false, 1, 8, [.junk]⟩),
 (62, ⟨Go.TypeDesc.func { toList := [55, 55] } { toList := [4] } Bool.false, 1, 8, [.junk]⟩),
 (63, ⟨Go.TypeDesc.array 2 3, 2, 16, [.d (.int .i64 0), .d (.int .i64 0)]⟩),
 (64, ⟨Go.TypeDesc.func { toList := [23] } { toList := [4] } Bool.false, 1, 8, [.junk]⟩),
 (65, ⟨Go.TypeDesc.func { toList := [55] } { toList := [9] } Bool.true, 1, 8, [.junk]⟩),
 (66, ⟨Go.TypeDesc.func { toList := [55] } { toList := [9] } Bool.false, 1, 8, [.junk]⟩),
 (68, ⟨Go.TypeDesc.func { toList := [9, 9] } { toList := [9, 4] } Bool.false, 1, 8, [.junk]⟩),
 (70, ⟨Go.TypeDesc.func { toList := [9, 3] } { toList := [55, 4] } Bool.false, 1, 8, [.junk]⟩),
 (71, ⟨Go.TypeDesc.func { toList := [9, 3] } { toList := [55] } Bool.false, 1, 8, [.junk]⟩),
 (72, ⟨Go.TypeDesc.func { toList := [24] } { toList := [27] } Bool.false, 1, 8, [.junk]⟩),
 (73, ⟨Go.TypeDesc.pointer 76, 1, 8, [.d .np]⟩),
 (74, ⟨Go.TypeDesc.slice 5, 1, 24, [.nil 1]⟩),
 (75, ⟨Go.TypeDesc.struct { toList := [{ name := "addr", type := 73, offset := 0, embedded := Bool.false, tag := "", pkgPath := "strings", byteOffset := 0 }, { name := "buf", type := 74, offset := 1, embedded := Bool.false, tag := "", pkgPath := "strings", byteOffset := 8 }] }, 2, 32, [.d .np, .nil 1]⟩),
 (76, ⟨Go.TypeDesc.struct { toList := [{ name := "addr", type := 73, offset := 0, embedded := Bool.false, tag := "", pkgPath := "strings", byteOffset := 0 }, { name := "buf", type := 74, offset := 1, embedded := Bool.false, tag := "", pkgPath := "strings", byteOffset := 8 }] }, 2, 32, [.d .np, .nil 1]⟩),
 (77, ⟨Go.TypeDesc.interface { toList := [("Error", 81)] }, 1, 16, [.d (.ifc false)]⟩),
 (78, ⟨Go.TypeDesc.interface { toList := [("Error", 81)] }, 1, 16, [.d (.ifc false)]⟩),
 (80, ⟨Go.TypeDesc.func { toList := [9] } { toList := [3, 78] } Bool.false, 1, 8, [.junk]⟩),
 (81, ⟨Go.TypeDesc.func { toList := [] } { toList := [9] } Bool.false, 1, 8, [.junk]⟩),
 (82, ⟨Go.TypeDesc.func { toList := [24] } { toList := [3] } Bool.false, 1, 8, [.junk]⟩),
 (83, ⟨Go.TypeDesc.func { toList := [52] } { toList := [9] } Bool.false, 1, 8, [.junk]⟩),
 (84, ⟨Go.TypeDesc.func { toList := [115] } { toList := [] } Bool.false, 1, 8, [.junk]⟩),
 (85, ⟨Go.TypeDesc.func { toList := [115] } { toList := [] } Bool.false, 1, 8, [.junk]⟩),
 (86, ⟨Go.TypeDesc.func { toList := [9] } { toList := [85] } Bool.false, 1, 8, [.junk]⟩),
 (87, ⟨Go.TypeDesc.func { toList := [52] } { toList := [4] } Bool.false, 1, 8, [.junk]⟩),
 (88, ⟨Go.TypeDesc.slice 9, 1, 24, [.nil 1]⟩),
 (89, ⟨Go.TypeDesc.func { toList := [9, 5] } { toList := [88] } Bool.false, 1, 8, [.junk]⟩),
 (90, ⟨Go.TypeDesc.struct { toList := [{ name := "Lo", type := 3, offset := 0, embedded := Bool.false, tag := "", pkgPath := "", byteOffset := 0 }, { name := "Hi", type := 3, offset := 1, embedded := Bool.false, tag := "", pkgPath := "", byteOffset := 8 }] }, 2, 16, [.d (.int .i64 0), .d (.int .i64 0)]⟩),
 (91, ⟨Go.TypeDesc.struct { toList := [{ name := "Lo", type := 3, offset := 0, embedded := Bool.false, tag := "", pkgPath := "", byteOffset := 0 }, { name := "Hi", type := 3, offset := 1, embedded := Bool.false, tag := "", pkgPath := "", byteOffset := 8 }] }, 2, 16, [.d (.int .i64 0), .d (.int .i64 0)]⟩),
 (93, ⟨Go.TypeDesc.func { toList := [50, 3, 3] } { toList := [91, 27] } Bool.false, 1, 8, [.junk]⟩),
 (94, ⟨Go.TypeDesc.func { toList := [23, 91] } { toList := [52] } Bool.false, 1, 8, [.junk]⟩),
 (95, ⟨Go.TypeDesc.func { toList := [3] } { toList := [27] } Bool.false, 1, 8, [.junk]⟩),
 (96, ⟨Go.TypeDesc.func { toList := [24] } { toList := [24] } Bool.false, 1, 8, [.junk]⟩),
 (97, ⟨Go.TypeDesc.func { toList := [24, 100] } { toList := [] } Bool.false, 1, 8, [.junk]⟩),
 (98, ⟨Go.TypeDesc.func { toList := [55] } { toList := [3] } Bool.true, 1, 8, [.junk]⟩),
 (99, ⟨Go.TypeDesc.func { toList := [3, 3] } { toList := [3] } Bool.false, 1, 8, [.junk]⟩),
 (100, ⟨Go.TypeDesc.func { toList := [52, 52] } { toList := [3] } Bool.false, 1, 8, [.junk]⟩),
 (101, ⟨Go.TypeDesc.func { toList := [24, 87] } { toList := [3] } Bool.false, 1, 8, [.junk]⟩),
 (102, ⟨Go.TypeDesc.func { toList := [52, 3, 3] } { toList := [3] } Bool.false, 1, 8, [.junk]⟩),
 (103, ⟨Go.TypeDesc.func { toList := [55] } { toList := [] } Bool.false, 1, 8, [.junk]⟩),
 (104, ⟨Go.TypeDesc.func { toList := [56, 105] } { toList := [] } Bool.false, 1, 8, [.junk]⟩),
 (105, ⟨Go.TypeDesc.func { toList := [63, 63] } { toList := [3] } Bool.false, 1, 8, [.junk]⟩),
 (106, ⟨Go.TypeDesc.func { toList := [3, 3, 55] } { toList := [4] } Bool.true, 1, 8, [.junk]⟩),
 (107, ⟨Go.TypeDesc.func { toList := [3] } { toList := [9] } Bool.false, 1, 8, [.junk]⟩),
 (108, ⟨Go.TypeDesc.func { toList := [88, 9] } { toList := [9] } Bool.false, 1, 8, [.junk]⟩),
 (109, ⟨Go.TypeDesc.func { toList := [3, 3, 3] } { toList := [4] } Bool.false, 1, 8, [.junk]⟩),
 (110, ⟨Go.TypeDesc.func { toList := [9, 9] } { toList := [88] } Bool.false, 1, 8, [.junk]⟩),
 (111, ⟨Go.TypeDesc.func { toList := [9] } { toList := [3] } Bool.false, 1, 8, [.junk]⟩),
 (112, ⟨Go.TypeDesc.func { toList := [24, 87, 113] } { toList := [27] } Bool.false, 1, 8, [.junk]⟩),
 (113, ⟨Go.TypeDesc.func { toList := [52] } { toList := [3] } Bool.false, 1, 8, [.junk]⟩),
 (114, ⟨Go.TypeDesc.pointer 5, 1, 8, [.d .np]⟩),
 (115, ⟨Go.TypeDesc.func { toList := [9, 4] } { toList := [4] } Bool.false, 1, 8, [.junk]⟩),
 (117, ⟨Go.TypeDesc.func { toList := [9, 9] } { toList := [9, 9, 4] } Bool.false, 1, 8, [.junk]⟩),
 (118, ⟨Go.TypeDesc.func { toList := [50] } { toList := [27] } Bool.false, 1, 8, [.junk]⟩),
 (120, ⟨Go.TypeDesc.func { toList := [50, 3, 3] } { toList := [91, 4] } Bool.false, 1, 8, [.junk]⟩),
 (121, ⟨Go.TypeDesc.func { toList := [24, 3, 3, 3, 100] } { toList := [] } Bool.false, 1, 8, [.junk]⟩),
 (122, ⟨Go.TypeDesc.func { toList := [123] } { toList := [3] } Bool.false, 1, 8, [.junk]⟩),
 (123, ⟨Go.TypeDesc.int Go.IntKind.u64, 1, 8, [.d (.int .u64 0)]⟩),
 (124, ⟨Go.TypeDesc.func { toList := [3] } { toList := [4] } Bool.false, 1, 8, [.junk]⟩),
 (125, ⟨Go.TypeDesc.func { toList := [55, 3, 3, 3] } { toList := [] } Bool.false, 1, 8, [.junk]⟩),
 (126, ⟨Go.TypeDesc.func { toList := [56, 3, 3, 3, 105] } { toList := [] } Bool.false, 1, 8, [.junk]⟩),
 (127, ⟨Go.TypeDesc.func { toList := [55, 124] } { toList := [4] } Bool.false, 1, 8, [.junk]⟩),
 (128, ⟨Go.TypeDesc.func { toList := [3] } { toList := [] } Bool.false, 1, 8, [.junk]⟩),
 (129, ⟨Go.TypeDesc.func { toList := [9, 9] } { toList := [4] } Bool.false, 1, 8, [.junk]⟩),
 (130, ⟨Go.TypeDesc.func { toList := [9, 9, 3, 3] } { toList := [88] } Bool.false, 1, 8, [.junk]⟩),
 (131, ⟨Go.TypeDesc.func { toList := [9, 9, 3, 3, 78] } { toList := [78] } Bool.false, 1, 8, [.junk]⟩),
 (132, ⟨Go.TypeDesc.map 3 4, 1, 8, [.junk]⟩),
 (134, ⟨Go.TypeDesc.func { toList := [133] } { toList := [133] } Bool.false, 1, 8, [.junk]⟩),
 (135, ⟨Go.TypeDesc.func { toList := [9] } { toList := [4] } Bool.false, 1, 8, [.junk]⟩),
 (136, ⟨Go.TypeDesc.func { toList := [50, 137] } { toList := [4] } Bool.false, 1, 8, [.junk]⟩),
 (137, ⟨Go.TypeDesc.func { toList := [49] } { toList := [4] } Bool.false, 1, 8, [.junk]⟩),
 (138, ⟨Go.TypeDesc.func { toList := [49] } { toList := [27] } Bool.false, 1, 8, [.junk]⟩),
 (140, ⟨Go.TypeDesc.func { toList := [50, 3, 141] } { toList := [3, 4] } Bool.false, 1, 8, [.junk]⟩),
 (141, ⟨Go.TypeDesc.func { toList := [49, 3] } { toList := [3] } Bool.false, 1, 8, [.junk]⟩),
 (142, ⟨Go.TypeDesc.func { toList := [49, 3] } { toList := [91, 4] } Bool.false, 1, 8, [.junk]⟩),
 (143, ⟨Go.TypeDesc.func { toList := [24, 3, 3, 100] } { toList := [] } Bool.false, 1, 8, [.junk]⟩),
 (144, ⟨Go.TypeDesc.int Go.IntKind.i64, 1, 8, [.d (.int .i64 0)]⟩),
 (146, ⟨Go.TypeDesc.func { toList := [24, 3, 3, 100] } { toList := [3, 144] } Bool.false, 1, 8, [.junk]⟩),
 (147, ⟨Go.TypeDesc.func { toList := [24, 3, 3, 100] } { toList := [4] } Bool.false, 1, 8, [.junk]⟩),
 (148, ⟨Go.TypeDesc.func { toList := [24, 3, 3, 3, 100] } { toList := [3] } Bool.false, 1, 8, [.junk]⟩),
 (149, ⟨Go.TypeDesc.func { toList := [24, 3, 3, 3, 100] } { toList := [3, 4] } Bool.false, 1, 8, [.junk]⟩),
 (150, ⟨Go.TypeDesc.func { toList := [151] } { toList := [3] } Bool.false, 1, 8, [.junk]⟩),
 (151, ⟨Go.TypeDesc.int Go.IntKind.u32, 1, 4, [.d (.int .u32 0)]⟩),
 (152, ⟨Go.TypeDesc.func { toList := [153] } { toList := [3] } Bool.false, 1, 8, [.junk]⟩),
 (153, ⟨Go.TypeDesc.int Go.IntKind.u64, 1, 8, [.d (.int .u64 0)]⟩),
 (154, ⟨Go.TypeDesc.func { toList := [55, 3, 3] } { toList := [] } Bool.false, 1, 8, [.junk]⟩),
 (155, ⟨Go.TypeDesc.func { toList := [55, 3, 3] } { toList := [3, 144] } Bool.false, 1, 8, [.junk]⟩),
 (156, ⟨Go.TypeDesc.func { toList := [55, 3, 3] } { toList := [4] } Bool.false, 1, 8, [.junk]⟩),
 (157, ⟨Go.TypeDesc.func { toList := [3, 3] } { toList := [4] } Bool.false, 1, 8, [.junk]⟩),
 (158, ⟨Go.TypeDesc.func { toList := [55, 3, 3, 3] } { toList := [3] } Bool.false, 1, 8, [.junk]⟩),
 (159, ⟨Go.TypeDesc.func { toList := [55, 3, 3, 3] } { toList := [3, 4] } Bool.false, 1, 8, [.junk]⟩),
 (160, ⟨Go.TypeDesc.func { toList := [56, 3, 3, 105] } { toList := [] } Bool.false, 1, 8, [.junk]⟩),
 (161, ⟨Go.TypeDesc.func { toList := [56, 3, 3, 105] } { toList := [3, 144] } Bool.false, 1, 8, [.junk]⟩),
 (162, ⟨Go.TypeDesc.func { toList := [56, 3, 3, 105] } { toList := [4] } Bool.false, 1, 8, [.junk]⟩),
 (163, ⟨Go.TypeDesc.func { toList := [56, 3, 3, 3, 105] } { toList := [3] } Bool.false, 1, 8, [.junk]⟩),
 (164, ⟨Go.TypeDesc.func { toList := [56, 3, 3, 3, 105] } { toList := [3, 4] } Bool.false, 1, 8, [.junk]⟩),
 (165, ⟨Go.TypeDesc.func { toList := [55, 124] } { toList := [3] } Bool.false, 1, 8, [.junk]⟩),
 (166, ⟨Go.TypeDesc.func { toList := [2, 3] } { toList := [9] } Bool.false, 1, 8, [.junk]⟩),
 (167, ⟨Go.TypeDesc.func { toList := [9, 3] } { toList := [88] } Bool.false, 1, 8, [.junk]⟩),
 (168, ⟨Go.TypeDesc.func { toList := [9, 9] } { toList := [3] } Bool.false, 1, 8, [.junk]⟩),
 (169, ⟨Go.TypeDesc.int Go.IntKind.i64, 1, 8, [.d (.int .i64 0)]⟩),
 (171, ⟨Go.TypeDesc.func { toList := [9, 3, 3] } { toList := [2, 78] } Bool.false, 1, 8, [.junk]⟩),
 (172, ⟨Go.TypeDesc.pointer 201, 1, 8, [.d .np]⟩),
 (173, ⟨Go.TypeDesc.func { toList := [9, 9] } { toList := [172] } Bool.false, 1, 8, [.junk]⟩),
 (174, ⟨Go.TypeDesc.func { toList := [9, 9, 3] } { toList := [172] } Bool.false, 1, 8, [.junk]⟩),
 (175, ⟨Go.TypeDesc.func { toList := [50, 137] } { toList := [3] } Bool.false, 1, 8, [.junk]⟩),
 (176, ⟨Go.TypeDesc.func { toList := [46] } { toList := [4] } Bool.false, 1, 8, [.junk]⟩),
 (178, ⟨Go.TypeDesc.func { toList := [49, 3] } { toList := [3, 3, 4] } Bool.false, 1, 8, [.junk]⟩),
 (179, ⟨Go.TypeDesc.int Go.IntKind.u64, 1, 8, [.d (.int .u64 0)]⟩),
 (180, ⟨Go.TypeDesc.func { toList := [3] } { toList := [123] } Bool.false, 1, 8, [.junk]⟩),
 (181, ⟨Go.TypeDesc.func { toList := [] } { toList := [153] } Bool.false, 1, 8, [.junk]⟩),
 (182, ⟨Go.TypeDesc.func { toList := [24, 3, 183, 100] } { toList := [3] } Bool.false, 1, 8, [.junk]⟩),
 (183, ⟨Go.TypeDesc.pointer 3, 1, 8, [.d .np]⟩),
 (184, ⟨Go.TypeDesc.func { toList := [24, 3, 3, 3, 183, 100] } { toList := [3] } Bool.false, 1, 8, [.junk]⟩),
 (185, ⟨Go.TypeDesc.func { toList := [55, 3, 183] } { toList := [3] } Bool.false, 1, 8, [.junk]⟩),
 (186, ⟨Go.TypeDesc.func { toList := [55, 3, 3, 3, 183] } { toList := [3] } Bool.false, 1, 8, [.junk]⟩),
 (187, ⟨Go.TypeDesc.func { toList := [56, 3, 183, 105] } { toList := [3] } Bool.false, 1, 8, [.junk]⟩),
 (188, ⟨Go.TypeDesc.func { toList := [56, 3, 3, 3, 183, 105] } { toList := [3] } Bool.false, 1, 8, [.junk]⟩),
 (189, ⟨Go.TypeDesc.array 24 5, 24, 24, [.d (.int .u8 0), .d (.int .u8 0), .d (.int .u8 0), .d (.int .u8 0), .d (.int .u8 0), .d (.int .u8 0), .d (.int .u8 0), .d (.int .u8 0), .d (.int .u8 0), .d (.int .u8 0), .d (.int .u8 0), .d (.int .u8 0), .d (.int .u8 0), .d (.int .u8 0), .d (.int .u8 0), .d (.int .u8 0), .d (.int .u8 0), .d (.int .u8 0), .d (.int .u8 0), .d (.int .u8 0), .d (.int .u8 0), .d (.int .u8 0), .d (.int .u8 0), .d (.int .u8 0)]⟩),
 (190, ⟨Go.TypeDesc.func { toList := [74, 153] } { toList := [] } Bool.false, 1, 8, [.junk]⟩),
 (192, ⟨Go.TypeDesc.func { toList := [74, 153, 3, 4, 4] } { toList := [74, 9] } Bool.false, 1, 8, [.junk]⟩),
 (193, ⟨Go.TypeDesc.func { toList := [3] } { toList := [74] } Bool.false, 1, 8, [.junk]⟩),
 (195, ⟨Go.TypeDesc.func { toList := [9] } { toList := [21, 3] } Bool.false, 1, 8, [.junk]⟩),
 (196, ⟨Go.TypeDesc.func { toList := [9, 5] } { toList := [3] } Bool.false, 1, 8, [.junk]⟩),
 (198, ⟨Go.TypeDesc.func { toList := [9, 3, 3] } { toList := [153, 78] } Bool.false, 1, 8, [.junk]⟩),
 (199, ⟨Go.TypeDesc.func { toList := [9] } { toList := [9] } Bool.false, 1, 8, [.junk]⟩),
 (200, ⟨Go.TypeDesc.struct { toList := [{ name := "Func", type := 9, offset := 0, embedded := Bool.false, tag := "", pkgPath := "", byteOffset := 0 }, { name := "Num", type := 9, offset := 1, embedded := Bool.false, tag := "", pkgPath := "", byteOffset := 16 }, { name := "Err", type := 78, offset := 2, embedded := Bool.false, tag := "", pkgPath := "", byteOffset := 32 }] }, 3, 48, [.d (.str ⟨⟨[]⟩⟩), .d (.str ⟨⟨[]⟩⟩), .d (.ifc false)]⟩),
 (201, ⟨Go.TypeDesc.struct { toList := [{ name := "Func", type := 9, offset := 0, embedded := Bool.false, tag := "", pkgPath := "", byteOffset := 0 }, { name := "Num", type := 9, offset := 1, embedded := Bool.false, tag := "", pkgPath := "", byteOffset := 16 }, { name := "Err", type := 78, offset := 2, embedded := Bool.false, tag := "", pkgPath := "", byteOffset := 32 }] }, 3, 48, [.d (.str ⟨⟨[]⟩⟩), .d (.str ⟨⟨[]⟩⟩), .d (.ifc false)]⟩),
 (202, ⟨Go.TypeDesc.func { toList := [9] } { toList := [78] } Bool.false, 1, 8, [.junk]⟩),
 (203, ⟨Go.TypeDesc.func { toList := [3] } { toList := [3] } Bool.false, 1, 8, [.junk]⟩),
 (204, ⟨Go.TypeDesc.func { toList := [47, 3, 205] } { toList := [3, 4] } Bool.false, 1, 8, [.junk]⟩),
 (205, ⟨Go.TypeDesc.func { toList := [46, 3] } { toList := [3] } Bool.false, 1, 8, [.junk]⟩),
 (206, ⟨Go.TypeDesc.pointer 179, 1, 8, [.d .np]⟩),
 (208, ⟨Go.TypeDesc.func { toList := [24, 3, 3, 183, 100] } { toList := [3, 3] } Bool.false, 1, 8, [.junk]⟩),
 (209, ⟨Go.TypeDesc.func { toList := [55, 3, 3, 183] } { toList := [3, 3] } Bool.false, 1, 8, [.junk]⟩),
 (210, ⟨Go.TypeDesc.func { toList := [56, 3, 3, 183, 105] } { toList := [3, 3] } Bool.false, 1, 8, [.junk]⟩),
 (211, ⟨Go.TypeDesc.func { toList := [4] } { toList := [3] } Bool.false, 1, 8, [.junk]⟩),
 (212, ⟨Go.TypeDesc.array 20 153, 20, 160, [.d (.int .u64 0), .d (.int .u64 0), .d (.int .u64 0), .d (.int .u64 0), .d (.int .u64 0), .d (.int .u64 0), .d (.int .u64 0), .d (.int .u64 0), .d (.int .u64 0), .d (.int .u64 0), .d (.int .u64 0), .d (.int .u64 0), .d (.int .u64 0), .d (.int .u64 0), .d (.int .u64 0), .d (.int .u64 0), .d (.int .u64 0), .d (.int .u64 0), .d (.int .u64 0), .d (.int .u64 0)]⟩),
 (214, ⟨Go.TypeDesc.func { toList := [5] } { toList := [5] } Bool.false, 1, 8, [.junk]⟩),
 (215, ⟨Go.TypeDesc.pointer 217, 1, 8, [.d .np]⟩),
 (216, ⟨Go.TypeDesc.struct { toList := [{ name := "s", type := 9, offset := 0, embedded := Bool.false, tag := "", pkgPath := "errors", byteOffset := 0 }] }, 1, 16, [.d (.str ⟨⟨[]⟩⟩)]⟩),
 (217, ⟨Go.TypeDesc.struct { toList := [{ name := "s", type := 9, offset := 0, embedded := Bool.false, tag := "", pkgPath := "errors", byteOffset := 0 }] }, 1, 16, [.d (.str ⟨⟨[]⟩⟩)]⟩),
 (219, ⟨Go.TypeDesc.func { toList := [9] } { toList := [151, 151] } Bool.false, 1, 8, [.junk]⟩),
 (221, ⟨Go.TypeDesc.struct { toList := [{ name := "lo", type := 5, offset := 0, embedded := Bool.false, tag := "", pkgPath := "unicode/utf8", byteOffset := 0 }, { name := "hi", type := 5, offset := 1, embedded := Bool.false, tag := "", pkgPath := "unicode/utf8", byteOffset := 1 }] }, 2, 2, [.d (.int .u8 0), .d (.int .u8 0)]⟩),
 (222, ⟨Go.TypeDesc.struct { toList := [{ name := "lo", type := 5, offset := 0, embedded := Bool.false, tag := "", pkgPath := "unicode/utf8", byteOffset := 0 }, { name := "hi", type := 5, offset := 1, embedded := Bool.false, tag := "", pkgPath := "unicode/utf8", byteOffset := 1 }] }, 2, 2, [.d (.int .u8 0), .d (.int .u8 0)]⟩),
 (223, ⟨Go.TypeDesc.array 16 222, 32, 32, [.d (.int .u8 0), .d (.int .u8 0), .d (.int .u8 0), .d (.int .u8 0), .d (.int .u8 0), .d (.int .u8 0), .d (.int .u8 0), .d (.int .u8 0), .d (.int .u8 0), .d (.int .u8 0), .d (.int .u8 0), .d (.int .u8 0), .d (.int .u8 0), .d (.int .u8 0), .d (.int .u8 0), .d (.int .u8 0), .d (.int .u8 0), .d (.int .u8 0), .d (.int .u8 0), .d (.int .u8 0), .d (.int .u8 0), .d (.int .u8 0), .d (.int .u8 0), .d (.int .u8 0), .d (.int .u8 0), .d (.int .u8 0), .d (.int .u8 0), .d (.int .u8 0), .d (.int .u8 0), .d (.int .u8 0), .d (.int .u8 0), .d (.int .u8 0)]⟩),
 (224, ⟨Go.TypeDesc.array 32 5, 32, 32, [.d (.int .u8 0), .d (.int .u8 0), .d (.int .u8 0), .d (.int .u8 0), .d (.int .u8 0), .d (.int .u8 0), .d (.int .u8 0), .d (.int .u8 0), .d (.int .u8 0), .d (.int .u8 0), .d (.int .u8 0), .d (.int .u8 0), .d (.int .u8 0), .d (.int .u8 0), .d (.int .u8 0), .d (.int .u8 0), .d (.int .u8 0), .d (.int .u8 0), .d (.int .u8 0), .d (.int .u8 0), .d (.int .u8 0), .d (.int .u8 0), .d (.int .u8 0), .d (.int .u8 0), .d (.int .u8 0), .d (.int .u8 0), .d (.int .u8 0), .d (.int .u8 0), .d (.int .u8 0), .d (.int .u8 0), .d (.int .u8 0), .d (.int .u8 0)]⟩),
 (228, ⟨Go.TypeDesc.array 0 16, 0, 0, []⟩),
 (231, ⟨Go.TypeDesc.func { toList := [] } { toList := [3] } Bool.false, 1, 8, [.junk]⟩),
 (232, ⟨Go.TypeDesc.int Go.IntKind.u8, 1, 1, [.d (.int .u8 0)]⟩),
 (233, ⟨Go.TypeDesc.int Go.IntKind.u8, 1, 1, [.d (.int .u8 0)]⟩),
 (234, ⟨Go.TypeDesc.func { toList := [133, 133] } { toList := [4] } Bool.false, 1, 8, [.junk]⟩),
 (235, ⟨Go.TypeDesc.int Go.IntKind.i32, 1, 4, [.d (.int .i32 0)]⟩),
 (236, ⟨Go.TypeDesc.int Go.IntKind.i32, 1, 4, [.d (.int .i32 0)]⟩)]
def S : Tys := lk tbl
theorem tysOk : TysOk Tryz.prog S := tysOk_of tbl (by kernel_rfl) (by kernel_rfl) (by kernel_rfl)
theorem mixed : Tryz.prog.follows .mixedOrders = true := by kernel_rfl
end Go.Proofs.Tryz
end

section
/- Plain facts on texts: numerals, digits, a text divided at a byte. No program is in sight. -/
namespace Go.Plain
open Go Go.Lib
theorem div_abs (m : Int) : (m.tdiv 10).natAbs = m.natAbs / 10 := by
 rw [Int.natAbs_tdiv]
 rfl
theorem dec_last {u : Nat} (h : u < 10) (s : List UInt8) : decDigits u ++ s = UInt8.ofNat (48 + u % 10) :: s := by
 rw [decDigits_one h, Nat.mod_eq_of_lt h]; rfl
theorem dec_more {u : Nat} (h : ¬ u < 10) (s : List UInt8) : decDigits u ++ s = decDigits (u / 10) ++ (UInt8.ofNat (48 + u % 10) :: s) := by
 rw [decDigits, dif_neg h, List.append_assoc]; rfl
def DecAt (n m : Int) (s : List UInt8) : Prop := (s = [] ∧ m = n) ∨ (s ≠ [] ∧ (if m = 0 then s else decDigits m.natAbs ++ s) = decDigits n.natAbs)
theorem DecAt.step {n m : Int} {s : List UInt8} (h : DecAt n m s) (h0 : s = [] ∨ m ≠ 0) : DecAt n (m.tdiv 10) (UInt8.ofNat (48 + m.natAbs % 10) :: s) := by
 have key : decDigits m.natAbs ++ s = decDigits n.natAbs := by
  rcases h with ⟨rfl, rfl⟩ | ⟨h1, h2⟩
  ·simp
  ·have hm : m ≠ 0 := h0.resolve_left h1
   rwa [if_neg hm] at h2
 refine .inr ⟨by simp, ?_⟩
 have hd := div_abs m
 by_cases hu : m.natAbs < 10
 ·have : m.tdiv 10 = 0 := by omega
  rw [if_pos this, ← dec_last hu]; exact key
 ·have : m.tdiv 10 ≠ 0 := by omega
  rw [if_neg this, hd, ← dec_more hu]; exact key
theorem DecAt.len {n m : Int} {s : List UInt8} (h : DecAt n m s) : s.length ≤ (decDigits n.natAbs).length := by
 rcases h with ⟨rfl, -⟩ | ⟨-, h⟩
 ·simp
 ·rw [← h]; split <;> simp
theorem DecAt.fin {n : Int} {s : List UInt8} (h : DecAt n 0 s) (hs : s ≠ []) : s = decDigits n.natAbs := by
 rcases h with ⟨h1, -⟩ | ⟨-, h⟩
 ·exact absurd h1 hs
 ·simpa using h
end Go.Plain
end

section
namespace Go.Proofs.Tryz
open Go Go.Vm
def outsideB (n lo hi : Int) : Bool := decide (n < lo) || decide (n > hi)
theorem ev_outside (n lo hi : Int) : Ev Tryz.prog 65 [.int .i64 n, .int .i64 lo, .int .i64 hi] (.bool (outsideB n lo hi)) := by
 refine ev_of_awp tysOk mixed (fn := Tryz.f65) Tryz.func65 rfl rfl rfl ?_
 conv => whnf
 repeat' (first|((with_reducible refine Split.dec (fun _=>?_) (fun _=>?_))<;>conv=>whnf)|fail)
 all_goals (simp_all [outsideB, retOf] <;> omega)
def wrongB (m l : Int) : Bool := outsideB m 0 1000000 || outsideB l (-20000) 20000
theorem ev_wrongMark (m l : Int) : Ev Tryz.prog 131 [.agg [.int .i64 m, .int .i64 l]] (.bool (wrongB m l)) := by
 refine ev_of_awp tysOk mixed (fn := Tryz.f131) Tryz.func131 rfl rfl rfl ?_
 conv => whnf
 repeat' (first|((with_reducible refine Split.mk (fun _=>?_) (fun _=>?_))<;>conv=>whnf)|((with_reducible refine AltK.l ?_);(conv=>whnf);(first|(refine CallK.mk _ (ev_outside _ _ _) ?_));conv=>whnf)|fail)
 all_goals simp_all [wrongB, retOf]
structure Mk where
 m : Int
 l : Int
def mD (m : Mk) : D := .agg [.int .i64 m.m, .int .i64 m.l]
structure Ga where
 name : ByteArray
 x : Int
 err : Int
 marks : List Mk
def gD (g : Ga) : D := .agg [.str g.name, .int .i64 g.x, .int .i64 g.err, .sl 2 (g.marks.map mD)]
def markErr : Option Mk → List Mk → Int
 | _, [] => 0
 | p, m :: r => if wrongB m.m m.l then 2 else match p with
  | some q => if m.m ≤ q.m then 9 else markErr (some m) r
  | none => markErr (some m) r
def recErr (g : Ga) : Int := if outsideB g.x (-1000000) 1000000 || outsideB g.err 0 1000 then 2 else if 400 < g.marks.length then 8 else markErr none g.marks
theorem ev_record (g : Ga) : Ev Tryz.prog 85 [gD g] (.int .i64 (recErr g)) := by
 refine ev_of_awp tysOk mixed (fn := Tryz.f85) Tryz.func85 rfl rfl rfl ?_
 have hl : (g.marks.map mD).length = g.marks.length := List.length_map _
 conv => whnf
 repeat' (first|((with_reducible refine Split.of_true ?_);conv=>whnf)|((with_reducible refine Split.dec (fun _=>?_) (fun _=>?_))<;>conv=>whnf)|((with_reducible refine Split.mk (fun _=>?_) (fun _=>?_))<;>conv=>whnf)|((with_reducible refine AltK.l ?_);(conv=>whnf);(first|(refine CallK.mk _ (ev_outside _ _ _) ?_));conv=>whnf)|fail)
 ·simp_all [retOf, recErr]
 ·simp_all [retOf, recErr]
 ·simp_all [retOf, recErr] <;> omega
 refine LoopK.mk (fun i => i ≤ g.marks.length ∧ recErr g = markErr (if i = 0 then none else g.marks[i-1]?) (g.marks.drop i))
  (fun i => ⟨[(1, .ptr 1 0), (2, .d (.int .i64 0)), (18, .d (.sl 2 (g.marks.map mD))), (19, .d (.int .i64 (g.marks.map mD).length)), (20, .d (.int .i64 i))],
    [(1, .var [.d (.str g.name), .d (.int .i64 g.x), .d (.int .i64 g.err), .d (.sl 2 (g.marks.map mD))] false)]⟩)
  (fun i => g.marks.length - i) 0 [] ⟨by omega, by simp_all [recErr]<;>omega⟩ (by refine ⟨?_, ?_, rfl⟩<;>(repeat' (first|exact True.intro|exact rfl|(refine ⟨?_,?_⟩)|(intro h;cases h;done)|fail));done) ?_
 rintro i ⟨hi, hs⟩
 have hp : i = 0 ∨ ∃ q, g.marks[i-1]? = some q := by
  rcases Nat.eq_zero_or_pos i with h | h
  ·exact .inl h
  ·exact .inr (some_of_lt (by omega))
 have hn : (i : Int) < g.marks.length → ∃ m, g.marks[i]? = some m := fun h => some_of_lt (by omega)
 conv => whnf
 repeat' (first|((with_reducible refine Split.dec (fun _=>?_) (fun _=>?_))<;>conv=>whnf)|((with_reducible refine Need.mk ?_ ?_);(first|omega|rfl|decide|(refine ⟨?_,?_⟩<;>simp<;>omega)|(simp;omega));conv=>whnf)|fail)
 ·obtain ⟨m, hm⟩ := hn (by omega)
  refine PickE.map i hm (by omega) ?_
  rw [drop_of hm] at hs
  conv => whnf
  repeat' (first|((with_reducible refine Split.of_false ?_);conv=>whnf)|((with_reducible refine Split.dec (fun _=>?_) (fun _=>?_))<;>conv=>whnf)|((with_reducible refine Split.mk (fun _=>?_) (fun _=>?_))<;>conv=>whnf)|((with_reducible refine Need.mk ?_ ?_);(first|omega|rfl|decide|(refine ⟨?_,?_⟩<;>simp<;>omega)|(simp;omega));conv=>whnf)|((with_reducible refine Wr.inr ?_ ?_);(first|omega|(simp;omega));conv=>whnf)|((with_reducible refine AltK.l ?_);(conv=>whnf);(first|(refine CallK.mk _ (ev_wrongMark _ _) ?_));conv=>whnf)|fail)
  ·simp_all [retOf, markErr]
  ·obtain ⟨q, hq⟩ := hp.resolve_left (by omega)
   have hi0 : i ≠ 0 := by omega
   refine PickE.map (i-1) hq (by omega) ?_
   conv => whnf
   repeat' (first|((with_reducible refine Split.dec (fun _=>?_) (fun _=>?_))<;>conv=>whnf)|((with_reducible refine Wr.inr ?_ ?_);(first|omega|(simp;omega));conv=>whnf)|fail)
   ·simp_all [retOf, markErr]
   ·refine Again.mk (i+1) [] ⟨by omega, ?_⟩ (by omega) (by refine ⟨?_, ?_, rfl⟩<;>(repeat' (first|exact True.intro|exact rfl|(refine ⟨?_,?_⟩)|(intro h;cases h;done)|fail));done)
    simp_all [markErr]
  ·have hi0 : i = 0 := by omega
   refine Again.mk (i+1) [] ⟨by omega, ?_⟩ (by omega) (by refine ⟨?_, ?_, rfl⟩<;>(repeat' (first|exact True.intro|exact rfl|(refine ⟨?_,?_⟩)|(intro h;cases h;done)|fail));done)
   simp_all [markErr]
 ·have : g.marks.drop i = [] := List.drop_eq_nil_of_le (by omega)
  simp_all [retOf, markErr]
end Go.Proofs.Tryz
end

section
namespace Go.Proofs.Tryz
open Go Go.Vm
set_option maxRecDepth 20000
set_option maxHeartbeats 2000000
theorem ba_nil {s : ByteArray} (h : s.size = 0) : s = ⟨#[]⟩ := by
 cases s with
 | mk a => rw [show a = #[] from Array.eq_empty_of_size_eq_zero h]
theorem tdiv_bd {a b M : Int} (h : -M ≤ a ∧ a ≤ M) : -M ≤ a.tdiv b ∧ a.tdiv b ≤ M := by
 have h1 : (a.tdiv b).natAbs ≤ a.natAbs := by rw [Int.natAbs_tdiv]; exact Nat.div_le_self _ _
 omega
theorem down_law (a b : Int) (hb : 0 < b) : (if a.tmod b < 0 then a.tdiv b - 1 else a.tdiv b) = a / b := by
 rcases Int.le_total 0 a with h | h
 ·rw [if_neg (by have := Int.tmod_nonneg b h; omega), Int.tdiv_eq_ediv_of_nonneg h]
 ·obtain ⟨n, rfl⟩ : ∃ n, a = -n := ⟨-a, by omega⟩
  have hn : 0 ≤ n := by omega
  rw [Int.neg_tmod, Int.neg_tdiv, Int.tdiv_eq_ediv_of_nonneg hn, Int.tmod_eq_emod_of_nonneg hn]
  have e := Int.emod_add_mul_ediv n b
  have h1 := Int.emod_nonneg n (Int.ne_of_gt hb)
  have h2 := Int.emod_lt_of_pos n hb
  split
  ·refine ((Int.ediv_emod_unique hb (r := b - n % b)).2 ⟨?_, by omega, by omega⟩).1.symm
   rw [Int.mul_sub, Int.mul_neg]; omega
  ·refine ((Int.ediv_emod_unique hb (r := 0)).2 ⟨?_, by omega, by omega⟩).1.symm
   rw [Int.mul_neg]; omega
theorem ev_down (a b : Int) (hb : 0 < b) (ha : -4000000000000000000 ≤ a ∧ a ≤ 4000000000000000000) : Ev Tryz.prog 89 [.int .i64 a, .int .i64 b] (.int .i64 (a / b)) := by
 rw [← down_law a b hb]
 have hq := tdiv_bd (b := b) ha
 refine ev_of_awp tysOk mixed (fn := Tryz.f89) Tryz.func89 rfl rfl rfl ?_
 conv => whnf
 repeat' (first|((with_reducible refine Split.dec (fun _=>?_) (fun _=>?_))<;>conv=>whnf)|((with_reducible refine Need.mk ?_ ?_);(first|omega|rfl|decide|(refine ⟨?_,?_⟩<;>simp<;>omega)|(simp;omega));conv=>whnf)|((with_reducible refine Wr.inr ?_ ?_);(first|omega|(simp;omega));conv=>whnf)|fail)
 all_goals (simp_all [retOf] <;> omega)
def upZ (a b : Int) : Int := -(-a / b)
theorem ediv_bd {a b M : Int} (hb : 0 < b) (h : -M ≤ a ∧ a ≤ M) : -M ≤ a / b ∧ a / b ≤ M := by
 have h1 := Int.emod_add_mul_ediv a b
 have h2 := Int.emod_nonneg a (Int.ne_of_gt hb)
 have h3 := Int.emod_lt_of_pos a hb
 constructor
 ·refine (Int.le_ediv_iff_mul_le hb).2 ?_
  have : -M * b ≤ -M * 1 := Int.mul_le_mul_of_nonpos_left (by omega) (by omega)
  omega
 ·refine Int.ediv_le_of_le_mul hb ?_
  have : M * 1 ≤ M * b := Int.mul_le_mul_of_nonneg_left (by omega) (by omega)
  omega
theorem ev_up (a b : Int) (hb : 0 < b) (ha : -4000000000000000000 ≤ a ∧ a ≤ 4000000000000000000) : Ev Tryz.prog 90 [.int .i64 a, .int .i64 b] (.int .i64 (upZ a b)) := by
 have hq := ediv_bd (a := 0 - a) (M := 4000000000000000000) hb (by omega)
 have hd := ev_down (0 - a) b hb (by omega)
 have e : upZ a b = 0 - (0 - a) / b := by unfold upZ; rw [show 0 - a = -a by omega]; omega
 rw [e]
 generalize (0 - a) / b = q at hq hd
 refine ev_of_awp tysOk mixed (fn := Tryz.f90) Tryz.func90 rfl rfl rfl ?_
 conv => whnf
 repeat' (first|((with_reducible refine Wr.inr ?_ ?_);(first|omega|(simp;omega));conv=>whnf)|((with_reducible refine AltK.l ?_);(conv=>whnf);(first|(refine CallK.mk _ (hd) ?_));conv=>whnf)|fail)
 rfl
def letterZ (c : Int) : Bool := (decide (c ≥ 97) && decide (c ≤ 122)) || (decide (c ≥ 65) && decide (c ≤ 90))
def otherZ (c : Int) : Bool := (decide (c ≥ 48) && decide (c ≤ 57)) || decide (c = 45)
def badAt (s : ByteArray) (i : Nat) : Bool := !letterZ (bAt s i) && (decide (i = 0) || !otherZ (bAt s i))
def nameB (s : ByteArray) : Bool := decide (s.size ≠ 0) && decide (s.size ≤ 12) && decide (∀ k, k < s.size → badAt s k = false)
theorem nameB_bad {s : ByteArray} {i : Nat} (h : i < s.size) (hb : badAt s i = true) : nameB s = false := by
 unfold nameB
 have : ¬ ∀ k, k < s.size → badAt s k = false := fun hk => by rw [hk i h] at hb; cases hb
 simp [this]
theorem badAt_iff {s : ByteArray} {i : Nat} : badAt s i = true ↔ ¬ ((97 ≤ bAt s (i : Int).toNat ∧ bAt s (i : Int).toNat ≤ 122) ∨ (65 ≤ bAt s (i : Int).toNat ∧ bAt s (i : Int).toNat ≤ 90)) ∧
 (i = 0 ∨ ¬ ((48 ≤ bAt s (i : Int).toNat ∧ bAt s (i : Int).toNat ≤ 57) ∨ bAt s (i : Int).toNat = 45)) := by
 have e : bAt s (i : Int).toNat = bAt s i := rfl
 rw [e]
 generalize hc : bAt s i = c
 simp only [badAt, hc, letterZ, otherZ, Bool.and_eq_true, Bool.not_eq_true', Bool.or_eq_true, Bool.or_eq_false_iff, Bool.and_eq_false_iff, decide_eq_true_eq, decide_eq_false_iff_not]
 omega
theorem ev_named (s : ByteArray) : Ev Tryz.prog 82 [.str s] (.bool (nameB s)) := by
 refine ev_of_awp tysOk mixed (fn := Tryz.f82) Tryz.func82 rfl rfl rfl ?_
 conv => whnf
 repeat' (first|((with_reducible refine Split.of_true ?_);conv=>whnf)|((with_reducible refine Split.streq (fun _=>?_) (fun _=>?_))<;>conv=>whnf)|((with_reducible refine Split.dec (fun _=>?_) (fun _=>?_))<;>conv=>whnf)|fail)
 ·have e : s = ⟨#[]⟩ := by assumption
  subst e
  rfl
 ·simp_all [retOf, nameB] <;> omega
 refine LoopK.mk (fun i => i ≤ s.size ∧ ∀ k, k < i → badAt s k = false)
  (fun i => ⟨[(2, .d (.bool false)), (14, .d (.str s)), (15, .d (.int .i64 s.size)), (16, .d (.int .i64 i)), (0, .d (.str s))], []⟩)
  (fun i => s.size - i) 0 [] ⟨by omega, fun k h => absurd h (by omega)⟩ (by refine ⟨?_, ?_, rfl⟩<;>(repeat' (first|exact True.intro|exact rfl|(refine ⟨?_,?_⟩)|fail));done) ?_
 rintro i ⟨hi, hs⟩
 conv => whnf
 repeat' (first|((with_reducible first|refine Split.of_true ?_|refine Split.of_false ?_);conv=>whnf)|(with_reducible refine Split.neg ?_)|((with_reducible refine Split.eqz (fun _=>?_) (fun _=>?_))<;>conv=>whnf)|((with_reducible refine Split.dec (fun _=>?_) (fun _=>?_))<;>conv=>whnf)|((with_reducible refine Need.mk ?_ ?_);(first|omega|rfl|decide|(refine ⟨?_,?_⟩<;>simp<;>omega)|(simp;omega));conv=>whnf)|((with_reducible refine Wr.inr ?_ ?_);(first|omega|(simp;omega));conv=>whnf)|(exfalso;first|omega|contradiction)|fail)
 all_goals first
  | exact congrArg D.bool (nameB_bad (i := i) (by omega) (badAt_iff.2 (by omega))).symm
  |(refine Again.mk (i+1) [] ⟨by omega, fun k hk => ?_⟩ (by omega) (by refine ⟨?_, ?_, rfl⟩<;>(repeat' (first|exact True.intro|exact rfl|(refine ⟨?_,?_⟩)|fail));done)
    rcases Nat.lt_or_ge k i with h | h
    ·exact hs k h
    ·have : k = i := by omega
     subst this
     exact Bool.eq_false_iff.2 fun h => by have := badAt_iff.1 h; omega)
  | skip
 have : ∀ k, k < s.size → badAt s k = false := fun k hk => hs k (by omega)
 have h1 : s.size ≠ 0 := fun h => absurd (ba_nil h) (by assumption)
 have h2 : s.size ≤ 12 := by omega
 simp [retOf, nameB, h1, h2]
 exact this
end Go.Proofs.Tryz
end

section
namespace Go.Proofs.Tryz
open Go Go.Vm
set_option maxRecDepth 20000
set_option maxHeartbeats 2000000
def gErr (g : Ga) : Int := if nameB g.name then recErr g else 4
theorem ev_mean1 (m : Mk) (t : Int) (h : 0 ≤ m.m ∧ m.m ≤ 1000000) (ht : -4000000000000000000 ≤ t ∧ t ≤ 4000000000000000000) : Ev Tryz.prog 160 [mD m, .int .i64 t] (.int .i64 (m.m - t)) := by
 refine ev_of_awp tysOk mixed (fn := Tryz.f160) Tryz.func160 rfl rfl rfl ?_
 conv => whnf
 repeat' (first|((with_reducible refine Wr.inr ?_ ?_);(first|omega|(simp;omega));conv=>whnf)|fail)
 rfl
def foundB (l : List Mk) (p : Nat) (t : Int) : Bool := match l[p]? with
 | some m => decide (m.m = t)
 | none => false
theorem ev_Bin (l : List Mk) (t : Int) (p : Nat) (hl : l.length ≤ 1000000) (hb : ∀ m ∈ l, 0 ≤ m.m ∧ m.m ≤ 1000000) (ht : -4000000000000000000 ≤ t ∧ t ≤ 4000000000000000000) (hp : p ≤ l.length)
 (h : ∀ (k : Nat) m, l[k]? = some m → (k < p → m.m < t) ∧ (p ≤ k → t ≤ m.m)) : Ev Tryz.prog 159 [.sl 2 (l.map mD), .int .i64 t, .fn 160 []] (.tup [.int .i64 p, .bool (foundB l p t)]) := by
 refine ev_of_awp tysOk mixed (fn := Tryz.f159) Tryz.func159 rfl rfl rfl ?_
 have hlen : (l.map mD).length = l.length := List.length_map _
 conv => whnf
 skip
 refine LoopK.mk (fun ij : Nat × Nat => ij.1 ≤ p ∧ p ≤ ij.2 ∧ ij.2 ≤ l.length)
  (fun ij => ⟨[(0, .d (.sl 2 (l.map mD))), (1, .d (.int .i64 t)), (2, .d (.fn 160 [])), (6, .d (.int .i64 0)), (7, .d (.bool false)),
    (8, .d (.int .i64 (l.map mD).length)), (9, .d (.int .i64 ij.1)), (10, .d (.int .i64 ij.2))], []⟩)
  (fun ij => ij.2 - ij.1) (0, (l.map mD).length) [] ⟨by omega, by omega, by omega⟩ (by refine ⟨?_, ?_, rfl⟩<;>(repeat' (first|exact True.intro|exact rfl|(refine ⟨?_,?_⟩)|fail));done) ?_
 rintro ⟨i, j⟩ ⟨h1, h2, h3⟩
 dsimp only at h1 h2 h3 ⊢
 have hz : shrZ ((i : Int) + j) 1 = ((i + j) / 2 : Nat) := by rw [shrZ_one]; omega
 have hlt : (i : Int) < j → (i + j) / 2 < l.length := fun h => by omega
 conv => whnf
 repeat' (first|((with_reducible refine Split.dec (fun _=>?_) (fun _=>?_))<;>conv=>whnf)|((with_reducible refine Need.mk ?_ ?_);(first|omega|rfl|decide|(refine ⟨?_,?_⟩<;>simp<;>omega)|(simp;omega));conv=>whnf)|((with_reducible refine Wr.inr ?_ ?_);(first|omega|(simp;omega));conv=>whnf)|((with_reducible refine Wr.inu ?_ ?_);omega;conv=>whnf)|fail)
 ·have hlt := hlt (by assumption)
  obtain ⟨m, hm⟩ := some_of_lt hlt
  have hmb := hb m (List.mem_of_getElem? hm)
  have hc := h _ m hm
  rw [hz]
  have hq : i ≤ (i + j) / 2 ∧ (i + j) / 2 < j := by omega
  generalize (i + j) / 2 = q at *
  refine PickE.map q hm (by omega) ?_
  conv => whnf
  repeat' (first|((with_reducible refine Split.dec (fun _=>?_) (fun _=>?_))<;>conv=>whnf)|((with_reducible refine Wr.inr ?_ ?_);(first|omega|(simp;omega));conv=>whnf)|((with_reducible refine AltK.l ?_);(conv=>whnf);(first|(refine CallK.mk _ (ev_mean1 m t hmb ht) ?_));conv=>whnf)|fail)
  ·exact Again.mk (q + 1, j) [] ⟨by omega, by omega, by omega⟩ (by dsimp only;omega) (by refine ⟨?_, ?_, rfl⟩<;>(repeat' (first|exact True.intro|exact rfl|(refine ⟨?_,?_⟩)|fail));done)
  ·exact Again.mk (i, q) [] ⟨by omega, by omega, by omega⟩ (by dsimp only;omega) (by refine ⟨?_, ?_, rfl⟩<;>(repeat' (first|exact True.intro|exact rfl|(refine ⟨?_,?_⟩)|fail));done)
 ·have e : i = p := by omega
  subst e
  obtain ⟨m, hm⟩ := some_of_lt (l := l) (i := i) (by omega)
  have hmb := hb m (List.mem_of_getElem? hm)
  refine PickE.map i hm (by omega) ?_
  conv => whnf
  repeat' (first|((with_reducible refine AltK.l ?_);(conv=>whnf);(first|(refine CallK.mk _ (ev_mean1 m t hmb ht) ?_));conv=>whnf)|fail)
  have e : (m.m - t == 0) = decide (m.m = t) := by rw [Bool.eq_iff_iff]; simp; omega
  simp only [retOf, foundB, hm, e]
 ·have e : i = p := by omega
  subst e
  have hm : l[i]? = none := List.getElem?_eq_none (by omega)
  simp only [retOf, foundB, hm]
theorem mul_bd {x y X Y : Int} (hx : -X ≤ x ∧ x ≤ X) (hy : -Y ≤ y ∧ y ≤ Y) : -(X * Y) ≤ x * y ∧ x * y ≤ X * Y := by
 have h : (x * y).natAbs ≤ X.natAbs * Y.natAbs := by rw [Int.natAbs_mul]; exact Nat.mul_le_mul (by omega) (by omega)
 have e : ((X.natAbs * Y.natAbs : Nat) : Int) = X * Y := by
  rw [Int.natCast_mul, Int.natAbs_of_nonneg (by omega), Int.natAbs_of_nonneg (by omega)]
 omega
def meanAt (l : List Mk) (p : Nat) (t : Int) : Int × Int × Bool := match l[p]? with
 | some b => if b.m = t then (b.l, 1, true) else match p with
  | 0 => (0, 1, false)
  | q + 1 => match l[q]? with
   | some a => (a.l * (b.m - a.m) + (b.l - a.l) * (t - a.m), b.m - a.m, true)
   | none => (0, 1, false)
 | none => (0, 1, false)
def m3D (x : Int × Int × Bool) : D := .tup [.int .i64 x.1, .int .i64 x.2.1, .bool x.2.2]
theorem ev_mean (g : Ga) (t : Int) (p : Nat) (hl : g.marks.length ≤ 400) (hb : ∀ m ∈ g.marks, wrongB m.m m.l = false) (ht : 0 ≤ t ∧ t ≤ 1000000) (hp : p ≤ g.marks.length)
 (h : ∀ (k : Nat) m, g.marks[k]? = some m → (k < p → m.m < t) ∧ (p ≤ k → t ≤ m.m)) : Ev Tryz.prog 132 [gD g, .int .i64 t] (m3D (meanAt g.marks p t)) := by
 have hlen : (g.marks.map mD).length = g.marks.length := List.length_map _
 have hw : ∀ m ∈ g.marks, 0 ≤ m.m ∧ m.m ≤ 1000000 ∧ -20000 ≤ m.l ∧ m.l ≤ 20000 := by
  intro m hm
  have := hb m hm
  simp only [wrongB, outsideB, Bool.or_eq_false_iff, decide_eq_false_iff_not] at this
  omega
 have hB := ev_Bin g.marks t p (by omega) (fun m hm => by have := hw m hm; omega) (by omega) hp h
 refine ev_of_awp tysOk mixed (fn := Tryz.f132) Tryz.func132 rfl rfl rfl ?_
 have hfb : ∀ b, g.marks[p]? = some b → foundB g.marks p t = decide (b.m = t) := fun b hb => by simp only [foundB, hb]
 have hfn : g.marks[p]? = none → foundB g.marks p t = false := fun hb => by simp only [foundB, hb]
 conv => whnf
 repeat' (first|((with_reducible refine Split.of_true ?_);conv=>whnf)|((with_reducible refine Split.eqz (fun _=>?_) (fun _=>?_))<;>conv=>whnf)|((with_reducible refine Split.mk (fun _=>?_) (fun _=>?_))<;>conv=>whnf)|((with_reducible refine Need.mk ?_ ?_);(first|omega|rfl|decide|(refine ⟨?_,?_⟩<;>simp<;>omega)|(simp;omega));conv=>whnf)|((with_reducible refine Wr.inr ?_ ?_);(first|omega|(simp;omega));conv=>whnf)|((with_reducible refine AltK.l ?_);(conv=>whnf);(first|(refine CallK.mk _ (hB) ?_));conv=>whnf)|fail)
 ·cases hm : g.marks[p]? with
  | none => rw [hfn hm] at *; simp_all
  | some b =>
   have hbt : b.m = t := by simp_all
   refine PickE.map p hm (by omega) ?_
   conv => whnf
   skip
   simp only [retOf, meanAt, hm, hbt, if_true, m3D]
 ·have hp0 : p = 0 := by omega
  subst hp0
  cases hm : g.marks[0]? with
  | none => simp only [retOf, meanAt, hm, m3D]
  | some b =>
   have hbt : b.m ≠ t := by simp_all
   simp only [retOf, meanAt, hm, hbt, if_false, m3D]
 ·have hm : g.marks[p]? = none := List.getElem?_eq_none (by omega)
  simp only [retOf, meanAt, hm, m3D]
 ·obtain ⟨q, rfl⟩ : ∃ q, p = q + 1 := ⟨p - 1, by omega⟩
  obtain ⟨b, hm⟩ := some_of_lt (l := g.marks) (i := q + 1) (by omega)
  obtain ⟨a, hma⟩ := some_of_lt (l := g.marks) (i := q) (by omega)
  have hbt : b.m ≠ t := by simp_all
  have wa := hw a (List.mem_of_getElem? hma)
  have wb := hw b (List.mem_of_getElem? hm)
  have ha := (h q a hma).1 (by omega)
  have hb' := (h (q+1) b hm).2 (by omega)
  have e1 := mul_bd (x := a.l) (y := b.m - a.m) (X := 20000) (Y := 1000000) (by omega) (by omega)
  have e2 := mul_bd (x := b.l - a.l) (y := t - a.m) (X := 40000) (Y := 1000000) (by omega) (by omega)
  refine PickE.map q hma (by omega) ?_
  conv => whnf
  repeat' (first|((with_reducible refine Need.mk ?_ ?_);(first|omega|rfl|decide|(refine ⟨?_,?_⟩<;>simp<;>omega)|(simp;omega));conv=>whnf)|fail)
  refine PickE.map (q + 1) hm (by omega) ?_
  conv => whnf
  repeat' (first|((with_reducible refine Need.mk ?_ ?_);(first|omega|rfl|decide|(refine ⟨?_,?_⟩<;>simp<;>omega)|(simp;omega));conv=>whnf)|((with_reducible refine Wr.inr ?_ ?_);(first|omega|(simp;omega));conv=>whnf)|fail)
  simp only [retOf, meanAt, hm, hma, hbt, if_false, m3D]
end Go.Proofs.Tryz
end

section
namespace Go.Proofs.Tryz
open Go Go.Vm
set_option maxRecDepth 20000
set_option maxHeartbeats 2000000
def posF (l : List Mk) (t : Int) : Nat := (l.takeWhile fun m => decide (m.m < t)).length
theorem posF_le (l : List Mk) (t : Int) : posF l t ≤ l.length := (List.takeWhile_prefix _).length_le
theorem markErr_zero : ∀ (l : List Mk) (p : Option Mk), markErr p l = 0 → (∀ m ∈ l, wrongB m.m m.l = false) ∧ l.Pairwise (fun a b => a.m < b.m) ∧ ∀ q, p = some q → ∀ m ∈ l, q.m < m.m
 | [], p, _ => ⟨(fun m h => (by cases h)), .nil, (fun q _ m h => (by cases h))⟩
 | m :: r, p, h => by
  simp only [markErr] at h
  split at h
  ·cases h
  ·rename_i hw
   have hw : wrongB m.m m.l = false := by simpa using hw
   have key : markErr (some m) r = 0 ∧ ∀ q, p = some q → q.m < m.m := by
    cases p with
    | none => exact ⟨h, (fun q hq => (by cases hq))⟩
    | some q0 =>
     simp only at h
     split at h
     ·cases h
     ·rename_i hlt
      exact ⟨h, fun q hq => by cases hq; omega⟩
   obtain ⟨h1, h2, h3⟩ := markErr_zero r (some m) key.1
   refine ⟨fun x hx => ?_, List.pairwise_cons.2 ⟨h3 m rfl, h2⟩, fun q hq x hx => ?_⟩
   ·cases hx with
    | head => exact hw
    | tail _ hx => exact h1 x hx
   ·cases hx with
    | head => exact key.2 q hq
    | tail _ hx => have := key.2 q hq; have := h3 m rfl x hx; omega
theorem posF_spec {t : Int} : ∀ {l : List Mk}, l.Pairwise (fun a b => a.m < b.m) → ∀ (k : Nat) m, l[k]? = some m → (k < posF l t → m.m < t) ∧ (posF l t ≤ k → t ≤ m.m)
 | [], _, k, m, h => by simp at h
 | a :: r, hp, k, m, h => by
  obtain ⟨h1, h2⟩ := List.pairwise_cons.1 hp
  by_cases ha : a.m < t
  ·have e : posF (a :: r) t = posF r t + 1 := by simp [posF, ha]
   rw [e]
   cases k with
   | zero => simp only [List.getElem?_cons_zero, Option.some.injEq] at h; subst h; exact ⟨fun _ => ha, fun h => by omega⟩
   | succ k =>
    have := posF_spec (t := t) h2 k m (by simpa using h)
    exact ⟨fun h => this.1 (by omega), fun h => this.2 (by omega)⟩
  ·have e : posF (a :: r) t = 0 := by simp [posF, ha]
   rw [e]
   refine ⟨fun h => by omega, fun _ => ?_⟩
   cases k with
   | zero => simp only [List.getElem?_cons_zero, Option.some.injEq] at h; subst h; omega
   | succ k =>
    have := h1 m (List.mem_of_getElem? (i := k) (by simpa using h))
    omega
structure Good (g : Ga) : Prop where
 err : 0 ≤ g.err ∧ g.err ≤ 1000
 x : -1000000 ≤ g.x ∧ g.x ≤ 1000000
 len : g.marks.length ≤ 400
 ok : ∀ m ∈ g.marks, wrongB m.m m.l = false
 asc : g.marks.Pairwise fun a b => a.m < b.m
theorem wrongB_false {m : Mk} (h : wrongB m.m m.l = false) : 0 ≤ m.m ∧ m.m ≤ 1000000 ∧ -20000 ≤ m.l ∧ m.l ≤ 20000 := by
 simp only [wrongB, outsideB, Bool.or_eq_false_iff, decide_eq_false_iff_not] at h
 omega
theorem good_of_rec {g : Ga} (h : recErr g = 0) : Good g := by
 unfold recErr at h
 split at h
 ·cases h
 ·rename_i h1
  split at h
  ·cases h
  ·obtain ⟨a, b, -⟩ := markErr_zero _ _ h
   simp only [outsideB, Bool.or_eq_true, decide_eq_true_eq, not_or] at h1
   exact ⟨by omega, by omega, by omega, a, b⟩
theorem good_of {g : Ga} (h : gErr g = 0) : Good g := by
 unfold gErr at h
 split at h
 ·exact good_of_rec h
 ·cases h
def meanS (g : Ga) (t : Int) : Int × Int × Bool := meanAt g.marks (posF g.marks t) t
theorem ev_meanS {g : Ga} {t : Int} (h : Good g) (ht : 0 ≤ t ∧ t ≤ 1000000) : Ev Tryz.prog 132 [gD g, .int .i64 t] (m3D (meanS g t)) :=
 ev_mean g t _ h.len h.ok ht (posF_le _ _) (posF_spec h.asc)
theorem mean_bd {g : Ga} {t : Int} (h : Good g) : 0 < (meanS g t).2.1 ∧ (meanS g t).2.1 ≤ 1000000 ∧ -60000000000 ≤ (meanS g t).1 ∧ (meanS g t).1 ≤ 60000000000 := by
 have hp := posF_spec (t := t) h.asc
 unfold meanS
 generalize posF g.marks t = p at hp
 unfold meanAt
 split
 ·rename_i b hb
  have wb := wrongB_false (h.ok b (List.mem_of_getElem? hb))
  split
  ·simp only; omega
  ·split
   ·simp only; omega
   ·rename_i q' q
    split
    ·rename_i a ha
     have wa := wrongB_false (h.ok a (List.mem_of_getElem? ha))
     have h1 := (hp q a ha).1 (by omega)
     have h2 := (hp (q+1) b hb).2 (by omega)
     have e1 := mul_bd (x := a.l) (y := b.m - a.m) (X := 20000) (Y := 1000000) (by omega) (by omega)
     have e2 := mul_bd (x := b.l - a.l) (y := t - a.m) (X := 40000) (Y := 1000000) (by omega) (by omega)
     simp only
     omega
    ·simp only; omega
 ·simp only; omega
def ivD (lo hi : Int) : D := .agg [.int .i64 lo, .int .i64 hi]
def atS (g : Ga) (t : Int) : Int × Int × Bool := if (meanS g t).2.2 then ((meanS g t).1 / (meanS g t).2.1 - g.err, upZ (meanS g t).1 (meanS g t).2.1 + g.err, true) else (0, 0, false)
def at3D (x : Int × Int × Bool) : D := .tup [ivD x.1 x.2.1, .bool x.2.2]
theorem ev_at {g : Ga} {t : Int} (h : Good g) (ht : 0 ≤ t ∧ t ≤ 1000000) : Ev Tryz.prog 88 [gD g, .int .i64 t] (at3D (atS g t)) := by
 have hm := ev_meanS h ht
 have hb := mean_bd (t := t) h
 have he := h.err
 unfold atS
 generalize meanS g t = x at hm hb
 obtain ⟨n, d, ok⟩ := x
 dsimp only at hb ⊢
 have q1 := ediv_bd (a := n) (M := 60000000000) hb.1 (by omega)
 have q2 := ediv_bd (a := -n) (M := 60000000000) hb.1 (by omega)
 have d1 := ev_down n d hb.1 (by omega)
 have d2 := ev_up n d hb.1 (by omega)
 unfold upZ at d2 ⊢
 generalize n / d = u at *
 generalize -n / d = v at *
 refine ev_of_awp tysOk mixed (fn := Tryz.f88) Tryz.func88 rfl rfl rfl ?_
 conv => whnf
 repeat' (first|(with_reducible refine Split.neg ?_)|((with_reducible refine Split.mk (fun _=>?_) (fun _=>?_))<;>conv=>whnf)|((with_reducible refine Need.mk ?_ ?_);(first|omega|rfl|decide|(refine ⟨?_,?_⟩<;>simp<;>omega)|(simp;omega));conv=>whnf)|((with_reducible refine Wr.inr ?_ ?_);(first|omega|(simp;omega));conv=>whnf)|((with_reducible refine AltK.l ?_);(conv=>whnf);(first|(refine CallK.mk _ (hm) ?_)|(refine CallK.mk _ (d1) ?_)|(refine CallK.mk _ (d2) ?_));conv=>whnf)|fail)
 ·have hok : ok = true := by assumption
  simp only [retOf, at3D, ivD, hok, if_true]
 ·have hok : ok = false := by assumption
  simp only [retOf, at3D, ivD, hok, Bool.false_eq_true, if_false]
def At3D (x : Int × Int × Int) : D := .tup [ivD x.1 x.2.1, .int .i64 x.2.2]
end Go.Proofs.Tryz
end

section
namespace Go.Proofs.Tryz
open Go Go.Vm
def meanR : List Mk → Int → Option (Int × Int)
 | [], _ => none
 | [b], t => if b.m = t then some (b.l, 1) else none
 | a :: b :: r, t => if a.m = t then some (a.l, 1) else if t < a.m then none else if t < b.m then some (a.l * (b.m - a.m) + (b.l - a.l) * (t - a.m), b.m - a.m) else meanR (b :: r) t
def Fr : Option (Int × Int) → Option (Int × Int) → Prop
 | none, none => True
 | some (n, d), some (n', d') => 0 < d ∧ 0 < d' ∧ n * d' = n' * d
 | _, _ => False
theorem Fr.trans {a b c : Option (Int × Int)} (h1 : Fr a b) (h2 : Fr b c) : Fr a c := by
 match a, b, c, h1, h2 with
 | none, none, none, _, _ => trivial
 | some (n, d), some (n', d'), some (n'', d''), ⟨p1, p2, e1⟩, ⟨_, p3, e2⟩ =>
  refine ⟨p1, p3, ?_⟩
  have : (n * d'') * d' = (n'' * d) * d' := by grind
  exact Int.eq_of_mul_eq_mul_right (by omega) this
theorem meanR_pos : ∀ {l : List Mk} {t n d : Int}, l.Pairwise (fun a b => a.m < b.m) → meanR l t = some (n, d) → 0 < d
 | [], t, n, d, _, h => by cases h
 | [b], t, n, d, _, h => by
  simp only [meanR] at h
  split at h
  ·simp at h; omega
  ·cases h
 | a :: b :: r, t, n, d, hp, h => by
  obtain ⟨h1, h2⟩ := List.pairwise_cons.1 hp
  have hab := h1 b (List.mem_cons_self ..)
  simp only [meanR] at h
  split at h
  ·simp at h; omega
  ·split at h
   ·cases h
   ·split at h
    ·simp at h; omega
    ·exact meanR_pos h2 h
theorem Fr.refl {l : List Mk} {t : Int} (hp : l.Pairwise (fun a b => a.m < b.m)) : Fr (meanR l t) (meanR l t) := by
 cases h : meanR l t with
 | none => trivial
 | some x => obtain ⟨n, d⟩ := x; have := meanR_pos hp h; exact ⟨this, this, rfl⟩
end Go.Proofs.Tryz
end

section
namespace Go.Proofs.Tryz
open Go Go.Vm
set_option maxRecDepth 20000
set_option maxHeartbeats 2000000
theorem take_snoc {α : Type} {l : List α} {i : Nat} {m : α} (h : l[i]? = some m) : l.take (i + 1) = l.take i ++ [m] := by
 rw [List.take_add_one, h]; rfl
end Go.Proofs.Tryz
end

section
namespace Go.Proofs.Tryz
open Go Go.Vm
set_option maxRecDepth 20000
set_option maxHeartbeats 2000000
theorem ev_IndexG (l : List Ga) (f : Nat) (caps : List D) (p : Ga → Bool) (hn : l.length ≤ 1000000) (hf : ∀ g ∈ l, Ev Tryz.prog f ([gD g] ++ caps) (.bool (p g))) :
 Ev Tryz.prog 130 [.sl 4 (l.map gD), .fn f caps] (.int .i64 (match l.findIdx? p with | some i => (i : Int) | none => -1)) := by
 have hlen : (l.map gD).length = l.length := List.length_map _
 refine ev_of_awp tysOk mixed (fn := Tryz.f130) Tryz.func130 rfl rfl rfl ?_
 conv => whnf
 skip
 refine LoopK.o2 (fun i : Nat => i ≤ l.length ∧ ∀ g ∈ l.take i, p g = false) (fun i => [(8, .d (.int .i64 i))]) (fun _ => []) (fun i => l.length - i) 0 (by simp) (by refine ⟨?_, ?_, rfl⟩<;>(repeat' (first|exact True.intro|exact rfl|(refine ⟨?_,?_⟩)|fail));done) ?_
 rintro i ⟨hi, hp⟩
 have hn : (i : Int) < l.length → ∃ m, l[i]? = some m := fun h => some_of_lt (by omega)
 conv => whnf
 repeat' (first|((with_reducible refine Split.dec (fun _=>?_) (fun _=>?_))<;>conv=>whnf)|((with_reducible refine Need.mk ?_ ?_);(first|omega|rfl|decide|(refine ⟨?_,?_⟩<;>simp<;>omega)|(simp;omega));conv=>whnf)|fail)
 ·obtain ⟨g, hg⟩ := hn (by omega)
  have hf := hf g (List.mem_of_getElem? hg)
  conv => whnf
  repeat' (first|((refine PickE.map i hg (by omega) ?_);conv=>whnf)|fail)
  refine AltK.l ?_
  conv => whnf
  refine CallK.mk _ hf ?_
  conv => whnf
  refine Split.mk (fun hpg => ?_) (fun hpg => ?_)
  ·conv => whnf
   skip
   have e : l.findIdx? p = some i := by
    rw [List.findIdx?_eq_some_iff_getElem]
    refine ⟨by omega, by rw [(List.getElem?_eq_some_iff.1 hg).2]; exact hpg, fun j hj => ?_⟩
    have := hp l[j] (List.mem_take_iff_getElem.2 ⟨j, by omega, rfl⟩)
    rw [this]; decide
   rw [e]; rfl
  ·conv => whnf
   conv => whnf
   repeat' (first|((with_reducible refine Wr.inr ?_ ?_);(first|omega|(simp;omega));conv=>whnf)|fail)
   refine Again.au (i + 1) ⟨by omega, fun x hx => ?_⟩ (by omega) (by refine ⟨?_, ?_, rfl⟩<;>(repeat' (first|exact True.intro|exact rfl|(refine ⟨?_,?_⟩)|fail));done)
   rw [take_snoc hg] at hx
   rcases List.mem_append.1 hx with hx | hx
   ·exact hp x hx
   ·rw [List.mem_singleton.1 hx]; exact hpg
 ·have e : l.findIdx? p = none := by
   rw [List.findIdx?_eq_none_iff]
   intro x hx
   rw [← List.take_of_length_le (show l.length ≤ i by omega)] at hx
   exact hp x hx
  rw [e]; rfl
theorem ev_ContG (l : List Ga) (f : Nat) (caps : List D) (p : Ga → Bool) (hn : l.length ≤ 1000000) (hf : ∀ g ∈ l, Ev Tryz.prog f ([gD g] ++ caps) (.bool (p g))) :
 Ev Tryz.prog 83 [.sl 4 (l.map gD), .fn f caps] (.bool (l.any p)) := by
 have h := ev_IndexG l f caps p hn hf
 refine ev_of_awp tysOk mixed (fn := Tryz.f83) Tryz.func83 rfl rfl rfl ?_
 conv => whnf
 repeat' (first|((with_reducible refine AltK.l ?_);(conv=>whnf);(first|(refine CallK.mk _ (h) ?_));conv=>whnf)|fail)
 cases e : l.findIdx? p with
 | some i =>
  have : l.any p = true := by
   obtain ⟨h1, h2, -⟩ := List.findIdx?_eq_some_iff_getElem.1 e
   exact List.any_eq_true.2 ⟨_, List.getElem_mem h1, h2⟩
  rw [this]
  simp only [retOf, D.bool.injEq, decide_eq_true_eq]; omega
 | none =>
  have : l.any p = false := by
   rw [List.any_eq_false]
   intro x hx
   rw [List.findIdx?_eq_none_iff.1 e x hx]; decide
  rw [this]; rfl
def sameN (g h : Ga) : Bool := h.name.toList == g.name.toList
theorem ev_CG1 (g h : Ga) : Ev Tryz.prog 84 [gD h, .ref (gD g).cells 0] (.bool (sameN g h)) := by
 refine ev_of_awp tysOk mixed (fn := Tryz.f84) Tryz.func84 rfl rfl rfl ?_
 conv => whnf
 skip
 rfl
def gsGo : List Ga → List Ga → Int
 | _, [] => 0
 | o, g :: r => if nameB g.name = false then 4 else if o.any (sameN g) = true then 5 else if recErr g ≠ 0 then recErr g else match o.getLast? with
  | some z => if g.x ≤ z.x then 9 else gsGo (o ++ [g]) r
  | none => gsGo (o ++ [g]) r
def gsErr (l : List Ga) : Int := if 6 < l.length then 8 else gsGo [] l
open Classical in
theorem gsGo_at {l : List Ga} {i : Nat} {g : Ga} (hg : l[i]? = some g) : gsGo (l.take i) (l.drop i) = if nameB g.name = false then 4 else if (l.take i).any (sameN g) = true then 5 else if recErr g ≠ 0 then recErr g else
 if ∃ z, (i ≠ 0 ∧ l[i - 1]? = some z) ∧ g.x ≤ z.x then 9 else gsGo (l.take (i + 1)) (l.drop (i + 1)) := by
 rw [drop_of hg, gsGo, take_snoc hg]
 have hi := lt_of_some hg
 cases i with
 | zero => simp
 | succ j =>
  obtain ⟨z, hz⟩ := some_of_lt (l := l) (i := j) (by omega)
  have : (l.take (j + 1)).getLast? = some z := by rw [take_snoc hz]; simp
  rw [this]
  simp only [Nat.add_sub_cancel, hz]
  by_cases h : g.x ≤ z.x
  ·simp [h]
  ·simp [h]
theorem ev_CheckGauges (l : List Ga) : Ev Tryz.prog 64 [.sl 4 (l.map gD)] (.int .i64 (gsErr l)) := by
 have hlen : (l.map gD).length = l.length := List.length_map _
 refine ev_of_awp tysOk mixed (fn := Tryz.f64) Tryz.func64 rfl rfl rfl ?_
 conv => whnf
 repeat' (first|((with_reducible refine Split.dec (fun _=>?_) (fun _=>?_))<;>conv=>whnf)|fail)
 ·rw [gsErr, if_pos (by omega)]; rfl
 have e0 : gsErr l = gsGo [] l := by rw [gsErr, if_neg (by omega)]
 rw [e0]
 refine LoopK.o2 (fun i : Nat => i ≤ l.length ∧ gsGo [] l = gsGo (l.take i) (l.drop i)) (fun i => [(11, .d (.int .i64 i))]) (fun _ => []) (fun i => l.length - i) 0 (by simp) (by refine ⟨?_, ?_, rfl⟩<;>(repeat' (first|exact True.intro|exact rfl|(refine ⟨?_,?_⟩)|fail));done) ?_
 rintro i ⟨hi, hp⟩
 have hn : (i : Int) < l.length → ∃ m, l[i]? = some m := fun h => some_of_lt (by omega)
 conv => whnf
 repeat' (first|((with_reducible refine Split.dec (fun _=>?_) (fun _=>?_))<;>conv=>whnf)|((with_reducible refine Need.mk ?_ ?_);(first|omega|rfl|decide|(refine ⟨?_,?_⟩<;>simp<;>omega)|(simp;omega));conv=>whnf)|fail)
 ·obtain ⟨g, hg⟩ := hn (by omega)
  have hk := hp.trans (gsGo_at hg)
  have hc := ev_ContG (l.take i) 84 [.ref (gD g).cells 0] (sameN g) (by rw [List.length_take]; omega) (fun h _ => ev_CG1 g h)
  rw [List.map_take] at hc
  have hn1 := ev_named g.name
  have hr := ev_record g
  generalize (l.take i).any (sameN g) = b1 at *
  generalize nameB g.name = b2 at *
  cases b2 with
  | false =>
   conv => whnf
   repeat' (first|((refine PickE.map i hg (by omega) ?_);conv=>whnf)|((with_reducible refine Split.of_false ?_);conv=>whnf)|(with_reducible refine Split.neg ?_)|((with_reducible refine Need.mk ?_ ?_);(first|omega|rfl|decide|(refine ⟨?_,?_⟩<;>simp<;>omega)|(simp;omega));conv=>whnf)|((with_reducible refine AltK.l ?_);(conv=>whnf);(first|(refine CallK.mk _ (hn1) ?_));conv=>whnf)|fail)
   rw [hk, if_pos rfl]; rfl
  | true =>
   rw [if_neg (by decide)] at hk
   cases b1 with
   | true =>
    conv => whnf
    repeat' (first|((refine PickE.map i hg (by omega) ?_);conv=>whnf)|((with_reducible refine Split.of_true ?_);conv=>whnf)|(with_reducible refine Split.neg ?_)|((with_reducible refine Need.mk ?_ ?_);(first|omega|rfl|decide|(refine ⟨?_,?_⟩<;>simp<;>omega)|(simp;omega));conv=>whnf)|((with_reducible refine AltK.l ?_);(conv=>whnf);(first|(refine CallK.mk _ (hn1) ?_)|(refine CallK.mk _ (hc) ?_));conv=>whnf)|fail)
    rw [hk, if_pos rfl]; rfl
   | false =>
    rw [if_neg (by decide)] at hk
    by_cases hr0 : recErr g = 0
    ·rw [if_neg (by simpa using hr0)] at hk
     rw [hr0] at hr
     by_cases hi0 : i = 0
     ·subst hi0
      rw [if_neg (by simp)] at hk
      conv => whnf
      repeat' (first|((refine PickE.map 0 hg (by omega) ?_);conv=>whnf)|((with_reducible first|refine Split.of_true ?_|refine Split.of_false ?_);conv=>whnf)|(with_reducible refine Split.neg ?_)|((with_reducible refine Split.is_false ?_ ?_);decide;conv=>whnf)|((with_reducible refine Need.mk ?_ ?_);(first|omega|rfl|decide|(refine ⟨?_,?_⟩<;>simp<;>omega)|(simp;omega));conv=>whnf)|((with_reducible refine Wr.inr ?_ ?_);(first|omega|(simp;omega));conv=>whnf)|((with_reducible refine AltK.l ?_);(conv=>whnf);(first|(refine CallK.mk _ (hn1) ?_)|(refine CallK.mk _ (hc) ?_)|(refine CallK.mk _ (hr) ?_));conv=>whnf)|fail)
      exact Again.au (0 + 1) ⟨by omega, hk⟩ (by omega) (by refine ⟨?_, ?_, rfl⟩<;>(repeat' (first|exact True.intro|exact rfl|(refine ⟨?_,?_⟩)|fail));done)
     ·obtain ⟨z, hz⟩ := some_of_lt (l := l) (i := i - 1) (by omega)
      have ex : (∃ z, (i ≠ 0 ∧ l[i - 1]? = some z) ∧ g.x ≤ z.x) ↔ g.x ≤ z.x := ⟨fun ⟨z', ⟨_, h2⟩, h3⟩ => by rw [hz] at h2; cases h2; exact h3, fun h => ⟨z, ⟨hi0, hz⟩, h⟩⟩
      simp only [ex] at hk
      conv => whnf
      repeat' (first|((refine PickE.map (i - 1) hz (by omega) ?_);conv=>whnf)|((refine PickE.map i hg (by omega) ?_);conv=>whnf)|((with_reducible first|refine Split.of_true ?_|refine Split.of_false ?_);conv=>whnf)|(with_reducible refine Split.neg ?_)|((with_reducible refine Split.is_false ?_ ?_);decide;conv=>whnf)|((with_reducible refine Split.dec (fun _=>?_) (fun _=>?_))<;>conv=>whnf)|((with_reducible refine Need.mk ?_ ?_);(first|omega|rfl|decide|(refine ⟨?_,?_⟩<;>simp<;>omega)|(simp;omega));conv=>whnf)|((with_reducible refine Wr.inr ?_ ?_);(first|omega|(simp;omega));conv=>whnf)|((with_reducible refine AltK.l ?_);(conv=>whnf);(first|(refine CallK.mk _ (hn1) ?_)|(refine CallK.mk _ (hc) ?_)|(refine CallK.mk _ (hr) ?_));conv=>whnf)|fail)
      ·rw [hk, if_pos (by assumption)]; rfl
      ·rw [if_neg (by assumption)] at hk
       exact Again.au (i + 1) ⟨by omega, hk⟩ (by omega) (by refine ⟨?_, ?_, rfl⟩<;>(repeat' (first|exact True.intro|exact rfl|(refine ⟨?_,?_⟩)|fail));done)
      ·exfalso; clear hk; omega
    ·rw [if_pos (by simpa using hr0)] at hk
     conv => whnf
     repeat' (first|((refine PickE.map i hg (by omega) ?_);conv=>whnf)|((with_reducible first|refine Split.of_true ?_|refine Split.of_false ?_);conv=>whnf)|(with_reducible refine Split.neg ?_)|((with_reducible refine Split.nez (fun _=>?_) (fun _=>?_))<;>conv=>whnf)|((with_reducible refine Split.dec (fun _=>?_) (fun _=>?_))<;>conv=>whnf)|((with_reducible refine Need.mk ?_ ?_);(first|omega|rfl|decide|(refine ⟨?_,?_⟩<;>simp<;>omega)|(simp;omega));conv=>whnf)|((with_reducible refine Wr.inr ?_ ?_);(first|omega|(simp;omega));conv=>whnf)|((with_reducible refine AltK.l ?_);(conv=>whnf);(first|(refine CallK.mk _ (hn1) ?_)|(refine CallK.mk _ (hc) ?_)|(refine CallK.mk _ (hr) ?_));conv=>whnf)|(exfalso;first|omega|contradiction)|fail)
     rw [hk]; rfl
 ·rw [hp, List.drop_eq_nil_of_le (by omega)]; rfl
structure GoodAll (l : List Ga) : Prop where
 len : l.length ≤ 6
 each : ∀ g ∈ l, gErr g = 0
 asc : l.Pairwise fun a b => a.x < b.x
theorem gsGo_zero : ∀ (r o : List Ga), gsGo o r = 0 → (∀ g ∈ r, gErr g = 0) ∧ r.Pairwise (fun a b => a.x < b.x) ∧ ∀ z, o.getLast? = some z → ∀ g ∈ r, z.x < g.x
 | [], o, _ => ⟨(fun g h => (by cases h)), .nil, (fun z _ g h => (by cases h))⟩
 | g :: r, o, h => by
  rw [gsGo] at h
  split at h
  ·cases h
  ·rename_i h1
   split at h
   ·cases h
   ·split at h
    ·contradiction
    ·rename_i h3
     have key : gsGo (o ++ [g]) r = 0 ∧ ∀ z, o.getLast? = some z → z.x < g.x := by
      split at h
      ·rename_i z hz
       split at h
       ·cases h
       ·refine ⟨h, fun z' hz' => ?_⟩
        rw [hz] at hz'; cases hz'; omega
      ·rename_i hz
       exact ⟨h, fun z hz' => by rw [hz] at hz'; cases hz'⟩
     obtain ⟨k1, k2, k3⟩ := gsGo_zero r (o ++ [g]) key.1
     have k3 := k3 g (by simp)
     refine ⟨fun x hx => ?_, List.pairwise_cons.2 ⟨k3, k2⟩, fun z hz x hx => ?_⟩
     ·cases hx with
      | head => unfold gErr; rw [if_pos (by simpa using h1)]; simpa using h3
      | tail _ hx => exact k1 x hx
     ·have := key.2 z hz
      cases hx with
      | head => exact this
      | tail _ hx => have := k3 x hx; omega
theorem goodAll {l : List Ga} (h : gsErr l = 0) : GoodAll l := by
 unfold gsErr at h
 split at h
 ·cases h
 ·obtain ⟨a, b, -⟩ := gsGo_zero l [] h
  exact ⟨by omega, a, b⟩
def posX (l : List Ga) (x : Int) : Nat := (l.takeWhile fun g => decide (g.x < x)).length
theorem posX_le (l : List Ga) (x : Int) : posX l x ≤ l.length := (List.takeWhile_prefix _).length_le
theorem posX_spec {x : Int} : ∀ {l : List Ga}, l.Pairwise (fun a b => a.x < b.x) → ∀ (k : Nat) m, l[k]? = some m → (k < posX l x → m.x < x) ∧ (posX l x ≤ k → x ≤ m.x)
 | [], _, k, m, h => by simp at h
 | a :: r, hp, k, m, h => by
  obtain ⟨h1, h2⟩ := List.pairwise_cons.1 hp
  by_cases ha : a.x < x
  ·have e : posX (a :: r) x = posX r x + 1 := by simp [posX, ha]
   rw [e]
   cases k with
   | zero => simp only [List.getElem?_cons_zero, Option.some.injEq] at h; subst h; exact ⟨fun _ => ha, fun h => by omega⟩
   | succ k =>
    have := posX_spec (x := x) h2 k m (by simpa using h)
    exact ⟨fun h => this.1 (by omega), fun h => this.2 (by omega)⟩
  ·have e : posX (a :: r) x = 0 := by simp [posX, ha]
   rw [e]
   refine ⟨fun h => by omega, fun _ => ?_⟩
   cases k with
   | zero => simp only [List.getElem?_cons_zero, Option.some.injEq] at h; subst h; omega
   | succ k =>
    have := h1 m (List.mem_of_getElem? (i := k) (by simpa using h))
    omega
theorem ev_lv1 (g : Ga) (x : Int) (h : -1000000 ≤ g.x ∧ g.x ≤ 1000000) (hx : -4000000000000000000 ≤ x ∧ x ≤ 4000000000000000000) : Ev Tryz.prog 87 [gD g, .int .i64 x] (.int .i64 (g.x - x)) := by
 refine ev_of_awp tysOk mixed (fn := Tryz.f87) Tryz.func87 rfl rfl rfl ?_
 conv => whnf
 repeat' (first|((with_reducible refine Wr.inr ?_ ?_);(first|omega|(simp;omega));conv=>whnf)|fail)
 rfl
def foundX (l : List Ga) (p : Nat) (t : Int) : Bool := match l[p]? with
 | some m => decide (m.x = t)
 | none => false
theorem ev_BinX (l : List Ga) (t : Int) (p : Nat) (hl : l.length ≤ 1000000) (hb : ∀ m ∈ l, -1000000 ≤ m.x ∧ m.x ≤ 1000000) (ht : -4000000000000000000 ≤ t ∧ t ≤ 4000000000000000000) (hp : p ≤ l.length)
 (h : ∀ (k : Nat) m, l[k]? = some m → (k < p → m.x < t) ∧ (p ≤ k → t ≤ m.x)) : Ev Tryz.prog 86 [.sl 4 (l.map gD), .int .i64 t, .fn 87 []] (.tup [.int .i64 p, .bool (foundX l p t)]) := by
 have hlen : (l.map gD).length = l.length := List.length_map _
 refine ev_of_awp tysOk mixed (fn := Tryz.f86) Tryz.func86 rfl rfl rfl ?_
 conv => whnf
 skip
 refine LoopK.o2 (fun ij : Nat × Nat => ij.1 ≤ p ∧ p ≤ ij.2 ∧ ij.2 ≤ l.length)
  (fun ij => [(9, .d (.int .i64 ij.1)), (10, .d (.int .i64 ij.2))]) (fun _ => [])
  (fun ij => ij.2 - ij.1) (0, (l.map gD).length) ⟨by omega, by omega, by omega⟩ (by refine ⟨?_, ?_, rfl⟩<;>(repeat' (first|exact True.intro|exact rfl|(refine ⟨?_,?_⟩)|fail));done) ?_
 rintro ⟨i, j⟩ ⟨h1, h2, h3⟩
 dsimp only at h1 h2 h3 ⊢
 have hz : shrZ ((i : Int) + j) 1 = ((i + j) / 2 : Nat) := by rw [shrZ_one]; omega
 have hlt : (i : Int) < j → (i + j) / 2 < l.length := fun h => by omega
 conv => whnf
 repeat' (first|((with_reducible refine Split.dec (fun _=>?_) (fun _=>?_))<;>conv=>whnf)|((with_reducible refine Need.mk ?_ ?_);(first|omega|rfl|decide|(refine ⟨?_,?_⟩<;>simp<;>omega)|(simp;omega));conv=>whnf)|((with_reducible refine Wr.inr ?_ ?_);(first|omega|(simp;omega));conv=>whnf)|((with_reducible refine Wr.inu ?_ ?_);omega;conv=>whnf)|fail)
 ·have hlt := hlt (by assumption)
  obtain ⟨m, hm⟩ := some_of_lt hlt
  have hmb := hb m (List.mem_of_getElem? hm)
  have hc := h _ m hm
  rw [hz]
  have hq : i ≤ (i + j) / 2 ∧ (i + j) / 2 < j := by omega
  generalize (i + j) / 2 = q at *
  refine PickE.map q hm (by omega) ?_
  conv => whnf
  repeat' (first|((with_reducible refine Split.dec (fun _=>?_) (fun _=>?_))<;>conv=>whnf)|((with_reducible refine Wr.inr ?_ ?_);(first|omega|(simp;omega));conv=>whnf)|((with_reducible refine AltK.l ?_);(conv=>whnf);(first|(refine CallK.mk _ (ev_lv1 m t hmb ht) ?_));conv=>whnf)|fail)
  ·exact Again.au (q + 1, j) ⟨by omega, by omega, by omega⟩ (by dsimp only;omega) (by refine ⟨?_, ?_, rfl⟩<;>(repeat' (first|exact True.intro|exact rfl|(refine ⟨?_,?_⟩)|fail));done)
  ·exact Again.au (i, q) ⟨by omega, by omega, by omega⟩ (by dsimp only;omega) (by refine ⟨?_, ?_, rfl⟩<;>(repeat' (first|exact True.intro|exact rfl|(refine ⟨?_,?_⟩)|fail));done)
 ·have e : i = p := by omega
  subst e
  obtain ⟨m, hm⟩ := some_of_lt (l := l) (i := i) (by omega)
  have hmb := hb m (List.mem_of_getElem? hm)
  refine PickE.map i hm (by omega) ?_
  conv => whnf
  repeat' (first|((with_reducible refine AltK.l ?_);(conv=>whnf);(first|(refine CallK.mk _ (ev_lv1 m t hmb ht) ?_));conv=>whnf)|fail)
  have e : (m.x - t == 0) = decide (m.x = t) := by rw [Bool.eq_iff_iff]; simp; omega
  simp only [retOf, foundX, hm, e]
 ·have e : i = p := by omega
  subst e
  have hm : l[i]? = none := List.getElem?_eq_none (by omega)
  simp only [retOf, foundX, hm]
end Go.Proofs.Tryz
end

section
namespace Go.Proofs.Tryz
open Go Go.Vm
set_option maxRecDepth 20000
set_option maxHeartbeats 2000000
def mixS (a b : Ga) (x t : Int) : Int × Int × Bool :=
 if (atS a t).2.2 && (atS b t).2.2 then (((atS a t).1 * (b.x - x) + (atS b t).1 * (x - a.x)) / (b.x - a.x), upZ ((atS a t).2.1 * (b.x - x) + (atS b t).2.1 * (x - a.x)) (b.x - a.x), true) else (0, 0, false)
def lvF (l : List Ga) (x t : Int) (p : Nat) : Int × Int × Bool := match l[p]? with
 | none => match p with
  | 0 => (0, 0, false)
  | q + 1 => match l[q]? with
   | some a => atS a t
   | none => (0, 0, false)
 | some b => if b.x = x then atS b t else match p with
  | 0 => atS b t
  | q + 1 => match l[q]? with
   | some a => mixS a b x t
   | none => (0, 0, false)
def lvS (l : List Ga) (x t : Int) : Int × Int × Bool := lvF l x t (posX l x)
theorem at_bd {g : Ga} {t : Int} (h : Good g) : -60000001000 ≤ (atS g t).1 ∧ (atS g t).1 ≤ 60000001000 ∧ -60000001000 ≤ (atS g t).2.1 ∧ (atS g t).2.1 ≤ 60000001000 := by
 have hb := mean_bd (t := t) h
 have he := h.err
 have q1 := ediv_bd (a := (meanS g t).1) (M := 60000000000) hb.1 (by omega)
 have q2 := ediv_bd (a := -(meanS g t).1) (M := 60000000000) hb.1 (by omega)
 unfold atS
 split
 ·simp only [upZ]; omega
 ·simp only; omega
theorem ga_good {l : List Ga} (h : GoodAll l) {i : Nat} {g : Ga} (hg : l[i]? = some g) : Good g := good_of (h.each g (List.mem_of_getElem? hg))
theorem ga_lt {l : List Ga} (h : GoodAll l) {i : Nat} {a b : Ga} (ha : l[i]? = some a) (hb : l[i + 1]? = some b) : a.x < b.x := by
 have := (List.pairwise_iff_getElem.1 h.asc) i (i + 1) (lt_of_some ha) (lt_of_some hb) (by omega)
 rw [(List.getElem?_eq_some_iff.1 ha).2, (List.getElem?_eq_some_iff.1 hb).2] at this
 exact this
theorem ev_level {l : List Ga} {x t : Int} (h : GoodAll l) (hx : -1000000 ≤ x ∧ x ≤ 1000000) (ht : 0 ≤ t ∧ t ≤ 1000000) : Ev Tryz.prog 66 [.sl 4 (l.map gD), .int .i64 x, .int .i64 t] (at3D (lvS l x t)) := by
 have hlen : (l.map gD).length = l.length := List.length_map _
 have hl := h.len
 have hp := posX_spec (x := x) h.asc
 have hple := posX_le l x
 have hB := ev_BinX l x (posX l x) (by omega) (fun m hm => (good_of (h.each m hm)).x) (by omega) hple hp
 unfold lvS
 generalize posX l x = p at *
 have hfx : ∀ b, l[p]? = some b → foundX l p x = decide (b.x = x) := fun b hb => by simp only [foundX, hb]
 have hfn : l[p]? = none → foundX l p x = false := fun hb => by simp only [foundX, hb]
 cases hb : l[p]? with
 | some b =>
  have hpl := lt_of_some hb
  rw [hfx b hb] at hB
  have hat := ev_at (ga_good h hb) ht
  by_cases hbx : b.x = x
  ·rw [show lvF l x t p = atS b t by simp [lvF, hb, hbx]]
   generalize atS b t = r at *
   obtain ⟨lo, hi, ok⟩ := r
   refine ev_of_awp tysOk mixed (fn := Tryz.f66) Tryz.func66 rfl rfl rfl ?_
   conv => whnf
   repeat' (first|((refine PickE.map p hb (by omega) ?_);conv=>whnf)|((with_reducible refine Split.of_true ?_);conv=>whnf)|(with_reducible refine Split.neg ?_)|((with_reducible refine Split.eqz (fun _=>?_) (fun _=>?_))<;>conv=>whnf)|((with_reducible refine Split.dec (fun _=>?_) (fun _=>?_))<;>conv=>whnf)|((with_reducible refine Split.mk (fun _=>?_) (fun _=>?_))<;>conv=>whnf)|((with_reducible refine Need.mk ?_ ?_);(first|omega|rfl|decide|(refine ⟨?_,?_⟩<;>simp<;>omega)|(simp;omega));conv=>whnf)|((with_reducible refine Wr.inr ?_ ?_);(first|omega|(simp;omega));conv=>whnf)|((with_reducible refine AltK.l ?_);(conv=>whnf);(first|(refine CallK.mk _ (hB) ?_)|(refine CallK.mk _ (hat) ?_));conv=>whnf)|(exfalso;first|omega|contradiction)|fail)
   rfl
  ·cases p with
   | zero =>
    rw [show lvF l x t 0 = atS b t by simp [lvF, hb, hbx]]
    generalize atS b t = r at *
    obtain ⟨lo, hi, ok⟩ := r
    refine ev_of_awp tysOk mixed (fn := Tryz.f66) Tryz.func66 rfl rfl rfl ?_
    conv => whnf
    repeat' (first|((refine PickE.map 0 hb (by omega) ?_);conv=>whnf)|((with_reducible refine Split.of_true ?_);conv=>whnf)|((with_reducible refine Split.is_true ?_ ?_);decide;conv=>whnf)|((with_reducible refine Split.eqz (fun _=>?_) (fun _=>?_))<;>conv=>whnf)|((with_reducible refine Split.dec (fun _=>?_) (fun _=>?_))<;>conv=>whnf)|((with_reducible refine Need.mk ?_ ?_);(first|omega|rfl|decide|(refine ⟨?_,?_⟩<;>simp<;>omega)|(simp;omega));conv=>whnf)|((with_reducible refine AltK.l ?_);(conv=>whnf);(first|(refine CallK.mk _ (hB) ?_)|(refine CallK.mk _ (hat) ?_));conv=>whnf)|(exfalso;first|omega|contradiction)|fail)
    rfl
   | succ q =>
    obtain ⟨a, ha⟩ := some_of_lt (l := l) (i := q) (by omega)
    have hga := ga_good h ha
    have hgb := ga_good h hb
    have hab := ga_lt h ha hb
    have hax := (hp q a ha).1 (by omega)
    have hbx' := (hp (q + 1) b hb).2 (by omega)
    have hta := ev_at hga ht
    rw [show lvF l x t (q + 1) = mixS a b x t by simp [lvF, hb, hbx, ha]]
    have b1 := at_bd (t := t) hga
    have b2 := at_bd (t := t) hgb
    have x1 := hga.x
    have x2 := hgb.x
    unfold mixS
    generalize atS a t = r at *
    generalize atS b t = s at *
    obtain ⟨lo, hi, ok⟩ := r
    obtain ⟨lo', hi', ok'⟩ := s
    dsimp only at b1 b2 ⊢
    have m1 := mul_bd (x := lo) (y := b.x - x) (X := 60000001000) (Y := 2000000) (by omega) (by omega)
    have m2 := mul_bd (x := lo') (y := x - a.x) (X := 60000001000) (Y := 2000000) (by omega) (by omega)
    have m3 := mul_bd (x := hi) (y := b.x - x) (X := 60000001000) (Y := 2000000) (by omega) (by omega)
    have m4 := mul_bd (x := hi') (y := x - a.x) (X := 60000001000) (Y := 2000000) (by omega) (by omega)
    have d1 := ev_down (lo * (b.x - x) + lo' * (x - a.x)) (b.x - a.x) (by omega) (by omega)
    have d2 := ev_up (hi * (b.x - x) + hi' * (x - a.x)) (b.x - a.x) (by omega) (by omega)
    cases ok <;> cases ok'
    ·refine ev_of_awp tysOk mixed (fn := Tryz.f66) Tryz.func66 rfl rfl rfl ?_
     conv => whnf
     repeat' (first|((refine PickE.map q ha (by omega) ?_);conv=>whnf)|((refine PickE.map (q + 1) hb (by omega) ?_);conv=>whnf)|((with_reducible first|refine Split.of_true ?_|refine Split.of_false ?_);conv=>whnf)|(with_reducible refine Split.neg ?_)|((with_reducible refine Split.eqz (fun _=>?_) (fun _=>?_))<;>conv=>whnf)|((with_reducible refine Split.dec (fun _=>?_) (fun _=>?_))<;>conv=>whnf)|((with_reducible refine Need.mk ?_ ?_);(first|omega|rfl|decide|(refine ⟨?_,?_⟩<;>simp<;>omega)|(simp;omega));conv=>whnf)|((with_reducible refine Wr.inr ?_ ?_);(first|omega|(simp;omega));conv=>whnf)|((with_reducible refine AltK.l ?_);(conv=>whnf);(first|(refine CallK.mk _ (hB) ?_)|(refine CallK.mk _ (hta) ?_)|(refine CallK.mk _ (hat) ?_));conv=>whnf)|(exfalso;first|omega|contradiction)|fail)
     rfl
    ·refine ev_of_awp tysOk mixed (fn := Tryz.f66) Tryz.func66 rfl rfl rfl ?_
     conv => whnf
     repeat' (first|((refine PickE.map q ha (by omega) ?_);conv=>whnf)|((refine PickE.map (q + 1) hb (by omega) ?_);conv=>whnf)|((with_reducible first|refine Split.of_true ?_|refine Split.of_false ?_);conv=>whnf)|(with_reducible refine Split.neg ?_)|((with_reducible refine Split.eqz (fun _=>?_) (fun _=>?_))<;>conv=>whnf)|((with_reducible refine Split.dec (fun _=>?_) (fun _=>?_))<;>conv=>whnf)|((with_reducible refine Need.mk ?_ ?_);(first|omega|rfl|decide|(refine ⟨?_,?_⟩<;>simp<;>omega)|(simp;omega));conv=>whnf)|((with_reducible refine Wr.inr ?_ ?_);(first|omega|(simp;omega));conv=>whnf)|((with_reducible refine AltK.l ?_);(conv=>whnf);(first|(refine CallK.mk _ (hB) ?_)|(refine CallK.mk _ (hta) ?_)|(refine CallK.mk _ (hat) ?_));conv=>whnf)|(exfalso;first|omega|contradiction)|fail)
     rfl
    ·refine ev_of_awp tysOk mixed (fn := Tryz.f66) Tryz.func66 rfl rfl rfl ?_
     conv => whnf
     repeat' (first|((refine PickE.map q ha (by omega) ?_);conv=>whnf)|((refine PickE.map (q + 1) hb (by omega) ?_);conv=>whnf)|((with_reducible first|refine Split.of_true ?_|refine Split.of_false ?_);conv=>whnf)|(with_reducible refine Split.neg ?_)|((with_reducible refine Split.eqz (fun _=>?_) (fun _=>?_))<;>conv=>whnf)|((with_reducible refine Split.dec (fun _=>?_) (fun _=>?_))<;>conv=>whnf)|((with_reducible refine Need.mk ?_ ?_);(first|omega|rfl|decide|(refine ⟨?_,?_⟩<;>simp<;>omega)|(simp;omega));conv=>whnf)|((with_reducible refine Wr.inr ?_ ?_);(first|omega|(simp;omega));conv=>whnf)|((with_reducible refine AltK.l ?_);(conv=>whnf);(first|(refine CallK.mk _ (hB) ?_)|(refine CallK.mk _ (hta) ?_)|(refine CallK.mk _ (hat) ?_));conv=>whnf)|(exfalso;first|omega|contradiction)|fail)
     rfl
    ·refine ev_of_awp tysOk mixed (fn := Tryz.f66) Tryz.func66 rfl rfl rfl ?_
     conv => whnf
     repeat' (first|((refine PickE.map q ha (by omega) ?_);conv=>whnf)|((refine PickE.map (q + 1) hb (by omega) ?_);conv=>whnf)|((with_reducible refine Split.of_true ?_);conv=>whnf)|(with_reducible refine Split.neg ?_)|((with_reducible refine Split.eqz (fun _=>?_) (fun _=>?_))<;>conv=>whnf)|((with_reducible refine Split.dec (fun _=>?_) (fun _=>?_))<;>conv=>whnf)|((with_reducible refine Need.mk ?_ ?_);(first|omega|rfl|decide|(refine ⟨?_,?_⟩<;>simp<;>omega)|(simp;omega));conv=>whnf)|((with_reducible refine Wr.inr ?_ ?_);(first|omega|(simp;omega));conv=>whnf)|((with_reducible refine AltK.l ?_);(conv=>whnf);(first|(refine CallK.mk _ (hB) ?_)|(refine CallK.mk _ (hta) ?_)|(refine CallK.mk _ (hat) ?_)|(refine CallK.mk _ (d1) ?_)|(refine CallK.mk _ (d2) ?_));conv=>whnf)|(exfalso;first|omega|contradiction)|fail)
     rfl
 | none =>
  have hpl := List.getElem?_eq_none_iff.1 hb
  rw [hfn hb] at hB
  cases p with
  | zero =>
   refine ev_of_awp tysOk mixed (fn := Tryz.f66) Tryz.func66 rfl rfl rfl ?_
   conv => whnf
   repeat' (first|((with_reducible refine Split.of_false ?_);conv=>whnf)|((with_reducible refine Split.is_true ?_ ?_);decide;conv=>whnf)|((with_reducible refine Split.eqz (fun _=>?_) (fun _=>?_))<;>conv=>whnf)|((with_reducible refine Need.mk ?_ ?_);(first|omega|rfl|decide|(refine ⟨?_,?_⟩<;>simp<;>omega)|(simp;omega));conv=>whnf)|((with_reducible refine AltK.l ?_);(conv=>whnf);(first|(refine CallK.mk _ (hB) ?_));conv=>whnf)|(exfalso;first|omega|contradiction)|fail)
   simp [lvF, hb, retOf, at3D, ivD]
  | succ q =>
   obtain ⟨a, ha⟩ := some_of_lt (l := l) (i := q) (by omega)
   have hta := ev_at (ga_good h ha) ht
   rw [show lvF l x t (q + 1) = atS a t by simp [lvF, hb, ha]]
   generalize atS a t = r at *
   obtain ⟨lo, hi, ok⟩ := r
   refine ev_of_awp tysOk mixed (fn := Tryz.f66) Tryz.func66 rfl rfl rfl ?_
   conv => whnf
   repeat' (first|((refine PickE.map q ha (by omega) ?_);conv=>whnf)|((with_reducible first|refine Split.of_true ?_|refine Split.of_false ?_);conv=>whnf)|(with_reducible refine Split.neg ?_)|((with_reducible refine Split.eqz (fun _=>?_) (fun _=>?_))<;>conv=>whnf)|((with_reducible refine Split.mk (fun _=>?_) (fun _=>?_))<;>conv=>whnf)|((with_reducible refine Need.mk ?_ ?_);(first|omega|rfl|decide|(refine ⟨?_,?_⟩<;>simp<;>omega)|(simp;omega));conv=>whnf)|((with_reducible refine Wr.inr ?_ ?_);(first|omega|(simp;omega));conv=>whnf)|((with_reducible refine AltK.l ?_);(conv=>whnf);(first|(refine CallK.mk _ (hB) ?_)|(refine CallK.mk _ (hta) ?_));conv=>whnf)|(exfalso;first|omega|contradiction)|fail)
   rfl
def LvS (l : List Ga) (x t : Int) : Int × Int × Int := if gsErr l ≠ 0 then (0, 0, gsErr l) else if outsideB x (-1000000) 1000000 || outsideB t 0 1000000 then (0, 0, 2) else
 if (lvS l x t).2.2 then ((lvS l x t).1, (lvS l x t).2.1, 0) else (0, 0, 11)
theorem ev_Level (l : List Ga) (x t : Int) : Ev Tryz.prog 36 [.sl 4 (l.map gD), .int .i64 x, .int .i64 t] (At3D (LvS l x t)) := by
 have hc := ev_CheckGauges l
 by_cases h0 : gsErr l = 0
 ·by_cases hx : outsideB x (-1000000) 1000000 = true
  ·refine ev_of_awp tysOk mixed (fn := Tryz.f36) Tryz.func36 rfl rfl rfl ?_
   conv => whnf
   repeat' (first|((with_reducible refine Split.of_true ?_);conv=>whnf)|((with_reducible refine Split.nez (fun _=>?_) (fun _=>?_))<;>conv=>whnf)|((with_reducible refine Split.mk (fun _=>?_) (fun _=>?_))<;>conv=>whnf)|((with_reducible refine Need.mk ?_ ?_);(first|omega|rfl|decide|(refine ⟨?_,?_⟩<;>simp<;>omega)|(simp;omega));conv=>whnf)|((with_reducible refine AltK.l ?_);(conv=>whnf);(first|(refine CallK.mk _ (hc) ?_)|(refine CallK.mk _ (ev_outside _ _ _) ?_));conv=>whnf)|(exfalso;first|omega|contradiction)|fail)
   all_goals simp_all [retOf, At3D, LvS, ivD]
  ·by_cases ht : outsideB t 0 1000000 = true
   ·refine ev_of_awp tysOk mixed (fn := Tryz.f36) Tryz.func36 rfl rfl rfl ?_
    conv => whnf
    repeat' (first|((with_reducible refine Split.of_true ?_);conv=>whnf)|((with_reducible refine Split.nez (fun _=>?_) (fun _=>?_))<;>conv=>whnf)|((with_reducible refine Split.mk (fun _=>?_) (fun _=>?_))<;>conv=>whnf)|((with_reducible refine Need.mk ?_ ?_);(first|omega|rfl|decide|(refine ⟨?_,?_⟩<;>simp<;>omega)|(simp;omega));conv=>whnf)|((with_reducible refine AltK.l ?_);(conv=>whnf);(first|(refine CallK.mk _ (hc) ?_)|(refine CallK.mk _ (ev_outside _ _ _) ?_));conv=>whnf)|(exfalso;first|omega|contradiction)|fail)
    all_goals simp_all [retOf, At3D, LvS, ivD]
   ·have hx' : -1000000 ≤ x ∧ x ≤ 1000000 := by simp [outsideB] at hx; omega
    have ht' : 0 ≤ t ∧ t ≤ 1000000 := by simp [outsideB] at ht; omega
    have hL := ev_level (goodAll h0) hx' ht'
    have e : LvS l x t = if (lvS l x t).2.2 then ((lvS l x t).1, (lvS l x t).2.1, 0) else (0, 0, 11) := by simp [LvS, h0, hx, ht]
    rw [e]
    generalize lvS l x t = r at *
    obtain ⟨lo, hi, ok⟩ := r
    rw [h0] at hc
    cases ok
    ·refine ev_of_awp tysOk mixed (fn := Tryz.f36) Tryz.func36 rfl rfl rfl ?_
     conv => whnf
     repeat' (first|((with_reducible first|refine Split.of_true ?_|refine Split.of_false ?_);conv=>whnf)|(with_reducible refine Split.neg ?_)|((with_reducible refine Split.is_false ?_ ?_);decide;conv=>whnf)|((with_reducible refine Split.mk (fun _=>?_) (fun _=>?_))<;>conv=>whnf)|((with_reducible refine Need.mk ?_ ?_);(first|omega|rfl|decide|(refine ⟨?_,?_⟩<;>simp<;>omega)|(simp;omega));conv=>whnf)|((with_reducible refine AltK.l ?_);(conv=>whnf);(first|(refine CallK.mk _ (hc) ?_)|(refine CallK.mk _ (ev_outside _ _ _) ?_)|(refine CallK.mk _ (hL) ?_));conv=>whnf)|(exfalso;first|omega|contradiction)|fail)
     rfl
    ·refine ev_of_awp tysOk mixed (fn := Tryz.f36) Tryz.func36 rfl rfl rfl ?_
     conv => whnf
     repeat' (first|((with_reducible refine Split.of_true ?_);conv=>whnf)|(with_reducible refine Split.neg ?_)|((with_reducible refine Split.is_false ?_ ?_);decide;conv=>whnf)|((with_reducible refine Split.mk (fun _=>?_) (fun _=>?_))<;>conv=>whnf)|((with_reducible refine Need.mk ?_ ?_);(first|omega|rfl|decide|(refine ⟨?_,?_⟩<;>simp<;>omega)|(simp;omega));conv=>whnf)|((with_reducible refine AltK.l ?_);(conv=>whnf);(first|(refine CallK.mk _ (hc) ?_)|(refine CallK.mk _ (ev_outside _ _ _) ?_)|(refine CallK.mk _ (hL) ?_));conv=>whnf)|(exfalso;first|omega|contradiction)|fail)
     rfl
 ·refine ev_of_awp tysOk mixed (fn := Tryz.f36) Tryz.func36 rfl rfl rfl ?_
  conv => whnf
  repeat' (first|((with_reducible refine Split.of_true ?_);conv=>whnf)|((with_reducible refine Split.nez (fun _=>?_) (fun _=>?_))<;>conv=>whnf)|((with_reducible refine Split.mk (fun _=>?_) (fun _=>?_))<;>conv=>whnf)|((with_reducible refine Need.mk ?_ ?_);(first|omega|rfl|decide|(refine ⟨?_,?_⟩<;>simp<;>omega)|(simp;omega));conv=>whnf)|((with_reducible refine AltK.l ?_);(conv=>whnf);(first|(refine CallK.mk _ (hc) ?_)|(refine CallK.mk _ (ev_outside _ _ _) ?_));conv=>whnf)|(exfalso;first|omega|contradiction)|fail)
  all_goals simp_all [retOf, At3D, LvS, ivD]
end Go.Proofs.Tryz
end

section
namespace Go.Proofs.Tryz
open Go Go.Vm
set_option maxRecDepth 20000
set_option maxHeartbeats 2000000
def iD (n : Int) : D := .int .i64 n
theorem ev_IndexI (l : List Int) (f : Nat) (caps : List D) (p : Int → Bool) (hn : l.length ≤ 1000000) (hf : ∀ g ∈ l, Ev Tryz.prog f ([iD g] ++ caps) (.bool (p g))) :
 Ev Tryz.prog 118 [.sl 1 (l.map iD), .fn f caps] (.int .i64 (match l.findIdx? p with | some i => (i : Int) | none => -1)) := by
 have hlen : (l.map iD).length = l.length := List.length_map _
 refine ev_of_awp tysOk mixed (fn := Tryz.f118) Tryz.func118 rfl rfl rfl ?_
 conv => whnf
 skip
 refine LoopK.o2 (fun i : Nat => i ≤ l.length ∧ ∀ g ∈ l.take i, p g = false) (fun i => [(8, .d (.int .i64 i))]) (fun _ => []) (fun i => l.length - i) 0 (by simp) (by refine ⟨?_, ?_, rfl⟩<;>(repeat' (first|exact True.intro|exact rfl|(refine ⟨?_,?_⟩)|fail));done) ?_
 rintro i ⟨hi, hp⟩
 have hn : (i : Int) < l.length → ∃ m, l[i]? = some m := fun h => some_of_lt (by omega)
 conv => whnf
 repeat' (first|((with_reducible refine Split.dec (fun _=>?_) (fun _=>?_))<;>conv=>whnf)|((with_reducible refine Need.mk ?_ ?_);(first|omega|rfl|decide|(refine ⟨?_,?_⟩<;>simp<;>omega)|(simp;omega));conv=>whnf)|fail)
 ·obtain ⟨g, hg⟩ := hn (by omega)
  have hf := hf g (List.mem_of_getElem? hg)
  conv => whnf
  repeat' (first|((refine PickE.map i hg (by omega) ?_);conv=>whnf)|fail)
  refine AltK.l ?_
  conv => whnf
  refine CallK.mk _ hf ?_
  conv => whnf
  refine Split.mk (fun hpg => ?_) (fun hpg => ?_)
  ·conv => whnf
   skip
   have e : l.findIdx? p = some i := by
    rw [List.findIdx?_eq_some_iff_getElem]
    refine ⟨by omega, by rw [(List.getElem?_eq_some_iff.1 hg).2]; exact hpg, fun j hj => ?_⟩
    have := hp l[j] (List.mem_take_iff_getElem.2 ⟨j, by omega, rfl⟩)
    rw [this]; decide
   rw [e]; rfl
  ·conv => whnf
   conv => whnf
   repeat' (first|((with_reducible refine Wr.inr ?_ ?_);(first|omega|(simp;omega));conv=>whnf)|fail)
   refine Again.au (i + 1) ⟨by omega, fun x hx => ?_⟩ (by omega) (by refine ⟨?_, ?_, rfl⟩<;>(repeat' (first|exact True.intro|exact rfl|(refine ⟨?_,?_⟩)|fail));done)
   rw [take_snoc hg] at hx
   rcases List.mem_append.1 hx with hx | hx
   ·exact hp x hx
   ·rw [List.mem_singleton.1 hx]; exact hpg
 ·have e : l.findIdx? p = none := by
   rw [List.findIdx?_eq_none_iff]
   intro x hx
   rw [← List.take_of_length_le (show l.length ≤ i by omega)] at hx
   exact hp x hx
  rw [e]; rfl
theorem ev_ContI (l : List Int) (f : Nat) (caps : List D) (p : Int → Bool) (hn : l.length ≤ 1000000) (hf : ∀ g ∈ l, Ev Tryz.prog f ([iD g] ++ caps) (.bool (p g))) :
 Ev Tryz.prog 72 [.sl 1 (l.map iD), .fn f caps] (.bool (l.any p)) := by
 have h := ev_IndexI l f caps p hn hf
 refine ev_of_awp tysOk mixed (fn := Tryz.f72) Tryz.func72 rfl rfl rfl ?_
 conv => whnf
 repeat' (first|((with_reducible refine AltK.l ?_);(conv=>whnf);(first|(refine CallK.mk _ (h) ?_));conv=>whnf)|fail)
 cases e : l.findIdx? p with
 | some i =>
  have : l.any p = true := by
   obtain ⟨h1, h2, -⟩ := List.findIdx?_eq_some_iff_getElem.1 e
   exact List.any_eq_true.2 ⟨_, List.getElem_mem h1, h2⟩
  rw [this]
  simp only [retOf, D.bool.injEq, decide_eq_true_eq]; omega
 | none =>
  have : l.any p = false := by
   rw [List.any_eq_false]
   intro x hx
   rw [List.findIdx?_eq_none_iff.1 e x hx]; decide
  rw [this]; rfl
theorem ev_within1 (n lo hi : Int) : Ev Tryz.prog 73 [iD n, .ref [iD lo] 0, .ref [iD hi] 0] (.bool (outsideB n lo hi)) := by
 refine ev_of_awp tysOk mixed (fn := Tryz.f73) Tryz.func73 rfl rfl rfl ?_
 conv => whnf
 repeat' (first|((with_reducible refine Split.dec (fun _=>?_) (fun _=>?_))<;>conv=>whnf)|fail)
 all_goals (simp_all [outsideB, retOf] <;> omega)
theorem ev_within (l : List Int) (lo hi : Int) (hn : l.length ≤ 1000000) : Ev Tryz.prog 50 [iD lo, iD hi, .sl 1 (l.map iD)] (.bool (!l.any fun n => outsideB n lo hi)) := by
 have h := ev_ContI l 73 [.ref [iD lo] 0, .ref [iD hi] 0] (fun n => outsideB n lo hi) hn (fun n _ => ev_within1 n lo hi)
 refine ev_of_awp tysOk mixed (fn := Tryz.f50) Tryz.func50 rfl rfl rfl ?_
 conv => whnf
 repeat' (first|((with_reducible refine AltK.l ?_);(conv=>whnf);(first|(refine CallK.mk _ (h) ?_));conv=>whnf)|fail)
 rfl
theorem ev_w1 (n lo hi : Int) : Ev Tryz.prog 50 [iD lo, iD hi, .sl 1 [iD n]] (.bool (!outsideB n lo hi)) := by
 have h := ev_within [n] lo hi (by simp)
 simpa using h
theorem ev_w2 (n m lo hi : Int) : Ev Tryz.prog 50 [iD lo, iD hi, .sl 1 [iD n, iD m]] (.bool (!(outsideB n lo hi || outsideB m lo hi))) := by
 have h := ev_within [n, m] lo hi (by simp)
 simpa using h
structure Rw where
 n : Int
 mi : Int
 x : Int
 y : Int
 d : Int
 dr : Int
 e : Int
 deriving DecidableEq
def rD (r : Rw) : D := .agg [iD r.n, iD r.mi, iD r.x, iD r.y, iD r.d, iD r.dr, iD r.e]
structure Sg where
 n : Int
 x : Int
 y : Int
 lo : Int
 hi : Int
 deriving DecidableEq
def sgD (s : Sg) : D := .agg [iD s.n, iD s.x, iD s.y, iD s.lo, iD s.hi]
def rawB (r : Rw) : Bool := !outsideB r.n 1 1000000 && !outsideB r.mi 0 1000000 && !(outsideB r.x (-1000000) 1000000 || outsideB r.y (-1000000) 1000000) && !(outsideB r.d 0 20000 || outsideB r.dr 0 20000) && !outsideB r.e 0 1000
def sgB (s : Sg) : Bool := !outsideB s.n 1 1000000 && !(outsideB s.x (-1000000) 1000000 || outsideB s.y (-1000000) 1000000) && decide (s.lo ≥ -100000) && decide (s.lo ≤ s.hi) && decide (s.hi ≤ 100000)
theorem ev_validRaw (r : Rw) : Ev Tryz.prog 20 [rD r] (.bool (rawB r)) := by
 refine ev_of_awp tysOk mixed (fn := Tryz.f20) Tryz.func20 rfl rfl rfl ?_
 conv => whnf
 repeat' (first|((with_reducible refine Split.of_false ?_);conv=>whnf)|(with_reducible refine Split.neg ?_)|(with_reducible refine Split.or ?_)|((with_reducible refine Split.mk (fun _=>?_) (fun _=>?_))<;>conv=>whnf)|((with_reducible refine AltK.l ?_);(conv=>whnf);(first|(refine CallK.mk _ (ev_w1 _ _ _) ?_)|(refine CallK.mk _ (ev_w2 _ _ _ _) ?_));conv=>whnf)|fail)
 all_goals simp_all [retOf, rawB]
theorem ev_valid (s : Sg) : Ev Tryz.prog 33 [sgD s] (.bool (sgB s)) := by
 refine ev_of_awp tysOk mixed (fn := Tryz.f33) Tryz.func33 rfl rfl rfl ?_
 conv => whnf
 repeat' (first|((with_reducible refine Split.of_false ?_);conv=>whnf)|(with_reducible refine Split.neg ?_)|(with_reducible refine Split.or ?_)|((with_reducible refine Split.dec (fun _=>?_) (fun _=>?_))<;>conv=>whnf)|((with_reducible refine Split.mk (fun _=>?_) (fun _=>?_))<;>conv=>whnf)|((with_reducible refine AltK.l ?_);(conv=>whnf);(first|(refine CallK.mk _ (ev_w1 _ _ _) ?_)|(refine CallK.mk _ (ev_w2 _ _ _ _) ?_));conv=>whnf)|fail)
 all_goals (simp_all [retOf, sgB] <;> omega)
theorem ev_numS (s : Sg) : Ev Tryz.prog 60 [sgD s] (iD s.n) := by
 refine ev_of_awp tysOk mixed (fn := Tryz.f60) Tryz.func60 rfl rfl rfl ?_
 conv => whnf
 skip
 rfl
def chkGo {α : Type} (v : α → Bool) (num : α → Int) : List α → List α → Int
 | _, [] => 0
 | o, x :: r => if v x = false then 2 else if o.any (fun y => num y == num x) = true then 5 else chkGo v num (o ++ [x]) r
def chkErr {α : Type} (v : α → Bool) (num : α → Int) (l : List α) : Int := if 500 < l.length then 8 else chkGo v num [] l
theorem chkGo_at {α : Type} {v : α → Bool} {num : α → Int} {l : List α} {i : Nat} {g : α} (hg : l[i]? = some g) :
 chkGo v num (l.take i) (l.drop i) = if v g = false then 2 else if (l.take i).any (fun y => num y == num g) = true then 5 else chkGo v num (l.take (i + 1)) (l.drop (i + 1)) := by
 rw [drop_of hg, chkGo, take_snoc hg]
def seenD {α : Type} (num : α → Int) (l : List α) : List (D × D) := l.map fun x => (iD (num x), D.bool true)
theorem mget_seen {α : Type} (num : α → Int) (k : Int) : ∀ l : List α, mget (seenD num l) (iD k) = if l.any (fun y => num y == k) = true then some (.bool true) else none
 | [] => rfl
 | a :: r => by
  have ih := mget_seen num k r
  simp only [seenD, List.map_cons] at ih ⊢
  rw [mget, ih]
  by_cases h : num a = k
  ·simp [keyEq, iD, h]
  ·simp [keyEq, iD, h, Ne.symm h]
theorem mput_new {v : D} {x : D} : ∀ {es : List (D × D)}, mget es x = none → mput es x v = es ++ [(x, v)]
 | [], _ => rfl
 |(k, u) :: r, h => by
  rw [mget] at h
  split at h
  ·cases h
  ·rename_i hk
   rw [mput, if_neg hk, mput_new h]; rfl
theorem seen_snoc {α : Type} {num : α → Int} {l : List α} {i : Nat} {g : α} (hg : l[i]? = some g) (hv : mget (seenD num (l.take i)) (iD (num g)) = none) :
 mput (seenD num (l.take i)) (iD (num g)) (.bool true) = seenD num (l.take (i + 1)) := by
 rw [mput_new hv, take_snoc hg]
 simp [seenD]
end Go.Proofs.Tryz
end

section
namespace Go.Proofs.Tryz
open Go Go.Vm
set_option maxRecDepth 20000
set_option maxHeartbeats 2000000
theorem ev_checkedS (l : List Sg) : Ev Tryz.prog 59 [.sl 5 (l.map sgD), .fn 33 [], .fn 60 []] (iD (chkErr sgB Sg.n l)) := by
 have hlen : (l.map sgD).length = l.length := List.length_map _
 refine ev_of_awp tysOk mixed (fn := Tryz.f59) Tryz.func59 rfl rfl rfl ?_
 conv => whnf
 repeat' (first|((with_reducible refine Split.dec (fun _=>?_) (fun _=>?_))<;>conv=>whnf)|fail)
 ·rw [chkErr, if_pos (by omega)]; rfl
 have e0 : chkErr sgB Sg.n l = chkGo sgB Sg.n [] l := by rw [chkErr, if_neg (by omega)]
 rw [e0]
 refine LoopK.o2 (fun i : Nat => i ≤ l.length ∧ chkGo sgB Sg.n [] l = chkGo sgB Sg.n (l.take i) (l.drop i)) (fun i => [(16, .d (.int .i64 i))]) (fun i => [(13, .map 3 4 (.int .i64) (seenD Sg.n (l.take i)))]) (fun i => l.length - i) 0 (by simp) (by refine ⟨?_, ?_, rfl⟩<;>(repeat' (first|exact True.intro|exact rfl|(refine ⟨?_,?_⟩)|(intro h;cases h;done)|fail));done) ?_
 rintro i ⟨hi, hp⟩
 have hn : (i : Int) < l.length → ∃ m, l[i]? = some m := fun h => some_of_lt (by omega)
 conv => whnf
 repeat' (first|((with_reducible refine Split.dec (fun _=>?_) (fun _=>?_))<;>conv=>whnf)|((with_reducible refine Need.mk ?_ ?_);(first|omega|rfl|decide|(refine ⟨?_,?_⟩<;>simp<;>omega)|(simp;omega));conv=>whnf)|fail)
 ·obtain ⟨g, hg⟩ := hn (by omega)
  have hk := hp.trans (chkGo_at hg)
  have hm := mget_seen Sg.n g.n (l.take i)
  have hv1 := ev_valid g
  have hv2 := ev_numS g
  generalize sgB g = b2 at *
  cases b2 with
  | false =>
   conv => whnf
   repeat' (first|((refine PickE.map i hg (by omega) ?_);conv=>whnf)|((with_reducible refine Split.of_false ?_);conv=>whnf)|(with_reducible refine Split.neg ?_)|((with_reducible refine Need.mk ?_ ?_);(first|omega|rfl|decide|(refine ⟨?_,?_⟩<;>simp<;>omega)|(simp;omega));conv=>whnf)|((with_reducible refine AltK.l ?_);(conv=>whnf);(first|(refine CallK.mk _ (hv1) ?_)|(refine CallK.mk _ (hv2) ?_));conv=>whnf)|fail)
   rw [hk, if_pos rfl]; rfl
  | true =>
   rw [if_neg (by decide)] at hk
   conv => whnf
   repeat' (first|((refine PickE.map i hg (by omega) ?_);conv=>whnf)|((with_reducible refine Split.of_true ?_);conv=>whnf)|(with_reducible refine Split.neg ?_)|((with_reducible refine Need.mk ?_ ?_);(first|omega|rfl|decide|(refine ⟨?_,?_⟩<;>simp<;>omega)|(simp;omega));conv=>whnf)|((with_reducible refine AltK.l ?_);(conv=>whnf);(first|(refine CallK.mk _ (hv1) ?_)|(refine CallK.mk _ (hv2) ?_));conv=>whnf)|fail)
   refine LookK.mk (fun v hv => ?_) (fun hv => ?_)
   ·rw [hm] at hv
    split at hv
    ·cases hv
     rename_i h1
     conv => whnf
     repeat' (first|((with_reducible refine Split.of_true ?_);conv=>whnf)|fail)
     rw [hk, if_pos h1]; rfl
    ·cases hv
   ·have h1 : ¬ ((l.take i).any fun y => y.n == g.n) = true := by
     intro h1; rw [hm, if_pos h1] at hv; cases hv
    rw [if_neg h1] at hk
    conv => whnf
    repeat' (first|((with_reducible refine Split.of_false ?_);conv=>whnf)|((with_reducible refine Need.mk ?_ ?_);(first|omega|rfl|decide|(refine ⟨?_,?_⟩<;>simp<;>omega)|(simp;omega));conv=>whnf)|((with_reducible refine Wr.inr ?_ ?_);(first|omega|(simp;omega));conv=>whnf)|((with_reducible refine AltK.l ?_);(conv=>whnf);(first|(refine CallK.mk _ (hv1) ?_)|(refine CallK.mk _ (hv2) ?_));conv=>whnf)|fail)
    refine Again.au (i + 1) ⟨by omega, hk⟩ (by omega) (by refine ⟨?_, ?_, rfl⟩<;>(repeat' (first|exact True.intro|exact rfl|(refine ⟨?_,?_⟩)|(intro h;cases h;done)|((first|refine own_congr ?_|refine int_congr ?_|skip);simp [seen_snoc hg hv];done)|fail));done)
 ·rw [hp, List.drop_eq_nil_of_le (by omega)]; rfl
theorem ev_CheckS (l : List Sg) : Ev Tryz.prog 27 [.sl 5 (l.map sgD)] (iD (chkErr sgB Sg.n l)) := by
 have h := ev_checkedS l
 refine ev_of_awp tysOk mixed (fn := Tryz.f27) Tryz.func27 rfl rfl rfl ?_
 conv => whnf
 repeat' (first|((with_reducible refine AltK.l ?_);(conv=>whnf);(first|(refine CallK.mk _ (h) ?_));conv=>whnf)|fail)
 rfl
end Go.Proofs.Tryz
end
