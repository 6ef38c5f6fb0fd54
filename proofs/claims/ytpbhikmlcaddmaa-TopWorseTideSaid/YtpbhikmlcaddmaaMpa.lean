/- Texts VmTbl TwA TwB TwC TwD TwG TwH TwI, joined; what is not needed is left out. -/
import Derived.Test.YtpbhikmlcaddmaaProg
import Derived.Test.YtpbhikmlcaddmaaMgH
section
/- The types of the seat, as the evaluator looks them up (written by tbl.py). -/
namespace Go.Proofs.Try
open Go Go.Vm
def tbl : List (Nat × TI) := [
  (1, ⟨Go.TypeDesc.func { toList := [] } { toList := [] } Bool.false, 1, 8, [.junk]⟩),
  (2, ⟨Go.TypeDesc.int Go.IntKind.i64, 1, 8, [.d (.int .i64 0)]⟩),
  (3, ⟨Go.TypeDesc.int Go.IntKind.i64, 1, 8, [.d (.int .i64 0)]⟩),
  (4, ⟨Go.TypeDesc.bool, 1, 1, [.d (.bool false)]⟩),
  (5, ⟨Go.TypeDesc.int Go.IntKind.u8, 1, 1, [.d (.int .u8 0)]⟩),
  (6, ⟨Go.TypeDesc.int Go.IntKind.u8, 1, 1, [.d (.int .u8 0)]⟩),
  (7, ⟨Go.TypeDesc.struct { toList := [{ name := "x", type := 2, offset := 0, embedded := Bool.false, tag := "", pkgPath := "runtime", byteOffset := 0 }, { name := "y", type := 3, offset := 1, embedded := Bool.false, tag := "", pkgPath := "runtime", byteOffset := 8 }, { name := "signed", type := 4, offset := 2, embedded := Bool.false, tag := "", pkgPath := "runtime", byteOffset := 16 }, { name := "code", type := 6, offset := 3, embedded := Bool.false, tag := "", pkgPath := "runtime", byteOffset := 17 }] }, 4, 24, [.d (.int .i64 0), .d (.int .i64 0), .d (.bool false), .d (.int .u8 0)]⟩),
  (8, ⟨Go.TypeDesc.struct { toList := [{ name := "x", type := 2, offset := 0, embedded := Bool.false, tag := "", pkgPath := "runtime", byteOffset := 0 }, { name := "y", type := 3, offset := 1, embedded := Bool.false, tag := "", pkgPath := "runtime", byteOffset := 8 }, { name := "signed", type := 4, offset := 2, embedded := Bool.false, tag := "", pkgPath := "runtime", byteOffset := 16 }, { name := "code", type := 6, offset := 3, embedded := Bool.false, tag := "", pkgPath := "runtime", byteOffset := 17 }] }, 4, 24, [.d (.int .i64 0), .d (.int .i64 0), .d (.bool false), .d (.int .u8 0)]⟩),
  (9, ⟨Go.TypeDesc.string, 1, 16, [.d (.str ⟨⟨[]⟩⟩)]⟩),
  (10, ⟨Go.TypeDesc.string, 1, 16, [.d (.str ⟨⟨[]⟩⟩)]⟩),
  (11, ⟨Go.TypeDesc.string, 1, 16, [.d (.str ⟨⟨[]⟩⟩)]⟩),
  (12, ⟨Go.TypeDesc.int Go.IntKind.u64, 1, 8, [.d (.int .u64 0)]⟩),
  (15, ⟨Go.TypeDesc.pointer 117, 1, 8, [.junk]⟩),
  (16, ⟨Go.TypeDesc.pointer 120, 1, 8, [.junk]⟩),
  (17, ⟨Go.TypeDesc.pointer 129, 1, 8, [.junk]⟩),
  (21, ⟨Go.TypeDesc.int Go.IntKind.i32, 1, 4, [.d (.int .i32 0)]⟩),
  (22, ⟨Go.TypeDesc.slice 32, 1, 24, [.nil 4]⟩),
  (23, ⟨Go.TypeDesc.slice 54, 1, 24, [.nil 7]⟩),
  (24, ⟨Go.TypeDesc.slice 3, 1, 24, [.nil 1]⟩),
  (25, ⟨Go.TypeDesc.struct { toList := [{ name := "X", type := 3, offset := 0, embedded := Bool.false, tag := "", pkgPath := "", byteOffset := 0 }, { name := "Y", type := 3, offset := 1, embedded := Bool.false, tag := "", pkgPath := "", byteOffset := 8 }, { name := "Side", type := 3, offset := 2, embedded := Bool.false, tag := "", pkgPath := "", byteOffset := 16 }, { name := "Cols", type := 3, offset := 3, embedded := Bool.false, tag := "", pkgPath := "", byteOffset := 24 }, { name := "Rows", type := 3, offset := 4, embedded := Bool.false, tag := "", pkgPath := "", byteOffset := 32 }, { name := "Levels", type := 24, offset := 5, embedded := Bool.false, tag := "", pkgPath := "", byteOffset := 40 }] }, 6, 64, [.d (.int .i64 0), .d (.int .i64 0), .d (.int .i64 0), .d (.int .i64 0), .d (.int .i64 0), .nil 1]⟩),
  (26, ⟨Go.TypeDesc.struct { toList := [{ name := "X", type := 3, offset := 0, embedded := Bool.false, tag := "", pkgPath := "", byteOffset := 0 }, { name := "Y", type := 3, offset := 1, embedded := Bool.false, tag := "", pkgPath := "", byteOffset := 8 }, { name := "Side", type := 3, offset := 2, embedded := Bool.false, tag := "", pkgPath := "", byteOffset := 16 }, { name := "Cols", type := 3, offset := 3, embedded := Bool.false, tag := "", pkgPath := "", byteOffset := 24 }, { name := "Rows", type := 3, offset := 4, embedded := Bool.false, tag := "", pkgPath := "", byteOffset := 32 }, { name := "Levels", type := 24, offset := 5, embedded := Bool.false, tag := "", pkgPath := "", byteOffset := 40 }] }, 6, 64, [.d (.int .i64 0), .d (.int .i64 0), .d (.int .i64 0), .d (.int .i64 0), .d (.int .i64 0), .nil 1]⟩),
  (27, ⟨Go.TypeDesc.struct { toList := [{ name := "Gauges", type := 22, offset := 0, embedded := Bool.false, tag := "", pkgPath := "", byteOffset := 0 }, { name := "Raws", type := 23, offset := 1, embedded := Bool.false, tag := "", pkgPath := "", byteOffset := 24 }, { name := "Frame", type := 26, offset := 2, embedded := Bool.false, tag := "", pkgPath := "", byteOffset := 48 }, { name := "Radius", type := 3, offset := 8, embedded := Bool.false, tag := "", pkgPath := "", byteOffset := 112 }] }, 9, 120, [.nil 4, .nil 7, .d (.int .i64 0), .d (.int .i64 0), .d (.int .i64 0), .d (.int .i64 0), .d (.int .i64 0), .nil 1, .d (.int .i64 0)]⟩),
  (28, ⟨Go.TypeDesc.struct { toList := [{ name := "Gauges", type := 22, offset := 0, embedded := Bool.false, tag := "", pkgPath := "", byteOffset := 0 }, { name := "Raws", type := 23, offset := 1, embedded := Bool.false, tag := "", pkgPath := "", byteOffset := 24 }, { name := "Frame", type := 26, offset := 2, embedded := Bool.false, tag := "", pkgPath := "", byteOffset := 48 }, { name := "Radius", type := 3, offset := 8, embedded := Bool.false, tag := "", pkgPath := "", byteOffset := 112 }] }, 9, 120, [.nil 4, .nil 7, .d (.int .i64 0), .d (.int .i64 0), .d (.int .i64 0), .d (.int .i64 0), .d (.int .i64 0), .nil 1, .d (.int .i64 0)]⟩),
  (29, ⟨Go.TypeDesc.func { toList := [] } { toList := [4] } Bool.false, 1, 8, [.junk]⟩),
  (30, ⟨Go.TypeDesc.slice 50, 1, 24, [.nil 2]⟩),
  (31, ⟨Go.TypeDesc.struct { toList := [{ name := "Name", type := 9, offset := 0, embedded := Bool.false, tag := "", pkgPath := "", byteOffset := 0 }, { name := "X", type := 3, offset := 1, embedded := Bool.false, tag := "", pkgPath := "", byteOffset := 16 }, { name := "Error", type := 3, offset := 2, embedded := Bool.false, tag := "", pkgPath := "", byteOffset := 24 }, { name := "Marks", type := 30, offset := 3, embedded := Bool.false, tag := "", pkgPath := "", byteOffset := 32 }] }, 4, 56, [.d (.str ⟨⟨[]⟩⟩), .d (.int .i64 0), .d (.int .i64 0), .nil 2]⟩),
  (32, ⟨Go.TypeDesc.struct { toList := [{ name := "Name", type := 9, offset := 0, embedded := Bool.false, tag := "", pkgPath := "", byteOffset := 0 }, { name := "X", type := 3, offset := 1, embedded := Bool.false, tag := "", pkgPath := "", byteOffset := 16 }, { name := "Error", type := 3, offset := 2, embedded := Bool.false, tag := "", pkgPath := "", byteOffset := 24 }, { name := "Marks", type := 30, offset := 3, embedded := Bool.false, tag := "", pkgPath := "", byteOffset := 32 }] }, 4, 56, [.d (.str ⟨⟨[]⟩⟩), .d (.int .i64 0), .d (.int .i64 0), .nil 2]⟩),
  (33, ⟨Go.TypeDesc.slice 38, 1, 24, [.nil 5]⟩),
  (34, ⟨Go.TypeDesc.int Go.IntKind.i64, 1, 8, [.d (.int .i64 0)]⟩),
  (36, ⟨Go.TypeDesc.func { toList := [22, 23] } { toList := [33, 24, 34] } Bool.false, 1, 8, [.junk]⟩),
  (37, ⟨Go.TypeDesc.struct { toList := [{ name := "Number", type := 3, offset := 0, embedded := Bool.false, tag := "", pkgPath := "", byteOffset := 0 }, { name := "X", type := 3, offset := 1, embedded := Bool.false, tag := "", pkgPath := "", byteOffset := 8 }, { name := "Y", type := 3, offset := 2, embedded := Bool.false, tag := "", pkgPath := "", byteOffset := 16 }, { name := "Lo", type := 3, offset := 3, embedded := Bool.false, tag := "", pkgPath := "", byteOffset := 24 }, { name := "Hi", type := 3, offset := 4, embedded := Bool.false, tag := "", pkgPath := "", byteOffset := 32 }] }, 5, 40, [.d (.int .i64 0), .d (.int .i64 0), .d (.int .i64 0), .d (.int .i64 0), .d (.int .i64 0)]⟩),
  (38, ⟨Go.TypeDesc.struct { toList := [{ name := "Number", type := 3, offset := 0, embedded := Bool.false, tag := "", pkgPath := "", byteOffset := 0 }, { name := "X", type := 3, offset := 1, embedded := Bool.false, tag := "", pkgPath := "", byteOffset := 8 }, { name := "Y", type := 3, offset := 2, embedded := Bool.false, tag := "", pkgPath := "", byteOffset := 16 }, { name := "Lo", type := 3, offset := 3, embedded := Bool.false, tag := "", pkgPath := "", byteOffset := 24 }, { name := "Hi", type := 3, offset := 4, embedded := Bool.false, tag := "", pkgPath := "", byteOffset := 32 }] }, 5, 40, [.d (.int .i64 0), .d (.int .i64 0), .d (.int .i64 0), .d (.int .i64 0), .d (.int .i64 0)]⟩),
  (40, ⟨Go.TypeDesc.func { toList := [33, 26] } { toList := [26, 34] } Bool.false, 1, 8, [.junk]⟩),
  (41, ⟨Go.TypeDesc.func { toList := [26] } { toList := [34] } Bool.false, 1, 8, [.junk]⟩),
  (42, ⟨Go.TypeDesc.func { toList := [26, 26] } { toList := [26, 34] } Bool.false, 1, 8, [.junk]⟩),
  (43, ⟨Go.TypeDesc.func { toList := [26, 26] } { toList := [4] } Bool.false, 1, 8, [.junk]⟩),
  (44, ⟨Go.TypeDesc.func { toList := [28, 5] } { toList := [4] } Bool.false, 1, 8, [.junk]⟩),
  (45, ⟨Go.TypeDesc.func { toList := [22] } { toList := [3] } Bool.false, 1, 8, [.junk]⟩),
  (46, ⟨Go.TypeDesc.func { toList := [23] } { toList := [3] } Bool.false, 1, 8, [.junk]⟩),
  (47, ⟨Go.TypeDesc.func { toList := [26] } { toList := [3] } Bool.false, 1, 8, [.junk]⟩),
  (48, ⟨Go.TypeDesc.func { toList := [3, 3, 3] } { toList := [4] } Bool.false, 1, 8, [.junk]⟩),
  (49, ⟨Go.TypeDesc.struct { toList := [{ name := "Minute", type := 3, offset := 0, embedded := Bool.false, tag := "", pkgPath := "", byteOffset := 0 }, { name := "Level", type := 3, offset := 1, embedded := Bool.false, tag := "", pkgPath := "", byteOffset := 8 }] }, 2, 16, [.d (.int .i64 0), .d (.int .i64 0)]⟩),
  (50, ⟨Go.TypeDesc.struct { toList := [{ name := "Minute", type := 3, offset := 0, embedded := Bool.false, tag := "", pkgPath := "", byteOffset := 0 }, { name := "Level", type := 3, offset := 1, embedded := Bool.false, tag := "", pkgPath := "", byteOffset := 8 }] }, 2, 16, [.d (.int .i64 0), .d (.int .i64 0)]⟩),
  (52, ⟨Go.TypeDesc.func { toList := [22, 54] } { toList := [38, 34] } Bool.false, 1, 8, [.junk]⟩),
  (53, ⟨Go.TypeDesc.struct { toList := [{ name := "Number", type := 3, offset := 0, embedded := Bool.false, tag := "", pkgPath := "", byteOffset := 0 }, { name := "Minute", type := 3, offset := 1, embedded := Bool.false, tag := "", pkgPath := "", byteOffset := 8 }, { name := "X", type := 3, offset := 2, embedded := Bool.false, tag := "", pkgPath := "", byteOffset := 16 }, { name := "Y", type := 3, offset := 3, embedded := Bool.false, tag := "", pkgPath := "", byteOffset := 24 }, { name := "Depth", type := 3, offset := 4, embedded := Bool.false, tag := "", pkgPath := "", byteOffset := 32 }, { name := "Draught", type := 3, offset := 5, embedded := Bool.false, tag := "", pkgPath := "", byteOffset := 40 }, { name := "Error", type := 3, offset := 6, embedded := Bool.false, tag := "", pkgPath := "", byteOffset := 48 }] }, 7, 56, [.d (.int .i64 0), .d (.int .i64 0), .d (.int .i64 0), .d (.int .i64 0), .d (.int .i64 0), .d (.int .i64 0), .d (.int .i64 0)]⟩),
  (54, ⟨Go.TypeDesc.struct { toList := [{ name := "Number", type := 3, offset := 0, embedded := Bool.false, tag := "", pkgPath := "", byteOffset := 0 }, { name := "Minute", type := 3, offset := 1, embedded := Bool.false, tag := "", pkgPath := "", byteOffset := 8 }, { name := "X", type := 3, offset := 2, embedded := Bool.false, tag := "", pkgPath := "", byteOffset := 16 }, { name := "Y", type := 3, offset := 3, embedded := Bool.false, tag := "", pkgPath := "", byteOffset := 24 }, { name := "Depth", type := 3, offset := 4, embedded := Bool.false, tag := "", pkgPath := "", byteOffset := 32 }, { name := "Draught", type := 3, offset := 5, embedded := Bool.false, tag := "", pkgPath := "", byteOffset := 40 }, { name := "Error", type := 3, offset := 6, embedded := Bool.false, tag := "", pkgPath := "", byteOffset := 48 }] }, 7, 56, [.d (.int .i64 0), .d (.int .i64 0), .d (.int .i64 0), .d (.int .i64 0), .d (.int .i64 0), .d (.int .i64 0), .d (.int .i64 0)]⟩),
  (55, ⟨Go.TypeDesc.func { toList := [23] } { toList := [34] } Bool.false, 1, 8, [.junk]⟩),
  (56, ⟨Go.TypeDesc.func { toList := [22] } { toList := [34] } Bool.false, 1, 8, [.junk]⟩),
  (57, ⟨Go.TypeDesc.struct { toList := [{ name := "Lo", type := 3, offset := 0, embedded := Bool.false, tag := "", pkgPath := "", byteOffset := 0 }, { name := "Hi", type := 3, offset := 1, embedded := Bool.false, tag := "", pkgPath := "", byteOffset := 8 }] }, 2, 16, [.d (.int .i64 0), .d (.int .i64 0)]⟩),
  (58, ⟨Go.TypeDesc.struct { toList := [{ name := "Lo", type := 3, offset := 0, embedded := Bool.false, tag := "", pkgPath := "", byteOffset := 0 }, { name := "Hi", type := 3, offset := 1, embedded := Bool.false, tag := "", pkgPath := "", byteOffset := 8 }] }, 2, 16, [.d (.int .i64 0), .d (.int .i64 0)]⟩),
  (60, ⟨Go.TypeDesc.func { toList := [22, 3, 3] } { toList := [58, 34] } Bool.false, 1, 8, [.junk]⟩),
  (61, ⟨Go.TypeDesc.func { toList := [54, 58] } { toList := [38] } Bool.false, 1, 8, [.junk]⟩),
  (62, ⟨Go.TypeDesc.func { toList := [33, 26, 63] } { toList := [26, 34] } Bool.false, 1, 8, [.junk]⟩),
  (63, ⟨Go.TypeDesc.func { toList := [38] } { toList := [3] } Bool.false, 1, 8, [.junk]⟩),
  (64, ⟨Go.TypeDesc.func { toList := [3, 3, 24] } { toList := [4] } Bool.true, 1, 8, [.junk]⟩),
  (65, ⟨Go.TypeDesc.func { toList := [24, 66] } { toList := [4] } Bool.false, 1, 8, [.junk]⟩),
  (66, ⟨Go.TypeDesc.func { toList := [3] } { toList := [4] } Bool.false, 1, 8, [.junk]⟩),
  (67, ⟨Go.TypeDesc.func { toList := [26, 26] } { toList := [34] } Bool.false, 1, 8, [.junk]⟩),
  (68, ⟨Go.TypeDesc.func { toList := [26, 70] } { toList := [26] } Bool.false, 1, 8, [.junk]⟩),
  (69, ⟨Go.TypeDesc.func { toList := [26, 3] } { toList := [4] } Bool.false, 1, 8, [.junk]⟩),
  (70, ⟨Go.TypeDesc.func { toList := [3] } { toList := [3] } Bool.false, 1, 8, [.junk]⟩),
  (71, ⟨Go.TypeDesc.func { toList := [24, 24] } { toList := [4] } Bool.false, 1, 8, [.junk]⟩),
  (72, ⟨Go.TypeDesc.func { toList := [9] } { toList := [4] } Bool.false, 1, 8, [.junk]⟩),
  (73, ⟨Go.TypeDesc.func { toList := [32] } { toList := [3] } Bool.false, 1, 8, [.junk]⟩),
  (74, ⟨Go.TypeDesc.func { toList := [54] } { toList := [4] } Bool.false, 1, 8, [.junk]⟩),
  (75, ⟨Go.TypeDesc.func { toList := [23, 74, 76] } { toList := [34] } Bool.false, 1, 8, [.junk]⟩),
  (76, ⟨Go.TypeDesc.func { toList := [54] } { toList := [3] } Bool.false, 1, 8, [.junk]⟩),
  (77, ⟨Go.TypeDesc.func { toList := [22, 78] } { toList := [4] } Bool.false, 1, 8, [.junk]⟩),
  (78, ⟨Go.TypeDesc.func { toList := [32] } { toList := [4] } Bool.false, 1, 8, [.junk]⟩),
  (79, ⟨Go.TypeDesc.func { toList := [32] } { toList := [34] } Bool.false, 1, 8, [.junk]⟩),
  (81, ⟨Go.TypeDesc.func { toList := [22, 3, 3] } { toList := [58, 4] } Bool.false, 1, 8, [.junk]⟩),
  (82, ⟨Go.TypeDesc.func { toList := [33] } { toList := [34] } Bool.false, 1, 8, [.junk]⟩),
  (83, ⟨Go.TypeDesc.map 3 3, 1, 8, [.junk]⟩),
  (85, ⟨Go.TypeDesc.func { toList := [26, 38] } { toList := [3, 4] } Bool.false, 1, 8, [.junk]⟩),
  (86, ⟨Go.TypeDesc.func { toList := [24, 3] } { toList := [24] } Bool.false, 1, 8, [.junk]⟩),
  (87, ⟨Go.TypeDesc.func { toList := [24, 66] } { toList := [3] } Bool.false, 1, 8, [.junk]⟩),
  (88, ⟨Go.TypeDesc.slice 26, 1, 24, [.nil 6]⟩),
  (89, ⟨Go.TypeDesc.struct { toList := [{ name := "x", type := 3, offset := 0, embedded := Bool.false, tag := "", pkgPath := "draghead/bed", byteOffset := 0 }, { name := "y", type := 3, offset := 1, embedded := Bool.false, tag := "", pkgPath := "draghead/bed", byteOffset := 8 }, { name := "side", type := 3, offset := 2, embedded := Bool.false, tag := "", pkgPath := "draghead/bed", byteOffset := 16 }, { name := "cols", type := 3, offset := 3, embedded := Bool.false, tag := "", pkgPath := "draghead/bed", byteOffset := 24 }, { name := "rows", type := 3, offset := 4, embedded := Bool.false, tag := "", pkgPath := "draghead/bed", byteOffset := 32 }] }, 5, 40, [.d (.int .i64 0), .d (.int .i64 0), .d (.int .i64 0), .d (.int .i64 0), .d (.int .i64 0)]⟩),
  (90, ⟨Go.TypeDesc.struct { toList := [{ name := "x", type := 3, offset := 0, embedded := Bool.false, tag := "", pkgPath := "draghead/bed", byteOffset := 0 }, { name := "y", type := 3, offset := 1, embedded := Bool.false, tag := "", pkgPath := "draghead/bed", byteOffset := 8 }, { name := "side", type := 3, offset := 2, embedded := Bool.false, tag := "", pkgPath := "draghead/bed", byteOffset := 16 }, { name := "cols", type := 3, offset := 3, embedded := Bool.false, tag := "", pkgPath := "draghead/bed", byteOffset := 24 }, { name := "rows", type := 3, offset := 4, embedded := Bool.false, tag := "", pkgPath := "draghead/bed", byteOffset := 32 }] }, 5, 40, [.d (.int .i64 0), .d (.int .i64 0), .d (.int .i64 0), .d (.int .i64 0), .d (.int .i64 0)]⟩),
  (91, ⟨Go.TypeDesc.func { toList := [26] } { toList := [90] } Bool.false, 1, 8, [.junk]⟩),
  (92, ⟨Go.TypeDesc.func { toList := [50] } { toList := [3] } Bool.false, 1, 8, [.junk]⟩),
  (93, ⟨Go.TypeDesc.map 3 4, 1, 8, [.junk]⟩),
  (94, ⟨Go.TypeDesc.func { toList := [22, 78] } { toList := [3] } Bool.false, 1, 8, [.junk]⟩),
  (95, ⟨Go.TypeDesc.func { toList := [50] } { toList := [4] } Bool.false, 1, 8, [.junk]⟩),
  (96, ⟨Go.TypeDesc.func { toList := [22, 3, 97] } { toList := [3, 4] } Bool.false, 1, 8, [.junk]⟩),
  (97, ⟨Go.TypeDesc.func { toList := [32, 3] } { toList := [3] } Bool.false, 1, 8, [.junk]⟩),
  (98, ⟨Go.TypeDesc.func { toList := [32, 3] } { toList := [58, 4] } Bool.false, 1, 8, [.junk]⟩),
  (99, ⟨Go.TypeDesc.func { toList := [3, 3] } { toList := [3] } Bool.false, 1, 8, [.junk]⟩),
  (100, ⟨Go.TypeDesc.func { toList := [33, 101, 63] } { toList := [34] } Bool.false, 1, 8, [.junk]⟩),
  (101, ⟨Go.TypeDesc.func { toList := [38] } { toList := [4] } Bool.false, 1, 8, [.junk]⟩),
  (102, ⟨Go.TypeDesc.int Go.IntKind.u64, 1, 8, [.d (.int .u64 0)]⟩),
  (104, ⟨Go.TypeDesc.func { toList := [102, 102] } { toList := [102, 102] } Bool.false, 1, 8, [.junk]⟩),
  (106, ⟨Go.TypeDesc.func { toList := [32, 3] } { toList := [3, 3, 4] } Bool.false, 1, 8, [.junk]⟩),
  (107, ⟨Go.TypeDesc.int Go.IntKind.u32, 1, 4, [.d (.int .u32 0)]⟩),
  (109, ⟨Go.TypeDesc.func { toList := [107, 107] } { toList := [107, 107] } Bool.false, 1, 8, [.junk]⟩),
  (110, ⟨Go.TypeDesc.int Go.IntKind.u64, 1, 8, [.d (.int .u64 0)]⟩),
  (112, ⟨Go.TypeDesc.func { toList := [110, 110] } { toList := [110, 110] } Bool.false, 1, 8, [.junk]⟩),
  (113, ⟨Go.TypeDesc.func { toList := [30, 3, 114] } { toList := [3, 4] } Bool.false, 1, 8, [.junk]⟩),
  (114, ⟨Go.TypeDesc.func { toList := [50, 3] } { toList := [3] } Bool.false, 1, 8, [.junk]⟩),
  (115, ⟨Go.TypeDesc.func { toList := [] } { toList := [9] } Bool.false, 1, 8, [.junk]⟩),
  (118, ⟨Go.TypeDesc.array 0 16, 0, 0, []⟩),
  (121, ⟨Go.TypeDesc.func { toList := [] } { toList := [3] } Bool.false, 1, 8, [.junk]⟩),
  (122, ⟨Go.TypeDesc.int Go.IntKind.u8, 1, 1, [.d (.int .u8 0)]⟩),
  (123, ⟨Go.TypeDesc.int Go.IntKind.u8, 1, 1, [.d (.int .u8 0)]⟩),
  (124, ⟨Go.TypeDesc.func { toList := [130, 130] } { toList := [4] } Bool.false, 1, 8, [.junk]⟩),
  (125, ⟨Go.TypeDesc.pointer 5, 1, 8, [.junk]⟩),
  (126, ⟨Go.TypeDesc.int Go.IntKind.i32, 1, 4, [.d (.int .i32 0)]⟩),
  (127, ⟨Go.TypeDesc.int Go.IntKind.i32, 1, 4, [.d (.int .i32 0)]⟩)]
def S : Tys := lk tbl
theorem tysOk : TysOk Try.prog S := tysOk_of tbl (by kernel_rfl) (by kernel_rfl) (by kernel_rfl)
theorem mixed : Try.prog.follows .mixedOrders = true := by kernel_rfl
end Go.Proofs.Try
end

section
namespace Go.Proofs.Try
open Go Go.Vm
def outsideB (n lo hi : Int) : Bool := decide (n < lo) || decide (n > hi)
theorem ev_outside (n lo hi : Int) : Ev Try.prog 41 [.int .i64 n, .int .i64 lo, .int .i64 hi] (.bool (outsideB n lo hi)) := by
  refine ev_of_awp tysOk mixed (fn := Try.f41) Try.func41 rfl rfl rfl ?_
  conv => whnf
  repeat' (first
    | ((with_reducible refine Split.of_true ?_); conv => whnf)
    | ((with_reducible refine Split.of_false ?_); conv => whnf)
    | ((with_reducible refine Split.neg ?_))
    | ((with_reducible refine Split.is_true ?_ ?_); decide; conv => whnf)
    | ((with_reducible refine Split.is_false ?_ ?_); decide; conv => whnf)
    | ((with_reducible refine Split.nez (fun _ => ?_) (fun _ => ?_)) <;> conv => whnf)
    | ((with_reducible refine Split.eqz (fun _ => ?_) (fun _ => ?_)) <;> conv => whnf)
    | ((with_reducible refine Split.and ?_))
    | ((with_reducible refine Split.or ?_))
    | ((with_reducible refine Split.streq (fun _ => ?_) (fun _ => ?_)) <;> conv => whnf)
    | ((with_reducible refine Split.dec (fun _ => ?_) (fun _ => ?_)) <;> conv => whnf)
    | ((with_reducible refine Split.mk (fun _ => ?_) (fun _ => ?_)) <;> conv => whnf)
    | ((with_reducible refine NilK.mk (fun _ => ?_) ?_) <;> conv => whnf)
    | ((with_reducible refine AltK.l ?_); (conv => whnf); (with_reducible refine Need.mk ?_ ?_); (first | omega | (refine ⟨?_, ?_⟩ <;> simp <;> omega) | (simp; omega)); conv => whnf)
    | ((with_reducible refine Need.mk ?_ ?_); (first | omega | rfl | decide | (refine ⟨?_, ?_⟩ <;> simp <;> omega) | (simp; omega)); conv => whnf)
    | ((with_reducible refine Wr.quo ?_ ?_ ?_ ?_); omega; omega; omega; conv => whnf)
    | ((with_reducible refine Wr.inr ?_ ?_); (first | omega | (simp; omega)); conv => whnf)
    | ((with_reducible refine Wr.inu ?_ ?_); omega; conv => whnf)
    | (exfalso; first | omega | contradiction))
  all_goals (simp_all [outsideB, retOf] <;> omega)
def wrongB (m l : Int) : Bool := outsideB m 0 1000000 || outsideB l (-20000) 20000
theorem ev_wrongMark (m l : Int) : Ev Try.prog 54 [.agg [.int .i64 m, .int .i64 l]] (.bool (wrongB m l)) := by
  refine ev_of_awp tysOk mixed (fn := Try.f54) Try.func54 rfl rfl rfl ?_
  conv => whnf
  repeat' (first
    | ((with_reducible refine Split.of_true ?_); conv => whnf)
    | ((with_reducible refine Split.of_false ?_); conv => whnf)
    | ((with_reducible refine Split.neg ?_))
    | ((with_reducible refine Split.is_true ?_ ?_); decide; conv => whnf)
    | ((with_reducible refine Split.is_false ?_ ?_); decide; conv => whnf)
    | ((with_reducible refine Split.nez (fun _ => ?_) (fun _ => ?_)) <;> conv => whnf)
    | ((with_reducible refine Split.eqz (fun _ => ?_) (fun _ => ?_)) <;> conv => whnf)
    | ((with_reducible refine Split.and ?_))
    | ((with_reducible refine Split.or ?_))
    | ((with_reducible refine Split.streq (fun _ => ?_) (fun _ => ?_)) <;> conv => whnf)
    | ((with_reducible refine Split.dec (fun _ => ?_) (fun _ => ?_)) <;> conv => whnf)
    | ((with_reducible refine Split.mk (fun _ => ?_) (fun _ => ?_)) <;> conv => whnf)
    | ((with_reducible refine NilK.mk (fun _ => ?_) ?_) <;> conv => whnf)
    | ((with_reducible refine AltK.l ?_); (conv => whnf); (with_reducible refine Need.mk ?_ ?_); (first | omega | (refine ⟨?_, ?_⟩ <;> simp <;> omega) | (simp; omega)); conv => whnf)
    | ((with_reducible refine Need.mk ?_ ?_); (first | omega | rfl | decide | (refine ⟨?_, ?_⟩ <;> simp <;> omega) | (simp; omega)); conv => whnf)
    | ((with_reducible refine Wr.quo ?_ ?_ ?_ ?_); omega; omega; omega; conv => whnf)
    | ((with_reducible refine Wr.inr ?_ ?_); (first | omega | (simp; omega)); conv => whnf)
    | ((with_reducible refine Wr.inu ?_ ?_); omega; conv => whnf)
    | ((with_reducible refine AltK.l ?_); (conv => whnf); (first | (refine CallK.mk _ (ev_outside _ _ _) ?_)); conv => whnf)
    | (exfalso; first | omega | contradiction))
  all_goals simp_all [wrongB, retOf]
structure Mk where
  m : Int
  l : Int
def mD (m : Mk) : D := .agg [.int .i64 m.m, .int .i64 m.l]
structure Ga where
  name : ByteArray
  x : Int
  err : Int
  marks : List Mk
def gD (g : Ga) : D := .agg [.str g.name, .int .i64 g.x, .int .i64 g.err, .sl 2 (g.marks.map mD)]
def markErr : Option Mk → List Mk → Int
  | _, [] => 0
  | p, m :: r => if wrongB m.m m.l then 2 else match p with
    | some q => if m.m ≤ q.m then 9 else markErr (some m) r
    | none => markErr (some m) r
def recErr (g : Ga) : Int := if outsideB g.x (-1000000) 1000000 || outsideB g.err 0 1000 then 2 else if 400 < g.marks.length then 8 else markErr none g.marks
theorem ev_record (g : Ga) : Ev Try.prog 40 [gD g] (.int .i64 (recErr g)) := by
  refine ev_of_awp tysOk mixed (fn := Try.f40) Try.func40 rfl rfl rfl ?_
  have hl : (g.marks.map mD).length = g.marks.length := List.length_map _
  conv => whnf
  repeat' (first
    | ((with_reducible refine Split.of_true ?_); conv => whnf)
    | ((with_reducible refine Split.of_false ?_); conv => whnf)
    | ((with_reducible refine Split.neg ?_))
    | ((with_reducible refine Split.is_true ?_ ?_); decide; conv => whnf)
    | ((with_reducible refine Split.is_false ?_ ?_); decide; conv => whnf)
    | ((with_reducible refine Split.nez (fun _ => ?_) (fun _ => ?_)) <;> conv => whnf)
    | ((with_reducible refine Split.eqz (fun _ => ?_) (fun _ => ?_)) <;> conv => whnf)
    | ((with_reducible refine Split.and ?_))
    | ((with_reducible refine Split.or ?_))
    | ((with_reducible refine Split.streq (fun _ => ?_) (fun _ => ?_)) <;> conv => whnf)
    | ((with_reducible refine Split.dec (fun _ => ?_) (fun _ => ?_)) <;> conv => whnf)
    | ((with_reducible refine Split.mk (fun _ => ?_) (fun _ => ?_)) <;> conv => whnf)
    | ((with_reducible refine NilK.mk (fun _ => ?_) ?_) <;> conv => whnf)
    | ((with_reducible refine AltK.l ?_); (conv => whnf); (with_reducible refine Need.mk ?_ ?_); (first | omega | (refine ⟨?_, ?_⟩ <;> simp <;> omega) | (simp; omega)); conv => whnf)
    | ((with_reducible refine Need.mk ?_ ?_); (first | omega | rfl | decide | (refine ⟨?_, ?_⟩ <;> simp <;> omega) | (simp; omega)); conv => whnf)
    | ((with_reducible refine Wr.quo ?_ ?_ ?_ ?_); omega; omega; omega; conv => whnf)
    | ((with_reducible refine Wr.inr ?_ ?_); (first | omega | (simp; omega)); conv => whnf)
    | ((with_reducible refine Wr.inu ?_ ?_); omega; conv => whnf)
    | ((with_reducible refine AltK.l ?_); (conv => whnf); (first | (refine CallK.mk _ (ev_outside _ _ _) ?_)); conv => whnf)
    | (exfalso; first | omega | contradiction))
  · simp_all [retOf, recErr]
  · simp_all [retOf, recErr]
  · simp_all [retOf, recErr] <;> omega
  refine LoopK.mk (fun i => i ≤ g.marks.length ∧ recErr g = markErr (if i = 0 then none else g.marks[i-1]?) (g.marks.drop i))
    (fun i => ⟨[(1, .ptr 1 0), (2, .d (.int .i64 0)), (18, .d (.sl 2 (g.marks.map mD))), (19, .d (.int .i64 (g.marks.map mD).length)), (20, .d (.int .i64 i))],
      [(1, .var [.d (.str g.name), .d (.int .i64 g.x), .d (.int .i64 g.err), .d (.sl 2 (g.marks.map mD))] false)]⟩)
    (fun i => g.marks.length - i) 0 [] ⟨by omega, by simp_all [recErr] <;> omega⟩ (by refine ⟨?_, ?_, rfl⟩ <;> (repeat' (first | exact True.intro | exact rfl | refine ⟨?_, ?_⟩ | (intro h; cases h; done) | (intro h; exact h) | exact map_snoc | (refine own_congr ?_; simp; done) | (refine int_congr ?_; (first | omega | (simp; omega))) | (simp; done)))) ?_
  rintro i ⟨hi, hs⟩
  have hp : i = 0 ∨ ∃ q, g.marks[i-1]? = some q := by
    rcases Nat.eq_zero_or_pos i with h | h
    · exact .inl h
    · exact .inr (some_of_lt (by omega))
  have hn : (i : Int) < g.marks.length → ∃ m, g.marks[i]? = some m := fun h => some_of_lt (by omega)
  conv => whnf
  repeat' (first
    | ((with_reducible refine Split.of_true ?_); conv => whnf)
    | ((with_reducible refine Split.of_false ?_); conv => whnf)
    | ((with_reducible refine Split.neg ?_))
    | ((with_reducible refine Split.is_true ?_ ?_); decide; conv => whnf)
    | ((with_reducible refine Split.is_false ?_ ?_); decide; conv => whnf)
    | ((with_reducible refine Split.nez (fun _ => ?_) (fun _ => ?_)) <;> conv => whnf)
    | ((with_reducible refine Split.eqz (fun _ => ?_) (fun _ => ?_)) <;> conv => whnf)
    | ((with_reducible refine Split.and ?_))
    | ((with_reducible refine Split.or ?_))
    | ((with_reducible refine Split.streq (fun _ => ?_) (fun _ => ?_)) <;> conv => whnf)
    | ((with_reducible refine Split.dec (fun _ => ?_) (fun _ => ?_)) <;> conv => whnf)
    | ((with_reducible refine Split.mk (fun _ => ?_) (fun _ => ?_)) <;> conv => whnf)
    | ((with_reducible refine NilK.mk (fun _ => ?_) ?_) <;> conv => whnf)
    | ((with_reducible refine AltK.l ?_); (conv => whnf); (with_reducible refine Need.mk ?_ ?_); (first | omega | (refine ⟨?_, ?_⟩ <;> simp <;> omega) | (simp; omega)); conv => whnf)
    | ((with_reducible refine Need.mk ?_ ?_); (first | omega | rfl | decide | (refine ⟨?_, ?_⟩ <;> simp <;> omega) | (simp; omega)); conv => whnf)
    | ((with_reducible refine Wr.quo ?_ ?_ ?_ ?_); omega; omega; omega; conv => whnf)
    | ((with_reducible refine Wr.inr ?_ ?_); (first | omega | (simp; omega)); conv => whnf)
    | ((with_reducible refine Wr.inu ?_ ?_); omega; conv => whnf)
    | ((with_reducible refine AltK.l ?_); (conv => whnf); (first | (refine CallK.mk _ (ev_outside _ _ _) ?_)); conv => whnf)
    | (exfalso; first | omega | contradiction))
  · obtain ⟨m, hm⟩ := hn (by omega)
    refine PickE.map i hm (by omega) ?_
    rw [drop_of hm] at hs
    conv => whnf
    repeat' (first
      | ((with_reducible refine Split.of_true ?_); conv => whnf)
      | ((with_reducible refine Split.of_false ?_); conv => whnf)
      | ((with_reducible refine Split.neg ?_))
      | ((with_reducible refine Split.is_true ?_ ?_); decide; conv => whnf)
      | ((with_reducible refine Split.is_false ?_ ?_); decide; conv => whnf)
      | ((with_reducible refine Split.nez (fun _ => ?_) (fun _ => ?_)) <;> conv => whnf)
      | ((with_reducible refine Split.eqz (fun _ => ?_) (fun _ => ?_)) <;> conv => whnf)
      | ((with_reducible refine Split.and ?_))
      | ((with_reducible refine Split.or ?_))
      | ((with_reducible refine Split.streq (fun _ => ?_) (fun _ => ?_)) <;> conv => whnf)
      | ((with_reducible refine Split.dec (fun _ => ?_) (fun _ => ?_)) <;> conv => whnf)
      | ((with_reducible refine Split.mk (fun _ => ?_) (fun _ => ?_)) <;> conv => whnf)
      | ((with_reducible refine NilK.mk (fun _ => ?_) ?_) <;> conv => whnf)
      | ((with_reducible refine AltK.l ?_); (conv => whnf); (with_reducible refine Need.mk ?_ ?_); (first | omega | (refine ⟨?_, ?_⟩ <;> simp <;> omega) | (simp; omega)); conv => whnf)
      | ((with_reducible refine Need.mk ?_ ?_); (first | omega | rfl | decide | (refine ⟨?_, ?_⟩ <;> simp <;> omega) | (simp; omega)); conv => whnf)
      | ((with_reducible refine Wr.quo ?_ ?_ ?_ ?_); omega; omega; omega; conv => whnf)
      | ((with_reducible refine Wr.inr ?_ ?_); (first | omega | (simp; omega)); conv => whnf)
      | ((with_reducible refine Wr.inu ?_ ?_); omega; conv => whnf)
      | ((with_reducible refine AltK.l ?_); (conv => whnf); (first | (refine CallK.mk _ (ev_wrongMark _ _) ?_)); conv => whnf)
      | (exfalso; first | omega | contradiction))
    · simp_all [retOf, markErr]
    · obtain ⟨q, hq⟩ := hp.resolve_left (by omega)
      have hi0 : i ≠ 0 := by omega
      refine PickE.map (i-1) hq (by omega) ?_
      conv => whnf
      repeat' (first
        | ((with_reducible refine Split.of_true ?_); conv => whnf)
        | ((with_reducible refine Split.of_false ?_); conv => whnf)
        | ((with_reducible refine Split.neg ?_))
        | ((with_reducible refine Split.is_true ?_ ?_); decide; conv => whnf)
        | ((with_reducible refine Split.is_false ?_ ?_); decide; conv => whnf)
        | ((with_reducible refine Split.nez (fun _ => ?_) (fun _ => ?_)) <;> conv => whnf)
        | ((with_reducible refine Split.eqz (fun _ => ?_) (fun _ => ?_)) <;> conv => whnf)
        | ((with_reducible refine Split.and ?_))
        | ((with_reducible refine Split.or ?_))
        | ((with_reducible refine Split.streq (fun _ => ?_) (fun _ => ?_)) <;> conv => whnf)
        | ((with_reducible refine Split.dec (fun _ => ?_) (fun _ => ?_)) <;> conv => whnf)
        | ((with_reducible refine Split.mk (fun _ => ?_) (fun _ => ?_)) <;> conv => whnf)
        | ((with_reducible refine NilK.mk (fun _ => ?_) ?_) <;> conv => whnf)
        | ((with_reducible refine AltK.l ?_); (conv => whnf); (with_reducible refine Need.mk ?_ ?_); (first | omega | (refine ⟨?_, ?_⟩ <;> simp <;> omega) | (simp; omega)); conv => whnf)
        | ((with_reducible refine Need.mk ?_ ?_); (first | omega | rfl | decide | (refine ⟨?_, ?_⟩ <;> simp <;> omega) | (simp; omega)); conv => whnf)
        | ((with_reducible refine Wr.quo ?_ ?_ ?_ ?_); omega; omega; omega; conv => whnf)
        | ((with_reducible refine Wr.inr ?_ ?_); (first | omega | (simp; omega)); conv => whnf)
        | ((with_reducible refine Wr.inu ?_ ?_); omega; conv => whnf)
        | (exfalso; first | omega | contradiction))
      · simp_all [retOf, markErr]
      · refine Again.mk (i+1) [] ⟨by omega, ?_⟩ (by omega) (by refine ⟨?_, ?_, rfl⟩ <;> (repeat' (first | exact True.intro | exact rfl | refine ⟨?_, ?_⟩ | (intro h; cases h; done) | (intro h; exact h) | exact map_snoc | (refine own_congr ?_; simp; done) | (refine int_congr ?_; (first | omega | (simp; omega))) | (simp; done))))
        simp_all [markErr]
    · have hi0 : i = 0 := by omega
      refine Again.mk (i+1) [] ⟨by omega, ?_⟩ (by omega) (by refine ⟨?_, ?_, rfl⟩ <;> (repeat' (first | exact True.intro | exact rfl | refine ⟨?_, ?_⟩ | (intro h; cases h; done) | (intro h; exact h) | exact map_snoc | (refine own_congr ?_; simp; done) | (refine int_congr ?_; (first | omega | (simp; omega))) | (simp; done))))
      simp_all [markErr]
  · have : g.marks.drop i = [] := List.drop_eq_nil_of_le (by omega)
    simp_all [retOf, markErr]
end Go.Proofs.Try
end

section
namespace Go.Proofs.Try
open Go Go.Vm
set_option maxRecDepth 20000
set_option maxHeartbeats 2000000
theorem ba_nil {s : ByteArray} (h : s.size = 0) : s = ⟨#[]⟩ := by
  cases s with
  | mk a => rw [show a = #[] from Array.eq_empty_of_size_eq_zero h]
theorem tdiv_bd {a b M : Int} (h : -M ≤ a ∧ a ≤ M) : -M ≤ a.tdiv b ∧ a.tdiv b ≤ M := by
  have h1 : (a.tdiv b).natAbs ≤ a.natAbs := by rw [Int.natAbs_tdiv]; exact Nat.div_le_self _ _
  omega
theorem down_law (a b : Int) (hb : 0 < b) : (if a.tmod b < 0 then a.tdiv b - 1 else a.tdiv b) = a / b := by
  rcases Int.le_total 0 a with h | h
  · rw [if_neg (by have := Int.tmod_nonneg b h; omega), Int.tdiv_eq_ediv_of_nonneg h]
  · obtain ⟨n, rfl⟩ : ∃ n, a = -n := ⟨-a, by omega⟩
    have hn : 0 ≤ n := by omega
    rw [Int.neg_tmod, Int.neg_tdiv, Int.tdiv_eq_ediv_of_nonneg hn, Int.tmod_eq_emod_of_nonneg hn]
    have e := Int.emod_add_mul_ediv n b
    have h1 := Int.emod_nonneg n (Int.ne_of_gt hb)
    have h2 := Int.emod_lt_of_pos n hb
    split
    · refine ((Int.ediv_emod_unique hb (r := b - n % b)).2 ⟨?_, by omega, by omega⟩).1.symm
      rw [Int.mul_sub, Int.mul_neg]; omega
    · refine ((Int.ediv_emod_unique hb (r := 0)).2 ⟨?_, by omega, by omega⟩).1.symm
      rw [Int.mul_neg]; omega
theorem ev_down (a b : Int) (hb : 0 < b) (ha : -4000000000000000000 ≤ a ∧ a ≤ 4000000000000000000) : Ev Try.prog 58 [.int .i64 a, .int .i64 b] (.int .i64 (a / b)) := by
  rw [← down_law a b hb]
  have hq := tdiv_bd (b := b) ha
  refine ev_of_awp tysOk mixed (fn := Try.f58) Try.func58 rfl rfl rfl ?_
  conv => whnf
  repeat' (first
    | ((with_reducible refine Split.of_true ?_); conv => whnf)
    | ((with_reducible refine Split.of_false ?_); conv => whnf)
    | ((with_reducible refine Split.neg ?_))
    | ((with_reducible refine Split.is_true ?_ ?_); decide; conv => whnf)
    | ((with_reducible refine Split.is_false ?_ ?_); decide; conv => whnf)
    | ((with_reducible refine Split.nez (fun _ => ?_) (fun _ => ?_)) <;> conv => whnf)
    | ((with_reducible refine Split.eqz (fun _ => ?_) (fun _ => ?_)) <;> conv => whnf)
    | ((with_reducible refine Split.and ?_))
    | ((with_reducible refine Split.or ?_))
    | ((with_reducible refine Split.streq (fun _ => ?_) (fun _ => ?_)) <;> conv => whnf)
    | ((with_reducible refine Split.dec (fun _ => ?_) (fun _ => ?_)) <;> conv => whnf)
    | ((with_reducible refine Split.mk (fun _ => ?_) (fun _ => ?_)) <;> conv => whnf)
    | ((with_reducible refine NilK.mk (fun _ => ?_) ?_) <;> conv => whnf)
    | ((with_reducible refine AltK.l ?_); (conv => whnf); (with_reducible refine Need.mk ?_ ?_); (first | omega | (refine ⟨?_, ?_⟩ <;> simp <;> omega) | (simp; omega)); conv => whnf)
    | ((with_reducible refine Need.mk ?_ ?_); (first | omega | rfl | decide | (refine ⟨?_, ?_⟩ <;> simp <;> omega) | (simp; omega)); conv => whnf)
    | ((with_reducible refine Wr.quo ?_ ?_ ?_ ?_); omega; omega; omega; conv => whnf)
    | ((with_reducible refine Wr.inr ?_ ?_); (first | omega | (simp; omega)); conv => whnf)
    | ((with_reducible refine Wr.inu ?_ ?_); omega; conv => whnf)
    | (exfalso; first | omega | contradiction))
  all_goals (simp_all [retOf] <;> omega)
def upZ (a b : Int) : Int := -(-a / b)
theorem ediv_bd {a b M : Int} (hb : 0 < b) (h : -M ≤ a ∧ a ≤ M) : -M ≤ a / b ∧ a / b ≤ M := by
  have h1 := Int.emod_add_mul_ediv a b
  have h2 := Int.emod_nonneg a (Int.ne_of_gt hb)
  have h3 := Int.emod_lt_of_pos a hb
  constructor
  · refine (Int.le_ediv_iff_mul_le hb).2 ?_
    have : -M * b ≤ -M * 1 := Int.mul_le_mul_of_nonpos_left (by omega) (by omega)
    omega
  · refine Int.ediv_le_of_le_mul hb ?_
    have : M * 1 ≤ M * b := Int.mul_le_mul_of_nonneg_left (by omega) (by omega)
    omega
theorem ev_up (a b : Int) (hb : 0 < b) (ha : -4000000000000000000 ≤ a ∧ a ≤ 4000000000000000000) : Ev Try.prog 59 [.int .i64 a, .int .i64 b] (.int .i64 (upZ a b)) := by
  have hq := ediv_bd (a := 0 - a) (M := 4000000000000000000) hb (by omega)
  have hd := ev_down (0 - a) b hb (by omega)
  have e : upZ a b = 0 - (0 - a) / b := by unfold upZ; rw [show 0 - a = -a by omega]; omega
  rw [e]
  generalize (0 - a) / b = q at hq hd
  refine ev_of_awp tysOk mixed (fn := Try.f59) Try.func59 rfl rfl rfl ?_
  conv => whnf
  repeat' (first
    | ((with_reducible refine Split.of_true ?_); conv => whnf)
    | ((with_reducible refine Split.of_false ?_); conv => whnf)
    | ((with_reducible refine Split.neg ?_))
    | ((with_reducible refine Split.is_true ?_ ?_); decide; conv => whnf)
    | ((with_reducible refine Split.is_false ?_ ?_); decide; conv => whnf)
    | ((with_reducible refine Split.nez (fun _ => ?_) (fun _ => ?_)) <;> conv => whnf)
    | ((with_reducible refine Split.eqz (fun _ => ?_) (fun _ => ?_)) <;> conv => whnf)
    | ((with_reducible refine Split.and ?_))
    | ((with_reducible refine Split.or ?_))
    | ((with_reducible refine Split.streq (fun _ => ?_) (fun _ => ?_)) <;> conv => whnf)
    | ((with_reducible refine Split.dec (fun _ => ?_) (fun _ => ?_)) <;> conv => whnf)
    | ((with_reducible refine Split.mk (fun _ => ?_) (fun _ => ?_)) <;> conv => whnf)
    | ((with_reducible refine NilK.mk (fun _ => ?_) ?_) <;> conv => whnf)
    | ((with_reducible refine AltK.l ?_); (conv => whnf); (with_reducible refine Need.mk ?_ ?_); (first | omega | (refine ⟨?_, ?_⟩ <;> simp <;> omega) | (simp; omega)); conv => whnf)
    | ((with_reducible refine Need.mk ?_ ?_); (first | omega | rfl | decide | (refine ⟨?_, ?_⟩ <;> simp <;> omega) | (simp; omega)); conv => whnf)
    | ((with_reducible refine Wr.quo ?_ ?_ ?_ ?_); omega; omega; omega; conv => whnf)
    | ((with_reducible refine Wr.inr ?_ ?_); (first | omega | (simp; omega)); conv => whnf)
    | ((with_reducible refine Wr.inu ?_ ?_); omega; conv => whnf)
    | ((with_reducible refine AltK.l ?_); (conv => whnf); (first | (refine CallK.mk _ (hd) ?_)); conv => whnf)
    | (exfalso; first | omega | contradiction))
  rfl
theorem ev_inside (n lo hi : Int) : Ev Try.prog 51 [.int .i64 n, .int .i64 lo, .int .i64 hi] (.bool (!outsideB n lo hi)) := by
  refine ev_of_awp tysOk mixed (fn := Try.f51) Try.func51 rfl rfl rfl ?_
  conv => whnf
  repeat' (first
    | ((with_reducible refine Split.of_true ?_); conv => whnf)
    | ((with_reducible refine Split.of_false ?_); conv => whnf)
    | ((with_reducible refine Split.neg ?_))
    | ((with_reducible refine Split.is_true ?_ ?_); decide; conv => whnf)
    | ((with_reducible refine Split.is_false ?_ ?_); decide; conv => whnf)
    | ((with_reducible refine Split.nez (fun _ => ?_) (fun _ => ?_)) <;> conv => whnf)
    | ((with_reducible refine Split.eqz (fun _ => ?_) (fun _ => ?_)) <;> conv => whnf)
    | ((with_reducible refine Split.and ?_))
    | ((with_reducible refine Split.or ?_))
    | ((with_reducible refine Split.streq (fun _ => ?_) (fun _ => ?_)) <;> conv => whnf)
    | ((with_reducible refine Split.dec (fun _ => ?_) (fun _ => ?_)) <;> conv => whnf)
    | ((with_reducible refine Split.mk (fun _ => ?_) (fun _ => ?_)) <;> conv => whnf)
    | ((with_reducible refine NilK.mk (fun _ => ?_) ?_) <;> conv => whnf)
    | ((with_reducible refine AltK.l ?_); (conv => whnf); (with_reducible refine Need.mk ?_ ?_); (first | omega | (refine ⟨?_, ?_⟩ <;> simp <;> omega) | (simp; omega)); conv => whnf)
    | ((with_reducible refine Need.mk ?_ ?_); (first | omega | rfl | decide | (refine ⟨?_, ?_⟩ <;> simp <;> omega) | (simp; omega)); conv => whnf)
    | ((with_reducible refine Wr.quo ?_ ?_ ?_ ?_); omega; omega; omega; conv => whnf)
    | ((with_reducible refine Wr.inr ?_ ?_); (first | omega | (simp; omega)); conv => whnf)
    | ((with_reducible refine Wr.inu ?_ ?_); omega; conv => whnf)
    | (exfalso; first | omega | contradiction))
  · simp only [retOf, outsideB]
    congr 1
    rw [Bool.eq_iff_iff]
    simp
    omega
  · simp only [retOf, outsideB]
    congr 1
    rw [Bool.eq_iff_iff]
    simp
    omega
theorem ev_checkMark (m l : Int) : Ev Try.prog 52 [.agg [.int .i64 m, .int .i64 l]] (.int .i64 (if wrongB m l then 2 else 0)) := by
  refine ev_of_awp tysOk mixed (fn := Try.f52) Try.func52 rfl rfl rfl ?_
  conv => whnf
  repeat' (first
    | ((with_reducible refine Split.of_true ?_); conv => whnf)
    | ((with_reducible refine Split.of_false ?_); conv => whnf)
    | ((with_reducible refine Split.neg ?_))
    | ((with_reducible refine Split.is_true ?_ ?_); decide; conv => whnf)
    | ((with_reducible refine Split.is_false ?_ ?_); decide; conv => whnf)
    | ((with_reducible refine Split.nez (fun _ => ?_) (fun _ => ?_)) <;> conv => whnf)
    | ((with_reducible refine Split.eqz (fun _ => ?_) (fun _ => ?_)) <;> conv => whnf)
    | ((with_reducible refine Split.and ?_))
    | ((with_reducible refine Split.or ?_))
    | ((with_reducible refine Split.streq (fun _ => ?_) (fun _ => ?_)) <;> conv => whnf)
    | ((with_reducible refine Split.dec (fun _ => ?_) (fun _ => ?_)) <;> conv => whnf)
    | ((with_reducible refine Split.mk (fun _ => ?_) (fun _ => ?_)) <;> conv => whnf)
    | ((with_reducible refine NilK.mk (fun _ => ?_) ?_) <;> conv => whnf)
    | ((with_reducible refine AltK.l ?_); (conv => whnf); (with_reducible refine Need.mk ?_ ?_); (first | omega | (refine ⟨?_, ?_⟩ <;> simp <;> omega) | (simp; omega)); conv => whnf)
    | ((with_reducible refine Need.mk ?_ ?_); (first | omega | rfl | decide | (refine ⟨?_, ?_⟩ <;> simp <;> omega) | (simp; omega)); conv => whnf)
    | ((with_reducible refine Wr.quo ?_ ?_ ?_ ?_); omega; omega; omega; conv => whnf)
    | ((with_reducible refine Wr.inr ?_ ?_); (first | omega | (simp; omega)); conv => whnf)
    | ((with_reducible refine Wr.inu ?_ ?_); omega; conv => whnf)
    | ((with_reducible refine AltK.l ?_); (conv => whnf); (first | (refine CallK.mk _ (ev_inside _ _ _) ?_)); conv => whnf)
    | (exfalso; first | omega | contradiction))
  all_goals simp_all [retOf, wrongB]
theorem ev_Record (g : Ga) : Ev Try.prog 32 [gD g] (.int .i64 (recErr g)) := by
  refine ev_of_awp tysOk mixed (fn := Try.f32) Try.func32 rfl rfl rfl ?_
  have hl : (g.marks.map mD).length = g.marks.length := List.length_map _
  conv => whnf
  repeat' (first
    | ((with_reducible refine Split.of_true ?_); conv => whnf)
    | ((with_reducible refine Split.of_false ?_); conv => whnf)
    | ((with_reducible refine Split.neg ?_))
    | ((with_reducible refine Split.is_true ?_ ?_); decide; conv => whnf)
    | ((with_reducible refine Split.is_false ?_ ?_); decide; conv => whnf)
    | ((with_reducible refine Split.nez (fun _ => ?_) (fun _ => ?_)) <;> conv => whnf)
    | ((with_reducible refine Split.eqz (fun _ => ?_) (fun _ => ?_)) <;> conv => whnf)
    | ((with_reducible refine Split.and ?_))
    | ((with_reducible refine Split.or ?_))
    | ((with_reducible refine Split.streq (fun _ => ?_) (fun _ => ?_)) <;> conv => whnf)
    | ((with_reducible refine Split.dec (fun _ => ?_) (fun _ => ?_)) <;> conv => whnf)
    | ((with_reducible refine Split.mk (fun _ => ?_) (fun _ => ?_)) <;> conv => whnf)
    | ((with_reducible refine NilK.mk (fun _ => ?_) ?_) <;> conv => whnf)
    | ((with_reducible refine AltK.l ?_); (conv => whnf); (with_reducible refine Need.mk ?_ ?_); (first | omega | (refine ⟨?_, ?_⟩ <;> simp <;> omega) | (simp; omega)); conv => whnf)
    | ((with_reducible refine Need.mk ?_ ?_); (first | omega | rfl | decide | (refine ⟨?_, ?_⟩ <;> simp <;> omega) | (simp; omega)); conv => whnf)
    | ((with_reducible refine Wr.quo ?_ ?_ ?_ ?_); omega; omega; omega; conv => whnf)
    | ((with_reducible refine Wr.inr ?_ ?_); (first | omega | (simp; omega)); conv => whnf)
    | ((with_reducible refine Wr.inu ?_ ?_); omega; conv => whnf)
    | ((with_reducible refine AltK.l ?_); (conv => whnf); (first | (refine CallK.mk _ (ev_inside _ _ _) ?_)); conv => whnf)
    | (exfalso; first | omega | contradiction))
  · simp_all [retOf, recErr]
  · simp_all [retOf, recErr]
  · simp_all [retOf, recErr] <;> omega
  refine LoopK.mk (fun i => i ≤ g.marks.length ∧ recErr g = markErr (if i = 0 then none else g.marks[i-1]?) (g.marks.drop i))
    (fun i => ⟨[(1, .ptr 1 0), (2, .d (.int .i64 0)), (3, .d (.int .i64 i))],
      [(1, .var [.d (.str g.name), .d (.int .i64 g.x), .d (.int .i64 g.err), .d (.sl 2 (g.marks.map mD))] false)]⟩)
    (fun i => g.marks.length - i) 0 [] ⟨by omega, by simp_all [recErr] <;> omega⟩ (by refine ⟨?_, ?_, rfl⟩ <;> (repeat' (first | exact True.intro | exact rfl | refine ⟨?_, ?_⟩ | (intro h; cases h; done) | (intro h; exact h) | exact map_snoc | (refine own_congr ?_; simp; done) | (refine int_congr ?_; (first | omega | (simp; omega))) | (simp; done)))) ?_
  rintro i ⟨hi, hs⟩
  have hp : i = 0 ∨ ∃ q, g.marks[i-1]? = some q := by
    rcases Nat.eq_zero_or_pos i with h | h
    · exact .inl h
    · exact .inr (some_of_lt (by omega))
  have hn : (i : Int) < g.marks.length → ∃ m, g.marks[i]? = some m := fun h => some_of_lt (by omega)
  conv => whnf
  repeat' (first
    | ((with_reducible refine Split.of_true ?_); conv => whnf)
    | ((with_reducible refine Split.of_false ?_); conv => whnf)
    | ((with_reducible refine Split.neg ?_))
    | ((with_reducible refine Split.is_true ?_ ?_); decide; conv => whnf)
    | ((with_reducible refine Split.is_false ?_ ?_); decide; conv => whnf)
    | ((with_reducible refine Split.nez (fun _ => ?_) (fun _ => ?_)) <;> conv => whnf)
    | ((with_reducible refine Split.eqz (fun _ => ?_) (fun _ => ?_)) <;> conv => whnf)
    | ((with_reducible refine Split.and ?_))
    | ((with_reducible refine Split.or ?_))
    | ((with_reducible refine Split.streq (fun _ => ?_) (fun _ => ?_)) <;> conv => whnf)
    | ((with_reducible refine Split.dec (fun _ => ?_) (fun _ => ?_)) <;> conv => whnf)
    | ((with_reducible refine Split.mk (fun _ => ?_) (fun _ => ?_)) <;> conv => whnf)
    | ((with_reducible refine NilK.mk (fun _ => ?_) ?_) <;> conv => whnf)
    | ((with_reducible refine AltK.l ?_); (conv => whnf); (with_reducible refine Need.mk ?_ ?_); (first | omega | (refine ⟨?_, ?_⟩ <;> simp <;> omega) | (simp; omega)); conv => whnf)
    | ((with_reducible refine Need.mk ?_ ?_); (first | omega | rfl | decide | (refine ⟨?_, ?_⟩ <;> simp <;> omega) | (simp; omega)); conv => whnf)
    | ((with_reducible refine Wr.quo ?_ ?_ ?_ ?_); omega; omega; omega; conv => whnf)
    | ((with_reducible refine Wr.inr ?_ ?_); (first | omega | (simp; omega)); conv => whnf)
    | ((with_reducible refine Wr.inu ?_ ?_); omega; conv => whnf)
    | (exfalso; first | omega | contradiction))
  · obtain ⟨m, hm⟩ := hn (by omega)
    refine PickE.map i hm (by omega) ?_
    rw [drop_of hm] at hs
    have hck := ev_checkMark m.m m.l
    cases hw : wrongB m.m m.l with
    | true =>
      rw [hw, if_pos rfl] at hck
      conv => whnf
      repeat' (first
        | ((with_reducible refine Split.of_true ?_); conv => whnf)
        | ((with_reducible refine Split.of_false ?_); conv => whnf)
        | ((with_reducible refine Split.neg ?_))
        | ((with_reducible refine Split.is_true ?_ ?_); decide; conv => whnf)
        | ((with_reducible refine Split.is_false ?_ ?_); decide; conv => whnf)
        | ((with_reducible refine Split.nez (fun _ => ?_) (fun _ => ?_)) <;> conv => whnf)
        | ((with_reducible refine Split.eqz (fun _ => ?_) (fun _ => ?_)) <;> conv => whnf)
        | ((with_reducible refine Split.and ?_))
        | ((with_reducible refine Split.or ?_))
        | ((with_reducible refine Split.streq (fun _ => ?_) (fun _ => ?_)) <;> conv => whnf)
        | ((with_reducible refine Split.dec (fun _ => ?_) (fun _ => ?_)) <;> conv => whnf)
        | ((with_reducible refine Split.mk (fun _ => ?_) (fun _ => ?_)) <;> conv => whnf)
        | ((with_reducible refine NilK.mk (fun _ => ?_) ?_) <;> conv => whnf)
        | ((with_reducible refine AltK.l ?_); (conv => whnf); (with_reducible refine Need.mk ?_ ?_); (first | omega | (refine ⟨?_, ?_⟩ <;> simp <;> omega) | (simp; omega)); conv => whnf)
        | ((with_reducible refine Need.mk ?_ ?_); (first | omega | rfl | decide | (refine ⟨?_, ?_⟩ <;> simp <;> omega) | (simp; omega)); conv => whnf)
        | ((with_reducible refine Wr.quo ?_ ?_ ?_ ?_); omega; omega; omega; conv => whnf)
        | ((with_reducible refine Wr.inr ?_ ?_); (first | omega | (simp; omega)); conv => whnf)
        | ((with_reducible refine Wr.inu ?_ ?_); omega; conv => whnf)
        | ((with_reducible refine AltK.l ?_); (conv => whnf); (first | (refine CallK.mk _ (hck) ?_)); conv => whnf)
        | (exfalso; first | omega | contradiction))
      simp_all [retOf, markErr]
    | false =>
      rw [hw, if_neg (by decide)] at hck
      conv => whnf
      repeat' (first
        | ((with_reducible refine Split.of_true ?_); conv => whnf)
        | ((with_reducible refine Split.of_false ?_); conv => whnf)
        | ((with_reducible refine Split.neg ?_))
        | ((with_reducible refine Split.is_true ?_ ?_); decide; conv => whnf)
        | ((with_reducible refine Split.is_false ?_ ?_); decide; conv => whnf)
        | ((with_reducible refine Split.nez (fun _ => ?_) (fun _ => ?_)) <;> conv => whnf)
        | ((with_reducible refine Split.eqz (fun _ => ?_) (fun _ => ?_)) <;> conv => whnf)
        | ((with_reducible refine Split.and ?_))
        | ((with_reducible refine Split.or ?_))
        | ((with_reducible refine Split.streq (fun _ => ?_) (fun _ => ?_)) <;> conv => whnf)
        | ((with_reducible refine Split.dec (fun _ => ?_) (fun _ => ?_)) <;> conv => whnf)
        | ((with_reducible refine Split.mk (fun _ => ?_) (fun _ => ?_)) <;> conv => whnf)
        | ((with_reducible refine NilK.mk (fun _ => ?_) ?_) <;> conv => whnf)
        | ((with_reducible refine AltK.l ?_); (conv => whnf); (with_reducible refine Need.mk ?_ ?_); (first | omega | (refine ⟨?_, ?_⟩ <;> simp <;> omega) | (simp; omega)); conv => whnf)
        | ((with_reducible refine Need.mk ?_ ?_); (first | omega | rfl | decide | (refine ⟨?_, ?_⟩ <;> simp <;> omega) | (simp; omega)); conv => whnf)
        | ((with_reducible refine Wr.quo ?_ ?_ ?_ ?_); omega; omega; omega; conv => whnf)
        | ((with_reducible refine Wr.inr ?_ ?_); (first | omega | (simp; omega)); conv => whnf)
        | ((with_reducible refine Wr.inu ?_ ?_); omega; conv => whnf)
        | ((with_reducible refine AltK.l ?_); (conv => whnf); (first | (refine CallK.mk _ (hck) ?_)); conv => whnf)
        | (exfalso; first | omega | contradiction))
      · obtain ⟨q, hq⟩ := hp.resolve_left (by omega)
        have hi0 : i ≠ 0 := by omega
        refine PickE.map i hm (by omega) ?_
        conv => whnf
        repeat' (first
          | ((with_reducible refine Split.of_true ?_); conv => whnf)
          | ((with_reducible refine Split.of_false ?_); conv => whnf)
          | ((with_reducible refine Split.neg ?_))
          | ((with_reducible refine Split.is_true ?_ ?_); decide; conv => whnf)
          | ((with_reducible refine Split.is_false ?_ ?_); decide; conv => whnf)
          | ((with_reducible refine Split.nez (fun _ => ?_) (fun _ => ?_)) <;> conv => whnf)
          | ((with_reducible refine Split.eqz (fun _ => ?_) (fun _ => ?_)) <;> conv => whnf)
          | ((with_reducible refine Split.and ?_))
          | ((with_reducible refine Split.or ?_))
          | ((with_reducible refine Split.streq (fun _ => ?_) (fun _ => ?_)) <;> conv => whnf)
          | ((with_reducible refine Split.dec (fun _ => ?_) (fun _ => ?_)) <;> conv => whnf)
          | ((with_reducible refine Split.mk (fun _ => ?_) (fun _ => ?_)) <;> conv => whnf)
          | ((with_reducible refine NilK.mk (fun _ => ?_) ?_) <;> conv => whnf)
          | ((with_reducible refine AltK.l ?_); (conv => whnf); (with_reducible refine Need.mk ?_ ?_); (first | omega | (refine ⟨?_, ?_⟩ <;> simp <;> omega) | (simp; omega)); conv => whnf)
          | ((with_reducible refine Need.mk ?_ ?_); (first | omega | rfl | decide | (refine ⟨?_, ?_⟩ <;> simp <;> omega) | (simp; omega)); conv => whnf)
          | ((with_reducible refine Wr.quo ?_ ?_ ?_ ?_); omega; omega; omega; conv => whnf)
          | ((with_reducible refine Wr.inr ?_ ?_); (first | omega | (simp; omega)); conv => whnf)
          | ((with_reducible refine Wr.inu ?_ ?_); omega; conv => whnf)
          | (exfalso; first | omega | contradiction))
        refine PickE.map (i-1) hq (by omega) ?_
        conv => whnf
        repeat' (first
          | ((with_reducible refine Split.of_true ?_); conv => whnf)
          | ((with_reducible refine Split.of_false ?_); conv => whnf)
          | ((with_reducible refine Split.neg ?_))
          | ((with_reducible refine Split.is_true ?_ ?_); decide; conv => whnf)
          | ((with_reducible refine Split.is_false ?_ ?_); decide; conv => whnf)
          | ((with_reducible refine Split.nez (fun _ => ?_) (fun _ => ?_)) <;> conv => whnf)
          | ((with_reducible refine Split.eqz (fun _ => ?_) (fun _ => ?_)) <;> conv => whnf)
          | ((with_reducible refine Split.and ?_))
          | ((with_reducible refine Split.or ?_))
          | ((with_reducible refine Split.streq (fun _ => ?_) (fun _ => ?_)) <;> conv => whnf)
          | ((with_reducible refine Split.dec (fun _ => ?_) (fun _ => ?_)) <;> conv => whnf)
          | ((with_reducible refine Split.mk (fun _ => ?_) (fun _ => ?_)) <;> conv => whnf)
          | ((with_reducible refine NilK.mk (fun _ => ?_) ?_) <;> conv => whnf)
          | ((with_reducible refine AltK.l ?_); (conv => whnf); (with_reducible refine Need.mk ?_ ?_); (first | omega | (refine ⟨?_, ?_⟩ <;> simp <;> omega) | (simp; omega)); conv => whnf)
          | ((with_reducible refine Need.mk ?_ ?_); (first | omega | rfl | decide | (refine ⟨?_, ?_⟩ <;> simp <;> omega) | (simp; omega)); conv => whnf)
          | ((with_reducible refine Wr.quo ?_ ?_ ?_ ?_); omega; omega; omega; conv => whnf)
          | ((with_reducible refine Wr.inr ?_ ?_); (first | omega | (simp; omega)); conv => whnf)
          | ((with_reducible refine Wr.inu ?_ ?_); omega; conv => whnf)
          | (exfalso; first | omega | contradiction))
        · simp_all [retOf, markErr]
        · refine Again.mk (i+1) [] ⟨by omega, ?_⟩ (by omega) (by refine ⟨?_, ?_, rfl⟩ <;> (repeat' (first | exact True.intro | exact rfl | refine ⟨?_, ?_⟩ | (intro h; cases h; done) | (intro h; exact h) | exact map_snoc | (refine own_congr ?_; simp; done) | (refine int_congr ?_; (first | omega | (simp; omega))) | (simp; done))))
          simp_all [markErr]
      · have hi0 : i = 0 := by omega
        refine Again.mk (i+1) [] ⟨by omega, ?_⟩ (by omega) (by refine ⟨?_, ?_, rfl⟩ <;> (repeat' (first | exact True.intro | exact rfl | refine ⟨?_, ?_⟩ | (intro h; cases h; done) | (intro h; exact h) | exact map_snoc | (refine own_congr ?_; simp; done) | (refine int_congr ?_; (first | omega | (simp; omega))) | (simp; done))))
        simp_all [markErr]
  · have : g.marks.drop i = [] := List.drop_eq_nil_of_le (by omega)
    simp_all [retOf, markErr]
def letterZ (c : Int) : Bool := (decide (c ≥ 97) && decide (c ≤ 122)) || (decide (c ≥ 65) && decide (c ≤ 90))
def otherZ (c : Int) : Bool := (decide (c ≥ 48) && decide (c ≤ 57)) || decide (c = 45)
def badAt (s : ByteArray) (i : Nat) : Bool := !letterZ (bAt s i) && (decide (i = 0) || !otherZ (bAt s i))
def nameB (s : ByteArray) : Bool := decide (s.size ≠ 0) && decide (s.size ≤ 12) && decide (∀ k, k < s.size → badAt s k = false)
theorem nameB_bad {s : ByteArray} {i : Nat} (h : i < s.size) (hb : badAt s i = true) : nameB s = false := by
  unfold nameB
  have : ¬ ∀ k, k < s.size → badAt s k = false := fun hk => by rw [hk i h] at hb; cases hb
  simp [this]
theorem badAt_iff {s : ByteArray} {i : Nat} : badAt s i = true ↔ ¬ ((97 ≤ bAt s (i : Int).toNat ∧ bAt s (i : Int).toNat ≤ 122) ∨ (65 ≤ bAt s (i : Int).toNat ∧ bAt s (i : Int).toNat ≤ 90)) ∧
    (i = 0 ∨ ¬ ((48 ≤ bAt s (i : Int).toNat ∧ bAt s (i : Int).toNat ≤ 57) ∨ bAt s (i : Int).toNat = 45)) := by
  have e : bAt s (i : Int).toNat = bAt s i := rfl
  rw [e]
  generalize hc : bAt s i = c
  simp only [badAt, hc, letterZ, otherZ, Bool.and_eq_true, Bool.not_eq_true', Bool.or_eq_true, Bool.or_eq_false_iff, Bool.and_eq_false_iff, decide_eq_true_eq, decide_eq_false_iff_not]
  omega
theorem ev_named (s : ByteArray) : Ev Try.prog 37 [.str s] (.bool (nameB s)) := by
  refine ev_of_awp tysOk mixed (fn := Try.f37) Try.func37 rfl rfl rfl ?_
  conv => whnf
  repeat' (first
    | ((with_reducible refine Split.of_true ?_); conv => whnf)
    | ((with_reducible refine Split.of_false ?_); conv => whnf)
    | ((with_reducible refine Split.neg ?_))
    | ((with_reducible refine Split.is_true ?_ ?_); decide; conv => whnf)
    | ((with_reducible refine Split.is_false ?_ ?_); decide; conv => whnf)
    | ((with_reducible refine Split.nez (fun _ => ?_) (fun _ => ?_)) <;> conv => whnf)
    | ((with_reducible refine Split.eqz (fun _ => ?_) (fun _ => ?_)) <;> conv => whnf)
    | ((with_reducible refine Split.and ?_))
    | ((with_reducible refine Split.or ?_))
    | ((with_reducible refine Split.streq (fun _ => ?_) (fun _ => ?_)) <;> conv => whnf)
    | ((with_reducible refine Split.dec (fun _ => ?_) (fun _ => ?_)) <;> conv => whnf)
    | ((with_reducible refine Split.mk (fun _ => ?_) (fun _ => ?_)) <;> conv => whnf)
    | ((with_reducible refine NilK.mk (fun _ => ?_) ?_) <;> conv => whnf)
    | ((with_reducible refine AltK.l ?_); (conv => whnf); (with_reducible refine Need.mk ?_ ?_); (first | omega | (refine ⟨?_, ?_⟩ <;> simp <;> omega) | (simp; omega)); conv => whnf)
    | ((with_reducible refine Need.mk ?_ ?_); (first | omega | rfl | decide | (refine ⟨?_, ?_⟩ <;> simp <;> omega) | (simp; omega)); conv => whnf)
    | ((with_reducible refine Wr.quo ?_ ?_ ?_ ?_); omega; omega; omega; conv => whnf)
    | ((with_reducible refine Wr.inr ?_ ?_); (first | omega | (simp; omega)); conv => whnf)
    | ((with_reducible refine Wr.inu ?_ ?_); omega; conv => whnf)
    | (exfalso; first | omega | contradiction))
  · have e : s = ⟨#[]⟩ := by assumption
    subst e
    rfl
  · simp_all [retOf, nameB] <;> omega
  refine LoopK.mk (fun i => i ≤ s.size ∧ ∀ k, k < i → badAt s k = false)
    (fun i => ⟨[(2, .d (.bool false)), (14, .d (.str s)), (15, .d (.int .i64 s.size)), (16, .d (.int .i64 i)), (0, .d (.str s))], []⟩)
    (fun i => s.size - i) 0 [] ⟨by omega, fun k h => absurd h (by omega)⟩ (by refine ⟨?_, ?_, rfl⟩ <;> (repeat' (first | exact True.intro | exact rfl | refine ⟨?_, ?_⟩ | (intro h; cases h; done) | (intro h; exact h) | exact map_snoc | (refine own_congr ?_; simp; done) | (refine int_congr ?_; (first | omega | (simp; omega))) | (simp; done)))) ?_
  rintro i ⟨hi, hs⟩
  conv => whnf
  repeat' (first
    | ((with_reducible refine Split.of_true ?_); conv => whnf)
    | ((with_reducible refine Split.of_false ?_); conv => whnf)
    | ((with_reducible refine Split.neg ?_))
    | ((with_reducible refine Split.is_true ?_ ?_); decide; conv => whnf)
    | ((with_reducible refine Split.is_false ?_ ?_); decide; conv => whnf)
    | ((with_reducible refine Split.nez (fun _ => ?_) (fun _ => ?_)) <;> conv => whnf)
    | ((with_reducible refine Split.eqz (fun _ => ?_) (fun _ => ?_)) <;> conv => whnf)
    | ((with_reducible refine Split.and ?_))
    | ((with_reducible refine Split.or ?_))
    | ((with_reducible refine Split.streq (fun _ => ?_) (fun _ => ?_)) <;> conv => whnf)
    | ((with_reducible refine Split.dec (fun _ => ?_) (fun _ => ?_)) <;> conv => whnf)
    | ((with_reducible refine Split.mk (fun _ => ?_) (fun _ => ?_)) <;> conv => whnf)
    | ((with_reducible refine NilK.mk (fun _ => ?_) ?_) <;> conv => whnf)
    | ((with_reducible refine AltK.l ?_); (conv => whnf); (with_reducible refine Need.mk ?_ ?_); (first | omega | (refine ⟨?_, ?_⟩ <;> simp <;> omega) | (simp; omega)); conv => whnf)
    | ((with_reducible refine Need.mk ?_ ?_); (first | omega | rfl | decide | (refine ⟨?_, ?_⟩ <;> simp <;> omega) | (simp; omega)); conv => whnf)
    | ((with_reducible refine Wr.quo ?_ ?_ ?_ ?_); omega; omega; omega; conv => whnf)
    | ((with_reducible refine Wr.inr ?_ ?_); (first | omega | (simp; omega)); conv => whnf)
    | ((with_reducible refine Wr.inu ?_ ?_); omega; conv => whnf)
    | (exfalso; first | omega | contradiction))
  all_goals first
    | exact congrArg D.bool (nameB_bad (i := i) (by omega) (badAt_iff.2 (by omega))).symm
    | (refine Again.mk (i+1) [] ⟨by omega, fun k hk => ?_⟩ (by omega) (by refine ⟨?_, ?_, rfl⟩ <;> (repeat' (first | exact True.intro | exact rfl | refine ⟨?_, ?_⟩ | (intro h; cases h; done) | (intro h; exact h) | exact map_snoc | (refine own_congr ?_; simp; done) | (refine int_congr ?_; (first | omega | (simp; omega))) | (simp; done))))
       rcases Nat.lt_or_ge k i with h | h
       · exact hs k h
       · have : k = i := by omega
         subst this
         exact Bool.eq_false_iff.2 fun h => by have := badAt_iff.1 h; omega)
    | skip
  have : ∀ k, k < s.size → badAt s k = false := fun k hk => hs k (by omega)
  have h1 : s.size ≠ 0 := fun h => absurd (ba_nil h) (by assumption)
  have h2 : s.size ≤ 12 := by omega
  simp [retOf, nameB, h1, h2]
  exact this
end Go.Proofs.Try
end

section
namespace Go.Proofs.Try
open Go Go.Vm
set_option maxRecDepth 20000
set_option maxHeartbeats 2000000
theorem ev_IsName (s : ByteArray) : Ev Try.prog 31 [.str s] (.bool (nameB s)) := by
  refine ev_of_awp tysOk mixed (fn := Try.f31) Try.func31 rfl rfl rfl ?_
  conv => whnf
  repeat' (first
    | ((with_reducible refine Split.of_true ?_); conv => whnf)
    | ((with_reducible refine Split.of_false ?_); conv => whnf)
    | ((with_reducible refine Split.neg ?_))
    | ((with_reducible refine Split.is_true ?_ ?_); decide; conv => whnf)
    | ((with_reducible refine Split.is_false ?_ ?_); decide; conv => whnf)
    | ((with_reducible refine Split.nez (fun _ => ?_) (fun _ => ?_)) <;> conv => whnf)
    | ((with_reducible refine Split.eqz (fun _ => ?_) (fun _ => ?_)) <;> conv => whnf)
    | ((with_reducible refine Split.and ?_))
    | ((with_reducible refine Split.or ?_))
    | ((with_reducible refine Split.streq (fun _ => ?_) (fun _ => ?_)) <;> conv => whnf)
    | ((with_reducible refine Split.dec (fun _ => ?_) (fun _ => ?_)) <;> conv => whnf)
    | ((with_reducible refine Split.mk (fun _ => ?_) (fun _ => ?_)) <;> conv => whnf)
    | ((with_reducible refine NilK.mk (fun _ => ?_) ?_) <;> conv => whnf)
    | ((with_reducible refine AltK.l ?_); (conv => whnf); (with_reducible refine Need.mk ?_ ?_); (first | omega | (refine ⟨?_, ?_⟩ <;> simp <;> omega) | (simp; omega)); conv => whnf)
    | ((with_reducible refine Need.mk ?_ ?_); (first | omega | rfl | decide | (refine ⟨?_, ?_⟩ <;> simp <;> omega) | (simp; omega)); conv => whnf)
    | ((with_reducible refine Wr.quo ?_ ?_ ?_ ?_); omega; omega; omega; conv => whnf)
    | ((with_reducible refine Wr.inr ?_ ?_); (first | omega | (simp; omega)); conv => whnf)
    | ((with_reducible refine Wr.inu ?_ ?_); omega; conv => whnf)
    | (exfalso; first | omega | contradiction))
  · have : s.size = 0 := by omega
    simp_all [retOf, nameB]
  · simp_all [retOf, nameB] <;> omega
  refine LoopK.mk (fun i => i ≤ s.size ∧ ∀ k, k < i → badAt s k = false)
    (fun i => ⟨[(2, .d (.bool false)), (3, .d (.int .i64 i)), (0, .d (.str s))], []⟩)
    (fun i => s.size - i) 0 [] ⟨by omega, fun k h => absurd h (by omega)⟩ (by refine ⟨?_, ?_, rfl⟩ <;> (repeat' (first | exact True.intro | exact rfl | refine ⟨?_, ?_⟩ | (intro h; cases h; done) | (intro h; exact h) | exact map_snoc | (refine own_congr ?_; simp; done) | (refine int_congr ?_; (first | omega | (simp; omega))) | (simp; done)))) ?_
  rintro i ⟨hi, hs⟩
  conv => whnf
  repeat' (first
    | ((with_reducible refine Split.of_true ?_); conv => whnf)
    | ((with_reducible refine Split.of_false ?_); conv => whnf)
    | ((with_reducible refine Split.neg ?_))
    | ((with_reducible refine Split.is_true ?_ ?_); decide; conv => whnf)
    | ((with_reducible refine Split.is_false ?_ ?_); decide; conv => whnf)
    | ((with_reducible refine Split.nez (fun _ => ?_) (fun _ => ?_)) <;> conv => whnf)
    | ((with_reducible refine Split.eqz (fun _ => ?_) (fun _ => ?_)) <;> conv => whnf)
    | ((with_reducible refine Split.and ?_))
    | ((with_reducible refine Split.or ?_))
    | ((with_reducible refine Split.streq (fun _ => ?_) (fun _ => ?_)) <;> conv => whnf)
    | ((with_reducible refine Split.dec (fun _ => ?_) (fun _ => ?_)) <;> conv => whnf)
    | ((with_reducible refine Split.mk (fun _ => ?_) (fun _ => ?_)) <;> conv => whnf)
    | ((with_reducible refine NilK.mk (fun _ => ?_) ?_) <;> conv => whnf)
    | ((with_reducible refine AltK.l ?_); (conv => whnf); (with_reducible refine Need.mk ?_ ?_); (first | omega | (refine ⟨?_, ?_⟩ <;> simp <;> omega) | (simp; omega)); conv => whnf)
    | ((with_reducible refine Need.mk ?_ ?_); (first | omega | rfl | decide | (refine ⟨?_, ?_⟩ <;> simp <;> omega) | (simp; omega)); conv => whnf)
    | ((with_reducible refine Wr.quo ?_ ?_ ?_ ?_); omega; omega; omega; conv => whnf)
    | ((with_reducible refine Wr.inr ?_ ?_); (first | omega | (simp; omega)); conv => whnf)
    | ((with_reducible refine Wr.inu ?_ ?_); omega; conv => whnf)
    | (exfalso; first | omega | contradiction))
  all_goals first
    | exact congrArg D.bool (nameB_bad (i := i) (by omega) (badAt_iff.2 (by omega))).symm
    | (refine Again.mk (i+1) [] ⟨by omega, fun k hk => ?_⟩ (by omega) (by refine ⟨?_, ?_, rfl⟩ <;> (repeat' (first | exact True.intro | exact rfl | refine ⟨?_, ?_⟩ | (intro h; cases h; done) | (intro h; exact h) | exact map_snoc | (refine own_congr ?_; simp; done) | (refine int_congr ?_; (first | omega | (simp; omega))) | (simp; done))))
       rcases Nat.lt_or_ge k i with h | h
       · exact hs k h
       · have : k = i := by omega
         subst this
         exact Bool.eq_false_iff.2 fun h => by have := badAt_iff.1 h; omega)
    | skip
  have : ∀ k, k < s.size → badAt s k = false := fun k hk => hs k (by omega)
  have h1 : s.size ≠ 0 := by omega
  have h2 : s.size ≤ 12 := by omega
  simp [retOf, nameB, h1, h2]
  exact this
def gErr (g : Ga) : Int := if nameB g.name then recErr g else 4
theorem ev_mean1 (m : Mk) (t : Int) (h : 0 ≤ m.m ∧ m.m ≤ 1000000) (ht : -4000000000000000000 ≤ t ∧ t ≤ 4000000000000000000) : Ev Try.prog 69 [mD m, .int .i64 t] (.int .i64 (m.m - t)) := by
  refine ev_of_awp tysOk mixed (fn := Try.f69) Try.func69 rfl rfl rfl ?_
  conv => whnf
  repeat' (first
    | ((with_reducible refine Split.of_true ?_); conv => whnf)
    | ((with_reducible refine Split.of_false ?_); conv => whnf)
    | ((with_reducible refine Split.neg ?_))
    | ((with_reducible refine Split.is_true ?_ ?_); decide; conv => whnf)
    | ((with_reducible refine Split.is_false ?_ ?_); decide; conv => whnf)
    | ((with_reducible refine Split.nez (fun _ => ?_) (fun _ => ?_)) <;> conv => whnf)
    | ((with_reducible refine Split.eqz (fun _ => ?_) (fun _ => ?_)) <;> conv => whnf)
    | ((with_reducible refine Split.and ?_))
    | ((with_reducible refine Split.or ?_))
    | ((with_reducible refine Split.streq (fun _ => ?_) (fun _ => ?_)) <;> conv => whnf)
    | ((with_reducible refine Split.dec (fun _ => ?_) (fun _ => ?_)) <;> conv => whnf)
    | ((with_reducible refine Split.mk (fun _ => ?_) (fun _ => ?_)) <;> conv => whnf)
    | ((with_reducible refine NilK.mk (fun _ => ?_) ?_) <;> conv => whnf)
    | ((with_reducible refine AltK.l ?_); (conv => whnf); (with_reducible refine Need.mk ?_ ?_); (first | omega | (refine ⟨?_, ?_⟩ <;> simp <;> omega) | (simp; omega)); conv => whnf)
    | ((with_reducible refine Need.mk ?_ ?_); (first | omega | rfl | decide | (refine ⟨?_, ?_⟩ <;> simp <;> omega) | (simp; omega)); conv => whnf)
    | ((with_reducible refine Wr.quo ?_ ?_ ?_ ?_); omega; omega; omega; conv => whnf)
    | ((with_reducible refine Wr.inr ?_ ?_); (first | omega | (simp; omega)); conv => whnf)
    | ((with_reducible refine Wr.inu ?_ ?_); omega; conv => whnf)
    | (exfalso; first | omega | contradiction))
  rfl
def foundB (l : List Mk) (p : Nat) (t : Int) : Bool := match l[p]? with
  | some m => decide (m.m = t)
  | none => false
theorem ev_Bin (l : List Mk) (t : Int) (p : Nat) (hl : l.length ≤ 1000000) (hb : ∀ m ∈ l, 0 ≤ m.m ∧ m.m ≤ 1000000) (ht : -4000000000000000000 ≤ t ∧ t ≤ 4000000000000000000) (hp : p ≤ l.length)
    (h : ∀ (k : Nat) m, l[k]? = some m → (k < p → m.m < t) ∧ (p ≤ k → t ≤ m.m)) : Ev Try.prog 68 [.sl 2 (l.map mD), .int .i64 t, .fn 69 []] (.tup [.int .i64 p, .bool (foundB l p t)]) := by
  refine ev_of_awp tysOk mixed (fn := Try.f68) Try.func68 rfl rfl rfl ?_
  have hlen : (l.map mD).length = l.length := List.length_map _
  conv => whnf
  repeat' (first
    | ((with_reducible refine Split.of_true ?_); conv => whnf)
    | ((with_reducible refine Split.of_false ?_); conv => whnf)
    | ((with_reducible refine Split.neg ?_))
    | ((with_reducible refine Split.is_true ?_ ?_); decide; conv => whnf)
    | ((with_reducible refine Split.is_false ?_ ?_); decide; conv => whnf)
    | ((with_reducible refine Split.nez (fun _ => ?_) (fun _ => ?_)) <;> conv => whnf)
    | ((with_reducible refine Split.eqz (fun _ => ?_) (fun _ => ?_)) <;> conv => whnf)
    | ((with_reducible refine Split.and ?_))
    | ((with_reducible refine Split.or ?_))
    | ((with_reducible refine Split.streq (fun _ => ?_) (fun _ => ?_)) <;> conv => whnf)
    | ((with_reducible refine Split.dec (fun _ => ?_) (fun _ => ?_)) <;> conv => whnf)
    | ((with_reducible refine Split.mk (fun _ => ?_) (fun _ => ?_)) <;> conv => whnf)
    | ((with_reducible refine NilK.mk (fun _ => ?_) ?_) <;> conv => whnf)
    | ((with_reducible refine AltK.l ?_); (conv => whnf); (with_reducible refine Need.mk ?_ ?_); (first | omega | (refine ⟨?_, ?_⟩ <;> simp <;> omega) | (simp; omega)); conv => whnf)
    | ((with_reducible refine Need.mk ?_ ?_); (first | omega | rfl | decide | (refine ⟨?_, ?_⟩ <;> simp <;> omega) | (simp; omega)); conv => whnf)
    | ((with_reducible refine Wr.quo ?_ ?_ ?_ ?_); omega; omega; omega; conv => whnf)
    | ((with_reducible refine Wr.inr ?_ ?_); (first | omega | (simp; omega)); conv => whnf)
    | ((with_reducible refine Wr.inu ?_ ?_); omega; conv => whnf)
    | (exfalso; first | omega | contradiction))
  refine LoopK.mk (fun ij : Nat × Nat => ij.1 ≤ p ∧ p ≤ ij.2 ∧ ij.2 ≤ l.length)
    (fun ij => ⟨[(0, .d (.sl 2 (l.map mD))), (1, .d (.int .i64 t)), (2, .d (.fn 69 [])), (6, .d (.int .i64 0)), (7, .d (.bool false)),
      (8, .d (.int .i64 (l.map mD).length)), (9, .d (.int .i64 ij.1)), (10, .d (.int .i64 ij.2))], []⟩)
    (fun ij => ij.2 - ij.1) (0, (l.map mD).length) [] ⟨by omega, by omega, by omega⟩ (by refine ⟨?_, ?_, rfl⟩ <;> (repeat' (first | exact True.intro | exact rfl | refine ⟨?_, ?_⟩ | (intro h; cases h; done) | (intro h; exact h) | exact map_snoc | (refine own_congr ?_; simp; done) | (refine int_congr ?_; (first | omega | (simp; omega))) | (simp; done)))) ?_
  rintro ⟨i, j⟩ ⟨h1, h2, h3⟩
  dsimp only at h1 h2 h3 ⊢
  have hz : shrZ ((i : Int) + j) 1 = ((i + j) / 2 : Nat) := by rw [shrZ_one]; omega
  have hlt : (i : Int) < j → (i + j) / 2 < l.length := fun h => by omega
  conv => whnf
  repeat' (first
    | ((with_reducible refine Split.of_true ?_); conv => whnf)
    | ((with_reducible refine Split.of_false ?_); conv => whnf)
    | ((with_reducible refine Split.neg ?_))
    | ((with_reducible refine Split.is_true ?_ ?_); decide; conv => whnf)
    | ((with_reducible refine Split.is_false ?_ ?_); decide; conv => whnf)
    | ((with_reducible refine Split.nez (fun _ => ?_) (fun _ => ?_)) <;> conv => whnf)
    | ((with_reducible refine Split.eqz (fun _ => ?_) (fun _ => ?_)) <;> conv => whnf)
    | ((with_reducible refine Split.and ?_))
    | ((with_reducible refine Split.or ?_))
    | ((with_reducible refine Split.streq (fun _ => ?_) (fun _ => ?_)) <;> conv => whnf)
    | ((with_reducible refine Split.dec (fun _ => ?_) (fun _ => ?_)) <;> conv => whnf)
    | ((with_reducible refine Split.mk (fun _ => ?_) (fun _ => ?_)) <;> conv => whnf)
    | ((with_reducible refine NilK.mk (fun _ => ?_) ?_) <;> conv => whnf)
    | ((with_reducible refine AltK.l ?_); (conv => whnf); (with_reducible refine Need.mk ?_ ?_); (first | omega | (refine ⟨?_, ?_⟩ <;> simp <;> omega) | (simp; omega)); conv => whnf)
    | ((with_reducible refine Need.mk ?_ ?_); (first | omega | rfl | decide | (refine ⟨?_, ?_⟩ <;> simp <;> omega) | (simp; omega)); conv => whnf)
    | ((with_reducible refine Wr.quo ?_ ?_ ?_ ?_); omega; omega; omega; conv => whnf)
    | ((with_reducible refine Wr.inr ?_ ?_); (first | omega | (simp; omega)); conv => whnf)
    | ((with_reducible refine Wr.inu ?_ ?_); omega; conv => whnf)
    | (exfalso; first | omega | contradiction))
  · have hlt := hlt (by assumption)
    obtain ⟨m, hm⟩ := some_of_lt hlt
    have hmb := hb m (List.mem_of_getElem? hm)
    have hc := h _ m hm
    rw [hz]
    have hq : i ≤ (i + j) / 2 ∧ (i + j) / 2 < j := by omega
    generalize (i + j) / 2 = q at *
    refine PickE.map q hm (by omega) ?_
    conv => whnf
    repeat' (first
      | ((with_reducible refine Split.of_true ?_); conv => whnf)
      | ((with_reducible refine Split.of_false ?_); conv => whnf)
      | ((with_reducible refine Split.neg ?_))
      | ((with_reducible refine Split.is_true ?_ ?_); decide; conv => whnf)
      | ((with_reducible refine Split.is_false ?_ ?_); decide; conv => whnf)
      | ((with_reducible refine Split.nez (fun _ => ?_) (fun _ => ?_)) <;> conv => whnf)
      | ((with_reducible refine Split.eqz (fun _ => ?_) (fun _ => ?_)) <;> conv => whnf)
      | ((with_reducible refine Split.and ?_))
      | ((with_reducible refine Split.or ?_))
      | ((with_reducible refine Split.streq (fun _ => ?_) (fun _ => ?_)) <;> conv => whnf)
      | ((with_reducible refine Split.dec (fun _ => ?_) (fun _ => ?_)) <;> conv => whnf)
      | ((with_reducible refine Split.mk (fun _ => ?_) (fun _ => ?_)) <;> conv => whnf)
      | ((with_reducible refine NilK.mk (fun _ => ?_) ?_) <;> conv => whnf)
      | ((with_reducible refine AltK.l ?_); (conv => whnf); (with_reducible refine Need.mk ?_ ?_); (first | omega | (refine ⟨?_, ?_⟩ <;> simp <;> omega) | (simp; omega)); conv => whnf)
      | ((with_reducible refine Need.mk ?_ ?_); (first | omega | rfl | decide | (refine ⟨?_, ?_⟩ <;> simp <;> omega) | (simp; omega)); conv => whnf)
      | ((with_reducible refine Wr.quo ?_ ?_ ?_ ?_); omega; omega; omega; conv => whnf)
      | ((with_reducible refine Wr.inr ?_ ?_); (first | omega | (simp; omega)); conv => whnf)
      | ((with_reducible refine Wr.inu ?_ ?_); omega; conv => whnf)
      | ((with_reducible refine AltK.l ?_); (conv => whnf); (first | (refine CallK.mk _ (ev_mean1 m t hmb ht) ?_)); conv => whnf)
      | (exfalso; first | omega | contradiction))
    · exact Again.mk (q + 1, j) [] ⟨by omega, by omega, by omega⟩ (by dsimp only; omega) (by refine ⟨?_, ?_, rfl⟩ <;> (repeat' (first | exact True.intro | exact rfl | refine ⟨?_, ?_⟩ | (intro h; cases h; done) | (intro h; exact h) | exact map_snoc | (refine own_congr ?_; simp; done) | (refine int_congr ?_; (first | omega | (simp; omega))) | (simp; done))))
    · exact Again.mk (i, q) [] ⟨by omega, by omega, by omega⟩ (by dsimp only; omega) (by refine ⟨?_, ?_, rfl⟩ <;> (repeat' (first | exact True.intro | exact rfl | refine ⟨?_, ?_⟩ | (intro h; cases h; done) | (intro h; exact h) | exact map_snoc | (refine own_congr ?_; simp; done) | (refine int_congr ?_; (first | omega | (simp; omega))) | (simp; done))))
  · have e : i = p := by omega
    subst e
    obtain ⟨m, hm⟩ := some_of_lt (l := l) (i := i) (by omega)
    have hmb := hb m (List.mem_of_getElem? hm)
    refine PickE.map i hm (by omega) ?_
    conv => whnf
    repeat' (first
      | ((with_reducible refine Split.of_true ?_); conv => whnf)
      | ((with_reducible refine Split.of_false ?_); conv => whnf)
      | ((with_reducible refine Split.neg ?_))
      | ((with_reducible refine Split.is_true ?_ ?_); decide; conv => whnf)
      | ((with_reducible refine Split.is_false ?_ ?_); decide; conv => whnf)
      | ((with_reducible refine Split.nez (fun _ => ?_) (fun _ => ?_)) <;> conv => whnf)
      | ((with_reducible refine Split.eqz (fun _ => ?_) (fun _ => ?_)) <;> conv => whnf)
      | ((with_reducible refine Split.and ?_))
      | ((with_reducible refine Split.or ?_))
      | ((with_reducible refine Split.streq (fun _ => ?_) (fun _ => ?_)) <;> conv => whnf)
      | ((with_reducible refine Split.dec (fun _ => ?_) (fun _ => ?_)) <;> conv => whnf)
      | ((with_reducible refine Split.mk (fun _ => ?_) (fun _ => ?_)) <;> conv => whnf)
      | ((with_reducible refine NilK.mk (fun _ => ?_) ?_) <;> conv => whnf)
      | ((with_reducible refine AltK.l ?_); (conv => whnf); (with_reducible refine Need.mk ?_ ?_); (first | omega | (refine ⟨?_, ?_⟩ <;> simp <;> omega) | (simp; omega)); conv => whnf)
      | ((with_reducible refine Need.mk ?_ ?_); (first | omega | rfl | decide | (refine ⟨?_, ?_⟩ <;> simp <;> omega) | (simp; omega)); conv => whnf)
      | ((with_reducible refine Wr.quo ?_ ?_ ?_ ?_); omega; omega; omega; conv => whnf)
      | ((with_reducible refine Wr.inr ?_ ?_); (first | omega | (simp; omega)); conv => whnf)
      | ((with_reducible refine Wr.inu ?_ ?_); omega; conv => whnf)
      | ((with_reducible refine AltK.l ?_); (conv => whnf); (first | (refine CallK.mk _ (ev_mean1 m t hmb ht) ?_)); conv => whnf)
      | (exfalso; first | omega | contradiction))
    have e : (m.m - t == 0) = decide (m.m = t) := by rw [Bool.eq_iff_iff]; simp; omega
    simp only [retOf, foundB, hm, e]
  · have e : i = p := by omega
    subst e
    have hm : l[i]? = none := List.getElem?_eq_none (by omega)
    simp only [retOf, foundB, hm]
theorem mul_bd {x y X Y : Int} (hx : -X ≤ x ∧ x ≤ X) (hy : -Y ≤ y ∧ y ≤ Y) : -(X * Y) ≤ x * y ∧ x * y ≤ X * Y := by
  have h : (x * y).natAbs ≤ X.natAbs * Y.natAbs := by rw [Int.natAbs_mul]; exact Nat.mul_le_mul (by omega) (by omega)
  have e : ((X.natAbs * Y.natAbs : Nat) : Int) = X * Y := by
    rw [Int.natCast_mul, Int.natAbs_of_nonneg (by omega), Int.natAbs_of_nonneg (by omega)]
  omega
/-- The mean level at a minute, before mark p (the first one at it or behind it). -/
def meanAt (l : List Mk) (p : Nat) (t : Int) : Int × Int × Bool := match l[p]? with
  | some b => if b.m = t then (b.l, 1, true) else match p with
    | 0 => (0, 1, false)
    | q + 1 => match l[q]? with
      | some a => (a.l * (b.m - a.m) + (b.l - a.l) * (t - a.m), b.m - a.m, true)
      | none => (0, 1, false)
  | none => (0, 1, false)
def m3D (x : Int × Int × Bool) : D := .tup [.int .i64 x.1, .int .i64 x.2.1, .bool x.2.2]
theorem ev_mean (g : Ga) (t : Int) (p : Nat) (hl : g.marks.length ≤ 400) (hb : ∀ m ∈ g.marks, wrongB m.m m.l = false) (ht : 0 ≤ t ∧ t ≤ 1000000) (hp : p ≤ g.marks.length)
    (h : ∀ (k : Nat) m, g.marks[k]? = some m → (k < p → m.m < t) ∧ (p ≤ k → t ≤ m.m)) : Ev Try.prog 65 [gD g, .int .i64 t] (m3D (meanAt g.marks p t)) := by
  have hlen : (g.marks.map mD).length = g.marks.length := List.length_map _
  have hw : ∀ m ∈ g.marks, 0 ≤ m.m ∧ m.m ≤ 1000000 ∧ -20000 ≤ m.l ∧ m.l ≤ 20000 := by
    intro m hm
    have := hb m hm
    simp only [wrongB, outsideB, Bool.or_eq_false_iff, decide_eq_false_iff_not] at this
    omega
  have hB := ev_Bin g.marks t p (by omega) (fun m hm => by have := hw m hm; omega) (by omega) hp h
  refine ev_of_awp tysOk mixed (fn := Try.f65) Try.func65 rfl rfl rfl ?_
  have hfb : ∀ b, g.marks[p]? = some b → foundB g.marks p t = decide (b.m = t) := fun b hb => by simp only [foundB, hb]
  have hfn : g.marks[p]? = none → foundB g.marks p t = false := fun hb => by simp only [foundB, hb]
  conv => whnf
  repeat' (first
    | ((with_reducible refine Split.of_true ?_); conv => whnf)
    | ((with_reducible refine Split.of_false ?_); conv => whnf)
    | ((with_reducible refine Split.neg ?_))
    | ((with_reducible refine Split.is_true ?_ ?_); decide; conv => whnf)
    | ((with_reducible refine Split.is_false ?_ ?_); decide; conv => whnf)
    | ((with_reducible refine Split.nez (fun _ => ?_) (fun _ => ?_)) <;> conv => whnf)
    | ((with_reducible refine Split.eqz (fun _ => ?_) (fun _ => ?_)) <;> conv => whnf)
    | ((with_reducible refine Split.and ?_))
    | ((with_reducible refine Split.or ?_))
    | ((with_reducible refine Split.streq (fun _ => ?_) (fun _ => ?_)) <;> conv => whnf)
    | ((with_reducible refine Split.dec (fun _ => ?_) (fun _ => ?_)) <;> conv => whnf)
    | ((with_reducible refine Split.mk (fun _ => ?_) (fun _ => ?_)) <;> conv => whnf)
    | ((with_reducible refine NilK.mk (fun _ => ?_) ?_) <;> conv => whnf)
    | ((with_reducible refine AltK.l ?_); (conv => whnf); (with_reducible refine Need.mk ?_ ?_); (first | omega | (refine ⟨?_, ?_⟩ <;> simp <;> omega) | (simp; omega)); conv => whnf)
    | ((with_reducible refine Need.mk ?_ ?_); (first | omega | rfl | decide | (refine ⟨?_, ?_⟩ <;> simp <;> omega) | (simp; omega)); conv => whnf)
    | ((with_reducible refine Wr.quo ?_ ?_ ?_ ?_); omega; omega; omega; conv => whnf)
    | ((with_reducible refine Wr.inr ?_ ?_); (first | omega | (simp; omega)); conv => whnf)
    | ((with_reducible refine Wr.inu ?_ ?_); omega; conv => whnf)
    | ((with_reducible refine AltK.l ?_); (conv => whnf); (first | (refine CallK.mk _ (hB) ?_)); conv => whnf)
    | (exfalso; first | omega | contradiction))
  · cases hm : g.marks[p]? with
    | none => rw [hfn hm] at *; simp_all
    | some b =>
      have hbt : b.m = t := by simp_all
      refine PickE.map p hm (by omega) ?_
      conv => whnf
      repeat' (first
        | ((with_reducible refine Split.of_true ?_); conv => whnf)
        | ((with_reducible refine Split.of_false ?_); conv => whnf)
        | ((with_reducible refine Split.neg ?_))
        | ((with_reducible refine Split.is_true ?_ ?_); decide; conv => whnf)
        | ((with_reducible refine Split.is_false ?_ ?_); decide; conv => whnf)
        | ((with_reducible refine Split.nez (fun _ => ?_) (fun _ => ?_)) <;> conv => whnf)
        | ((with_reducible refine Split.eqz (fun _ => ?_) (fun _ => ?_)) <;> conv => whnf)
        | ((with_reducible refine Split.and ?_))
        | ((with_reducible refine Split.or ?_))
        | ((with_reducible refine Split.streq (fun _ => ?_) (fun _ => ?_)) <;> conv => whnf)
        | ((with_reducible refine Split.dec (fun _ => ?_) (fun _ => ?_)) <;> conv => whnf)
        | ((with_reducible refine Split.mk (fun _ => ?_) (fun _ => ?_)) <;> conv => whnf)
        | ((with_reducible refine NilK.mk (fun _ => ?_) ?_) <;> conv => whnf)
        | ((with_reducible refine AltK.l ?_); (conv => whnf); (with_reducible refine Need.mk ?_ ?_); (first | omega | (refine ⟨?_, ?_⟩ <;> simp <;> omega) | (simp; omega)); conv => whnf)
        | ((with_reducible refine Need.mk ?_ ?_); (first | omega | rfl | decide | (refine ⟨?_, ?_⟩ <;> simp <;> omega) | (simp; omega)); conv => whnf)
        | ((with_reducible refine Wr.quo ?_ ?_ ?_ ?_); omega; omega; omega; conv => whnf)
        | ((with_reducible refine Wr.inr ?_ ?_); (first | omega | (simp; omega)); conv => whnf)
        | ((with_reducible refine Wr.inu ?_ ?_); omega; conv => whnf)
        | (exfalso; first | omega | contradiction))
      simp only [retOf, meanAt, hm, hbt, if_true, m3D]
  · have hp0 : p = 0 := by omega
    subst hp0
    cases hm : g.marks[0]? with
    | none => simp only [retOf, meanAt, hm, m3D]
    | some b =>
      have hbt : b.m ≠ t := by simp_all
      simp only [retOf, meanAt, hm, hbt, if_false, m3D]
  · have hm : g.marks[p]? = none := List.getElem?_eq_none (by omega)
    simp only [retOf, meanAt, hm, m3D]
  · obtain ⟨q, rfl⟩ : ∃ q, p = q + 1 := ⟨p - 1, by omega⟩
    obtain ⟨b, hm⟩ := some_of_lt (l := g.marks) (i := q + 1) (by omega)
    obtain ⟨a, hma⟩ := some_of_lt (l := g.marks) (i := q) (by omega)
    have hbt : b.m ≠ t := by simp_all
    have wa := hw a (List.mem_of_getElem? hma)
    have wb := hw b (List.mem_of_getElem? hm)
    have ha := (h q a hma).1 (by omega)
    have hb' := (h (q+1) b hm).2 (by omega)
    have e1 := mul_bd (x := a.l) (y := b.m - a.m) (X := 20000) (Y := 1000000) (by omega) (by omega)
    have e2 := mul_bd (x := b.l - a.l) (y := t - a.m) (X := 40000) (Y := 1000000) (by omega) (by omega)
    refine PickE.map q hma (by omega) ?_
    conv => whnf
    repeat' (first
      | ((with_reducible refine Split.of_true ?_); conv => whnf)
      | ((with_reducible refine Split.of_false ?_); conv => whnf)
      | ((with_reducible refine Split.neg ?_))
      | ((with_reducible refine Split.is_true ?_ ?_); decide; conv => whnf)
      | ((with_reducible refine Split.is_false ?_ ?_); decide; conv => whnf)
      | ((with_reducible refine Split.nez (fun _ => ?_) (fun _ => ?_)) <;> conv => whnf)
      | ((with_reducible refine Split.eqz (fun _ => ?_) (fun _ => ?_)) <;> conv => whnf)
      | ((with_reducible refine Split.and ?_))
      | ((with_reducible refine Split.or ?_))
      | ((with_reducible refine Split.streq (fun _ => ?_) (fun _ => ?_)) <;> conv => whnf)
      | ((with_reducible refine Split.dec (fun _ => ?_) (fun _ => ?_)) <;> conv => whnf)
      | ((with_reducible refine Split.mk (fun _ => ?_) (fun _ => ?_)) <;> conv => whnf)
      | ((with_reducible refine NilK.mk (fun _ => ?_) ?_) <;> conv => whnf)
      | ((with_reducible refine AltK.l ?_); (conv => whnf); (with_reducible refine Need.mk ?_ ?_); (first | omega | (refine ⟨?_, ?_⟩ <;> simp <;> omega) | (simp; omega)); conv => whnf)
      | ((with_reducible refine Need.mk ?_ ?_); (first | omega | rfl | decide | (refine ⟨?_, ?_⟩ <;> simp <;> omega) | (simp; omega)); conv => whnf)
      | ((with_reducible refine Wr.quo ?_ ?_ ?_ ?_); omega; omega; omega; conv => whnf)
      | ((with_reducible refine Wr.inr ?_ ?_); (first | omega | (simp; omega)); conv => whnf)
      | ((with_reducible refine Wr.inu ?_ ?_); omega; conv => whnf)
      | (exfalso; first | omega | contradiction))
    refine PickE.map (q + 1) hm (by omega) ?_
    conv => whnf
    repeat' (first
      | ((with_reducible refine Split.of_true ?_); conv => whnf)
      | ((with_reducible refine Split.of_false ?_); conv => whnf)
      | ((with_reducible refine Split.neg ?_))
      | ((with_reducible refine Split.is_true ?_ ?_); decide; conv => whnf)
      | ((with_reducible refine Split.is_false ?_ ?_); decide; conv => whnf)
      | ((with_reducible refine Split.nez (fun _ => ?_) (fun _ => ?_)) <;> conv => whnf)
      | ((with_reducible refine Split.eqz (fun _ => ?_) (fun _ => ?_)) <;> conv => whnf)
      | ((with_reducible refine Split.and ?_))
      | ((with_reducible refine Split.or ?_))
      | ((with_reducible refine Split.streq (fun _ => ?_) (fun _ => ?_)) <;> conv => whnf)
      | ((with_reducible refine Split.dec (fun _ => ?_) (fun _ => ?_)) <;> conv => whnf)
      | ((with_reducible refine Split.mk (fun _ => ?_) (fun _ => ?_)) <;> conv => whnf)
      | ((with_reducible refine NilK.mk (fun _ => ?_) ?_) <;> conv => whnf)
      | ((with_reducible refine AltK.l ?_); (conv => whnf); (with_reducible refine Need.mk ?_ ?_); (first | omega | (refine ⟨?_, ?_⟩ <;> simp <;> omega) | (simp; omega)); conv => whnf)
      | ((with_reducible refine Need.mk ?_ ?_); (first | omega | rfl | decide | (refine ⟨?_, ?_⟩ <;> simp <;> omega) | (simp; omega)); conv => whnf)
      | ((with_reducible refine Wr.quo ?_ ?_ ?_ ?_); omega; omega; omega; conv => whnf)
      | ((with_reducible refine Wr.inr ?_ ?_); (first | omega | (simp; omega)); conv => whnf)
      | ((with_reducible refine Wr.inu ?_ ?_); omega; conv => whnf)
      | (exfalso; first | omega | contradiction))
    simp only [retOf, meanAt, hm, hma, hbt, if_false, m3D]
end Go.Proofs.Try
end

section
namespace Go.Proofs.Try
open Go Go.Vm
set_option maxRecDepth 20000
set_option maxHeartbeats 2000000
def posF (l : List Mk) (t : Int) : Nat := (l.takeWhile fun m => decide (m.m < t)).length
theorem posF_le (l : List Mk) (t : Int) : posF l t ≤ l.length := (List.takeWhile_prefix _).length_le
theorem markErr_zero : ∀ (l : List Mk) (p : Option Mk), markErr p l = 0 → (∀ m ∈ l, wrongB m.m m.l = false) ∧ l.Pairwise (fun a b => a.m < b.m) ∧ ∀ q, p = some q → ∀ m ∈ l, q.m < m.m
  | [], p, _ => ⟨(fun m h => (by cases h)), .nil, (fun q _ m h => (by cases h))⟩
  | m :: r, p, h => by
    simp only [markErr] at h
    split at h
    · cases h
    · rename_i hw
      have hw : wrongB m.m m.l = false := by simpa using hw
      have key : markErr (some m) r = 0 ∧ ∀ q, p = some q → q.m < m.m := by
        cases p with
        | none => exact ⟨h, (fun q hq => (by cases hq))⟩
        | some q0 =>
          simp only at h
          split at h
          · cases h
          · rename_i hlt
            exact ⟨h, fun q hq => by cases hq; omega⟩
      obtain ⟨h1, h2, h3⟩ := markErr_zero r (some m) key.1
      refine ⟨fun x hx => ?_, List.pairwise_cons.2 ⟨h3 m rfl, h2⟩, fun q hq x hx => ?_⟩
      · cases hx with
        | head => exact hw
        | tail _ hx => exact h1 x hx
      · cases hx with
        | head => exact key.2 q hq
        | tail _ hx => have := key.2 q hq; have := h3 m rfl x hx; omega
theorem posF_spec {t : Int} : ∀ {l : List Mk}, l.Pairwise (fun a b => a.m < b.m) → ∀ (k : Nat) m, l[k]? = some m → (k < posF l t → m.m < t) ∧ (posF l t ≤ k → t ≤ m.m)
  | [], _, k, m, h => by simp at h
  | a :: r, hp, k, m, h => by
    obtain ⟨h1, h2⟩ := List.pairwise_cons.1 hp
    by_cases ha : a.m < t
    · have e : posF (a :: r) t = posF r t + 1 := by simp [posF, ha]
      rw [e]
      cases k with
      | zero => simp only [List.getElem?_cons_zero, Option.some.injEq] at h; subst h; exact ⟨fun _ => ha, fun h => by omega⟩
      | succ k =>
        have := posF_spec (t := t) h2 k m (by simpa using h)
        exact ⟨fun h => this.1 (by omega), fun h => this.2 (by omega)⟩
    · have e : posF (a :: r) t = 0 := by simp [posF, ha]
      rw [e]
      refine ⟨fun h => by omega, fun _ => ?_⟩
      cases k with
      | zero => simp only [List.getElem?_cons_zero, Option.some.injEq] at h; subst h; omega
      | succ k =>
        have := h1 m (List.mem_of_getElem? (i := k) (by simpa using h))
        omega
structure Good (g : Ga) : Prop where
  err : 0 ≤ g.err ∧ g.err ≤ 1000
  x : -1000000 ≤ g.x ∧ g.x ≤ 1000000
  len : g.marks.length ≤ 400
  ok : ∀ m ∈ g.marks, wrongB m.m m.l = false
  asc : g.marks.Pairwise fun a b => a.m < b.m
theorem wrongB_false {m : Mk} (h : wrongB m.m m.l = false) : 0 ≤ m.m ∧ m.m ≤ 1000000 ∧ -20000 ≤ m.l ∧ m.l ≤ 20000 := by
  simp only [wrongB, outsideB, Bool.or_eq_false_iff, decide_eq_false_iff_not] at h
  omega
theorem good_of_rec {g : Ga} (h : recErr g = 0) : Good g := by
  unfold recErr at h
  split at h
  · cases h
  · rename_i h1
    split at h
    · cases h
    · obtain ⟨a, b, -⟩ := markErr_zero _ _ h
      simp only [outsideB, Bool.or_eq_true, decide_eq_true_eq, not_or] at h1
      exact ⟨by omega, by omega, by omega, a, b⟩
theorem good_of {g : Ga} (h : gErr g = 0) : Good g := by
  unfold gErr at h
  split at h
  · exact good_of_rec h
  · cases h
def meanS (g : Ga) (t : Int) : Int × Int × Bool := meanAt g.marks (posF g.marks t) t
theorem ev_meanS {g : Ga} {t : Int} (h : Good g) (ht : 0 ≤ t ∧ t ≤ 1000000) : Ev Try.prog 65 [gD g, .int .i64 t] (m3D (meanS g t)) :=
  ev_mean g t _ h.len h.ok ht (posF_le _ _) (posF_spec h.asc)
theorem mean_bd {g : Ga} {t : Int} (h : Good g) : 0 < (meanS g t).2.1 ∧ (meanS g t).2.1 ≤ 1000000 ∧ -60000000000 ≤ (meanS g t).1 ∧ (meanS g t).1 ≤ 60000000000 := by
  have hp := posF_spec (t := t) h.asc
  unfold meanS
  generalize posF g.marks t = p at hp
  unfold meanAt
  split
  · rename_i b hb
    have wb := wrongB_false (h.ok b (List.mem_of_getElem? hb))
    split
    · simp only; omega
    · split
      · simp only; omega
      · rename_i q' q
        split
        · rename_i a ha
          have wa := wrongB_false (h.ok a (List.mem_of_getElem? ha))
          have h1 := (hp q a ha).1 (by omega)
          have h2 := (hp (q+1) b hb).2 (by omega)
          have e1 := mul_bd (x := a.l) (y := b.m - a.m) (X := 20000) (Y := 1000000) (by omega) (by omega)
          have e2 := mul_bd (x := b.l - a.l) (y := t - a.m) (X := 40000) (Y := 1000000) (by omega) (by omega)
          simp only
          omega
        · simp only; omega
  · simp only; omega
def ivD (lo hi : Int) : D := .agg [.int .i64 lo, .int .i64 hi]
def atS (g : Ga) (t : Int) : Int × Int × Bool := if (meanS g t).2.2 then ((meanS g t).1 / (meanS g t).2.1 - g.err, upZ (meanS g t).1 (meanS g t).2.1 + g.err, true) else (0, 0, false)
def at3D (x : Int × Int × Bool) : D := .tup [ivD x.1 x.2.1, .bool x.2.2]
theorem ev_at {g : Ga} {t : Int} (h : Good g) (ht : 0 ≤ t ∧ t ≤ 1000000) : Ev Try.prog 57 [gD g, .int .i64 t] (at3D (atS g t)) := by
  have hm := ev_meanS h ht
  have hb := mean_bd (t := t) h
  have he := h.err
  unfold atS
  generalize meanS g t = x at hm hb
  obtain ⟨n, d, ok⟩ := x
  dsimp only at hb ⊢
  have q1 := ediv_bd (a := n) (M := 60000000000) hb.1 (by omega)
  have q2 := ediv_bd (a := -n) (M := 60000000000) hb.1 (by omega)
  have d1 := ev_down n d hb.1 (by omega)
  have d2 := ev_up n d hb.1 (by omega)
  unfold upZ at d2 ⊢
  generalize n / d = u at *
  generalize -n / d = v at *
  refine ev_of_awp tysOk mixed (fn := Try.f57) Try.func57 rfl rfl rfl ?_
  conv => whnf
  repeat' (first
    | ((with_reducible refine Split.of_true ?_); conv => whnf)
    | ((with_reducible refine Split.of_false ?_); conv => whnf)
    | ((with_reducible refine Split.neg ?_))
    | ((with_reducible refine Split.is_true ?_ ?_); decide; conv => whnf)
    | ((with_reducible refine Split.is_false ?_ ?_); decide; conv => whnf)
    | ((with_reducible refine Split.nez (fun _ => ?_) (fun _ => ?_)) <;> conv => whnf)
    | ((with_reducible refine Split.eqz (fun _ => ?_) (fun _ => ?_)) <;> conv => whnf)
    | ((with_reducible refine Split.and ?_))
    | ((with_reducible refine Split.or ?_))
    | ((with_reducible refine Split.streq (fun _ => ?_) (fun _ => ?_)) <;> conv => whnf)
    | ((with_reducible refine Split.dec (fun _ => ?_) (fun _ => ?_)) <;> conv => whnf)
    | ((with_reducible refine Split.mk (fun _ => ?_) (fun _ => ?_)) <;> conv => whnf)
    | ((with_reducible refine NilK.mk (fun _ => ?_) ?_) <;> conv => whnf)
    | ((with_reducible refine AltK.l ?_); (conv => whnf); (with_reducible refine Need.mk ?_ ?_); (first | omega | (refine ⟨?_, ?_⟩ <;> simp <;> omega) | (simp; omega)); conv => whnf)
    | ((with_reducible refine Need.mk ?_ ?_); (first | omega | rfl | decide | (refine ⟨?_, ?_⟩ <;> simp <;> omega) | (simp; omega)); conv => whnf)
    | ((with_reducible refine Wr.quo ?_ ?_ ?_ ?_); omega; omega; omega; conv => whnf)
    | ((with_reducible refine Wr.inr ?_ ?_); (first | omega | (simp; omega)); conv => whnf)
    | ((with_reducible refine Wr.inu ?_ ?_); omega; conv => whnf)
    | ((with_reducible refine AltK.l ?_); (conv => whnf); (first | (refine CallK.mk _ (hm) ?_) | (refine CallK.mk _ (d1) ?_) | (refine CallK.mk _ (d2) ?_)); conv => whnf)
    | (exfalso; first | omega | contradiction))
  · have hok : ok = true := by assumption
    simp only [retOf, at3D, ivD, hok, if_true]
  · have hok : ok = false := by assumption
    simp only [retOf, at3D, ivD, hok, Bool.false_eq_true, if_false]
def At3D (x : Int × Int × Int) : D := .tup [ivD x.1 x.2.1, .int .i64 x.2.2]
theorem floor_facts {n d : Int} (hd : 0 < d) : (n / d) * d ≤ n ∧ n ≤ upZ n d * d ∧ upZ n d - n / d ≤ 1 := by
  have h1 := Int.ediv_mul_le n (Int.ne_of_gt hd)
  have h2 := Int.ediv_mul_le (-n) (Int.ne_of_gt hd)
  have h3 := Int.lt_ediv_add_one_mul_self n hd
  have h4 : -(n / d) - 1 ≤ -n / d := by
    refine (Int.le_ediv_iff_mul_le hd).2 ?_
    have e1 : (-(n / d) - 1) * d = -((n / d + 1) * d) := by rw [← Int.neg_mul]; congr 1; omega
    omega
  unfold upZ
  refine ⟨h1, ?_, by omega⟩
  rw [Int.neg_mul]
  omega
end Go.Proofs.Try
end

section
namespace Go.Proofs.Try
open Go Go.Vm
/-- Two fractions (or none) of one value. -/
def Fr : Option (Int × Int) → Option (Int × Int) → Prop
  | none, none => True
  | some (n, d), some (n', d') => 0 < d ∧ 0 < d' ∧ n * d' = n' * d
  | _, _ => False
theorem Fr.trans {a b c : Option (Int × Int)} (h1 : Fr a b) (h2 : Fr b c) : Fr a c := by
  match a, b, c, h1, h2 with
  | none, none, none, _, _ => trivial
  | some (n, d), some (n', d'), some (n'', d''), ⟨p1, p2, e1⟩, ⟨_, p3, e2⟩ =>
    refine ⟨p1, p3, ?_⟩
    have : (n * d'') * d' = (n'' * d) * d' := by grind
    exact Int.eq_of_mul_eq_mul_right (by omega) this
theorem markErr_of : ∀ {l : List Mk} {p : Option Mk}, (∀ m ∈ l, wrongB m.m m.l = false) → l.Pairwise (fun a b => a.m < b.m) → (∀ q, p = some q → ∀ m ∈ l, q.m < m.m) → markErr p l = 0
  | [], p, _, _, _ => by cases p <;> rfl
  | m :: r, p, h1, h2, h3 => by
    obtain ⟨k1, k2⟩ := List.pairwise_cons.1 h2
    have ih : markErr (some m) r = 0 := markErr_of (fun x hx => h1 x (by simp [hx])) k2 (fun q hq x hx => by cases hq; exact k1 x hx)
    simp only [markErr, h1 m (by simp), Bool.false_eq_true, if_false]
    cases p with
    | none => exact ih
    | some q =>
      have := h3 q rfl m (by simp)
      simp only
      rw [if_neg (by omega)]
      exact ih
end Go.Proofs.Try
end

section
/- TideSimple: its contract. -/
namespace Go.Proofs.Try
open Go Go.Vm
set_option maxRecDepth 20000
set_option maxHeartbeats 2000000
end Go.Proofs.Try
end

section
namespace Go.Proofs.Try
open Go Go.Vm
set_option maxRecDepth 20000
set_option maxHeartbeats 2000000
theorem take_snoc {α : Type} {l : List α} {i : Nat} {m : α} (h : l[i]? = some m) : l.take (i + 1) = l.take i ++ [m] := by
  rw [List.take_add_one, h]; rfl
end Go.Proofs.Try
end
