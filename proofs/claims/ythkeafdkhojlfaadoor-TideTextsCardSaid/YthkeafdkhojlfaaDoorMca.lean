/- Texts VmTbl TxA TxB TxC TxD LyIt LyAt LySp LyTp TxE TwA TwB TwC TwD TxF, joined; what is not needed is left out. -/
import Derived.Test.YthkeafdkhojlfaaDoorProg
import Derived.Test.YthkeafdkhojlfaaDoorMgH
import Derived.Test.YthkeafdkhojlfaaDoorMgI
import Derived.Shelf.Strings.Builder1
import Derived.Shelf.LaysM
import Derived.Shelf.LaysC
import Derived.Shelf.Lays
import Derived.Lib.ItoaLen
section
/- The types of the seat, as the evaluator looks them up (written by tbl.py). -/
namespace Go.Proofs.Tryd
open Go Go.Vm
def tbl : List (Nat × TI) := [
 (1, ⟨Go.TypeDesc.func { toList := [] } { toList := [] } Bool.false, 1, 8, [.junk]⟩),
 (2, ⟨Go.TypeDesc.int Go.IntKind.i64, 1, 8, [.d (.int .i64 0)]⟩),
 (3, ⟨Go.TypeDesc.int Go.IntKind.i64, 1, 8, [.d (.int .i64 0)]⟩),
 (4, ⟨Go.TypeDesc.bool, 1, 1, [.d (.bool false)]⟩),
 (5, ⟨Go.TypeDesc.int Go.IntKind.u8, 1, 1, [.d (.int .u8 0)]⟩),
 (6, ⟨Go.TypeDesc.int Go.IntKind.u8, 1, 1, [.d (.int .u8 0)]⟩),
 (7, ⟨Go.TypeDesc.struct { toList := [{ name := "x", type := 2, offset := 0, embedded := Bool.false, tag := "", pkgPath := "runtime", byteOffset := 0 }, { name := "y", type := 3, offset := 1, embedded := Bool.false, tag := "", pkgPath := "runtime", byteOffset := 8 }, { name := "signed", type := 4, offset := 2, embedded := Bool.false, tag := "", pkgPath := "runtime", byteOffset := 16 }, { name := "code", type := 6, offset := 3, embedded := Bool.false, tag := "", pkgPath := "runtime", byteOffset := 17 }] }, 4, 24, [.d (.int .i64 0), .d (.int .i64 0), .d (.bool false), .d (.int .u8 0)]⟩),
 (8, ⟨Go.TypeDesc.struct { toList := [{ name := "x", type := 2, offset := 0, embedded := Bool.false, tag := "", pkgPath := "runtime", byteOffset := 0 }, { name := "y", type := 3, offset := 1, embedded := Bool.false, tag := "", pkgPath := "runtime", byteOffset := 8 }, { name := "signed", type := 4, offset := 2, embedded := Bool.false, tag := "", pkgPath := "runtime", byteOffset := 16 }, { name := "code", type := 6, offset := 3, embedded := Bool.false, tag := "", pkgPath := "runtime", byteOffset := 17 }] }, 4, 24, [.d (.int .i64 0), .d (.int .i64 0), .d (.bool false), .d (.int .u8 0)]⟩),
 (9, ⟨Go.TypeDesc.string, 1, 16, [.d (.str ⟨⟨[]⟩⟩)]⟩),
 (10, ⟨Go.TypeDesc.string, 1, 16, [.d (.str ⟨⟨[]⟩⟩)]⟩),
 (11, ⟨Go.TypeDesc.string, 1, 16, [.d (.str ⟨⟨[]⟩⟩)]⟩),
 (12, ⟨Go.TypeDesc.int Go.IntKind.u64, 1, 8, [.d (.int .u64 0)]⟩),
 (15, ⟨Go.TypeDesc.pointer 116, 1, 8, [.d .np]⟩),
 (16, ⟨Go.TypeDesc.pointer 119, 1, 8, [.d .np]⟩),
 (17, ⟨Go.TypeDesc.pointer 127, 1, 8, [.d .np]⟩),
 (20, ⟨Go.TypeDesc.interface { toList := [] }, 1, 16, [.d (.ifc false)]⟩),
 (21, ⟨Go.TypeDesc.int Go.IntKind.i32, 1, 4, [.d (.int .i32 0)]⟩),
 (22, ⟨Go.TypeDesc.slice 47, 1, 24, [.nil 2]⟩),
 (23, ⟨Go.TypeDesc.struct { toList := [{ name := "Name", type := 9, offset := 0, embedded := Bool.false, tag := "", pkgPath := "", byteOffset := 0 }, { name := "X", type := 3, offset := 1, embedded := Bool.false, tag := "", pkgPath := "", byteOffset := 16 }, { name := "Error", type := 3, offset := 2, embedded := Bool.false, tag := "", pkgPath := "", byteOffset := 24 }, { name := "Marks", type := 22, offset := 3, embedded := Bool.false, tag := "", pkgPath := "", byteOffset := 32 }] }, 4, 56, [.d (.str ⟨⟨[]⟩⟩), .d (.int .i64 0), .d (.int .i64 0), .nil 2]⟩),
 (24, ⟨Go.TypeDesc.struct { toList := [{ name := "Name", type := 9, offset := 0, embedded := Bool.false, tag := "", pkgPath := "", byteOffset := 0 }, { name := "X", type := 3, offset := 1, embedded := Bool.false, tag := "", pkgPath := "", byteOffset := 16 }, { name := "Error", type := 3, offset := 2, embedded := Bool.false, tag := "", pkgPath := "", byteOffset := 24 }, { name := "Marks", type := 22, offset := 3, embedded := Bool.false, tag := "", pkgPath := "", byteOffset := 32 }] }, 4, 56, [.d (.str ⟨⟨[]⟩⟩), .d (.int .i64 0), .d (.int .i64 0), .nil 2]⟩),
 (25, ⟨Go.TypeDesc.func { toList := [] } { toList := [4] } Bool.false, 1, 8, [.junk]⟩),
 (26, ⟨Go.TypeDesc.func { toList := [24] } { toList := [4] } Bool.false, 1, 8, [.junk]⟩),
 (27, ⟨Go.TypeDesc.int Go.IntKind.i64, 1, 8, [.d (.int .i64 0)]⟩),
 (29, ⟨Go.TypeDesc.func { toList := [24] } { toList := [9, 27] } Bool.false, 1, 8, [.junk]⟩),
 (30, ⟨Go.TypeDesc.func { toList := [24] } { toList := [3] } Bool.false, 1, 8, [.junk]⟩),
 (31, ⟨Go.TypeDesc.func { toList := [24] } { toList := [27] } Bool.false, 1, 8, [.junk]⟩),
 (33, ⟨Go.TypeDesc.func { toList := [9] } { toList := [24, 3, 27] } Bool.false, 1, 8, [.junk]⟩),
 (34, ⟨Go.TypeDesc.func { toList := [24] } { toList := [9] } Bool.false, 1, 8, [.junk]⟩),
 (35, ⟨Go.TypeDesc.func { toList := [24, 24] } { toList := [4] } Bool.false, 1, 8, [.junk]⟩),
 (36, ⟨Go.TypeDesc.func { toList := [] } { toList := [24] } Bool.false, 1, 8, [.junk]⟩),
 (37, ⟨Go.TypeDesc.pointer 40, 1, 8, [.d .np]⟩),
 (38, ⟨Go.TypeDesc.slice 5, 1, 24, [.nil 1]⟩),
 (39, ⟨Go.TypeDesc.struct { toList := [{ name := "addr", type := 37, offset := 0, embedded := Bool.false, tag := "", pkgPath := "strings", byteOffset := 0 }, { name := "buf", type := 38, offset := 1, embedded := Bool.false, tag := "", pkgPath := "strings", byteOffset := 8 }] }, 2, 32, [.d .np, .nil 1]⟩),
 (40, ⟨Go.TypeDesc.struct { toList := [{ name := "addr", type := 37, offset := 0, embedded := Bool.false, tag := "", pkgPath := "strings", byteOffset := 0 }, { name := "buf", type := 38, offset := 1, embedded := Bool.false, tag := "", pkgPath := "strings", byteOffset := 8 }] }, 2, 32, [.d .np, .nil 1]⟩),
 (41, ⟨Go.TypeDesc.interface { toList := [("Error", 48)] }, 1, 16, [.d (.ifc false)]⟩),
 (42, ⟨Go.TypeDesc.interface { toList := [("Error", 48)] }, 1, 16, [.d (.ifc false)]⟩),
 (44, ⟨Go.TypeDesc.func { toList := [9] } { toList := [3, 42] } Bool.false, 1, 8, [.junk]⟩),
 (45, ⟨Go.TypeDesc.func { toList := [3] } { toList := [9] } Bool.false, 1, 8, [.junk]⟩),
 (46, ⟨Go.TypeDesc.struct { toList := [{ name := "Minute", type := 3, offset := 0, embedded := Bool.false, tag := "", pkgPath := "", byteOffset := 0 }, { name := "Level", type := 3, offset := 1, embedded := Bool.false, tag := "", pkgPath := "", byteOffset := 8 }] }, 2, 16, [.d (.int .i64 0), .d (.int .i64 0)]⟩),
 (47, ⟨Go.TypeDesc.struct { toList := [{ name := "Minute", type := 3, offset := 0, embedded := Bool.false, tag := "", pkgPath := "", byteOffset := 0 }, { name := "Level", type := 3, offset := 1, embedded := Bool.false, tag := "", pkgPath := "", byteOffset := 8 }] }, 2, 16, [.d (.int .i64 0), .d (.int .i64 0)]⟩),
 (48, ⟨Go.TypeDesc.func { toList := [] } { toList := [9] } Bool.false, 1, 8, [.junk]⟩),
 (49, ⟨Go.TypeDesc.func { toList := [9] } { toList := [4] } Bool.false, 1, 8, [.junk]⟩),
 (50, ⟨Go.TypeDesc.slice 9, 1, 24, [.nil 1]⟩),
 (51, ⟨Go.TypeDesc.func { toList := [9, 9] } { toList := [50] } Bool.false, 1, 8, [.junk]⟩),
 (52, ⟨Go.TypeDesc.array 2 3, 2, 16, [.d (.int .i64 0), .d (.int .i64 0)]⟩),
 (54, ⟨Go.TypeDesc.func { toList := [50] } { toList := [52, 4] } Bool.false, 1, 8, [.junk]⟩),
 (55, ⟨Go.TypeDesc.func { toList := [56, 56] } { toList := [4] } Bool.false, 1, 8, [.junk]⟩),
 (56, ⟨Go.TypeDesc.slice 24, 1, 24, [.nil 4]⟩),
 (57, ⟨Go.TypeDesc.pointer 5, 1, 8, [.d .np]⟩),
 (58, ⟨Go.TypeDesc.func { toList := [3, 3, 3] } { toList := [4] } Bool.false, 1, 8, [.junk]⟩),
 (59, ⟨Go.TypeDesc.func { toList := [47] } { toList := [3] } Bool.false, 1, 8, [.junk]⟩),
 (60, ⟨Go.TypeDesc.func { toList := [47] } { toList := [4] } Bool.false, 1, 8, [.junk]⟩),
 (61, ⟨Go.TypeDesc.func { toList := [9, 9, 3, 3] } { toList := [50] } Bool.false, 1, 8, [.junk]⟩),
 (63, ⟨Go.TypeDesc.func { toList := [9] } { toList := [3, 4] } Bool.false, 1, 8, [.junk]⟩),
 (65, ⟨Go.TypeDesc.func { toList := [64] } { toList := [64] } Bool.false, 1, 8, [.junk]⟩),
 (66, ⟨Go.TypeDesc.func { toList := [2, 3] } { toList := [9] } Bool.false, 1, 8, [.junk]⟩),
 (67, ⟨Go.TypeDesc.func { toList := [9, 3] } { toList := [50] } Bool.false, 1, 8, [.junk]⟩),
 (68, ⟨Go.TypeDesc.func { toList := [9, 9] } { toList := [3] } Bool.false, 1, 8, [.junk]⟩),
 (69, ⟨Go.TypeDesc.func { toList := [9, 9] } { toList := [9] } Bool.false, 1, 8, [.junk]⟩),
 (70, ⟨Go.TypeDesc.array 24 5, 24, 24, [.d (.int .u8 0), .d (.int .u8 0), .d (.int .u8 0), .d (.int .u8 0), .d (.int .u8 0), .d (.int .u8 0), .d (.int .u8 0), .d (.int .u8 0), .d (.int .u8 0), .d (.int .u8 0), .d (.int .u8 0), .d (.int .u8 0), .d (.int .u8 0), .d (.int .u8 0), .d (.int .u8 0), .d (.int .u8 0), .d (.int .u8 0), .d (.int .u8 0), .d (.int .u8 0), .d (.int .u8 0), .d (.int .u8 0), .d (.int .u8 0), .d (.int .u8 0), .d (.int .u8 0)]⟩),
 (71, ⟨Go.TypeDesc.int Go.IntKind.u64, 1, 8, [.d (.int .u64 0)]⟩),
 (72, ⟨Go.TypeDesc.func { toList := [71] } { toList := [3] } Bool.false, 1, 8, [.junk]⟩),
 (73, ⟨Go.TypeDesc.func { toList := [38, 71] } { toList := [] } Bool.false, 1, 8, [.junk]⟩),
 (75, ⟨Go.TypeDesc.func { toList := [38, 71, 3, 4, 4] } { toList := [38, 9] } Bool.false, 1, 8, [.junk]⟩),
 (76, ⟨Go.TypeDesc.func { toList := [9] } { toList := [3] } Bool.false, 1, 8, [.junk]⟩),
 (78, ⟨Go.TypeDesc.func { toList := [9] } { toList := [21, 3] } Bool.false, 1, 8, [.junk]⟩),
 (79, ⟨Go.TypeDesc.func { toList := [9, 5] } { toList := [3] } Bool.false, 1, 8, [.junk]⟩),
 (80, ⟨Go.TypeDesc.func { toList := [9, 9, 3, 3, 42] } { toList := [42] } Bool.false, 1, 8, [.junk]⟩),
 (81, ⟨Go.TypeDesc.func { toList := [3] } { toList := [3] } Bool.false, 1, 8, [.junk]⟩),
 (82, ⟨Go.TypeDesc.func { toList := [4] } { toList := [3] } Bool.false, 1, 8, [.junk]⟩),
 (83, ⟨Go.TypeDesc.array 20 71, 20, 160, [.d (.int .u64 0), .d (.int .u64 0), .d (.int .u64 0), .d (.int .u64 0), .d (.int .u64 0), .d (.int .u64 0), .d (.int .u64 0), .d (.int .u64 0), .d (.int .u64 0), .d (.int .u64 0), .d (.int .u64 0), .d (.int .u64 0), .d (.int .u64 0), .d (.int .u64 0), .d (.int .u64 0), .d (.int .u64 0), .d (.int .u64 0), .d (.int .u64 0), .d (.int .u64 0), .d (.int .u64 0)]⟩),
 (84, ⟨Go.TypeDesc.int Go.IntKind.u32, 1, 4, [.d (.int .u32 0)]⟩),
 (86, ⟨Go.TypeDesc.func { toList := [3] } { toList := [4] } Bool.false, 1, 8, [.junk]⟩),
 (87, ⟨Go.TypeDesc.int Go.IntKind.u64, 1, 8, [.d (.int .u64 0)]⟩),
 (88, ⟨Go.TypeDesc.func { toList := [87] } { toList := [3] } Bool.false, 1, 8, [.junk]⟩),
 (89, ⟨Go.TypeDesc.int Go.IntKind.i64, 1, 8, [.d (.int .i64 0)]⟩),
 (91, ⟨Go.TypeDesc.func { toList := [9, 3, 3] } { toList := [2, 42] } Bool.false, 1, 8, [.junk]⟩),
 (92, ⟨Go.TypeDesc.pointer 107, 1, 8, [.d .np]⟩),
 (93, ⟨Go.TypeDesc.func { toList := [9, 9] } { toList := [92] } Bool.false, 1, 8, [.junk]⟩),
 (94, ⟨Go.TypeDesc.func { toList := [9, 9, 3] } { toList := [92] } Bool.false, 1, 8, [.junk]⟩),
 (95, ⟨Go.TypeDesc.func { toList := [9, 9] } { toList := [4] } Bool.false, 1, 8, [.junk]⟩),
 (96, ⟨Go.TypeDesc.func { toList := [84] } { toList := [3] } Bool.false, 1, 8, [.junk]⟩),
 (98, ⟨Go.TypeDesc.struct { toList := [{ name := "lo", type := 5, offset := 0, embedded := Bool.false, tag := "", pkgPath := "unicode/utf8", byteOffset := 0 }, { name := "hi", type := 5, offset := 1, embedded := Bool.false, tag := "", pkgPath := "unicode/utf8", byteOffset := 1 }] }, 2, 2, [.d (.int .u8 0), .d (.int .u8 0)]⟩),
 (99, ⟨Go.TypeDesc.struct { toList := [{ name := "lo", type := 5, offset := 0, embedded := Bool.false, tag := "", pkgPath := "unicode/utf8", byteOffset := 0 }, { name := "hi", type := 5, offset := 1, embedded := Bool.false, tag := "", pkgPath := "unicode/utf8", byteOffset := 1 }] }, 2, 2, [.d (.int .u8 0), .d (.int .u8 0)]⟩),
 (100, ⟨Go.TypeDesc.array 16 99, 32, 32, [.d (.int .u8 0), .d (.int .u8 0), .d (.int .u8 0), .d (.int .u8 0), .d (.int .u8 0), .d (.int .u8 0), .d (.int .u8 0), .d (.int .u8 0), .d (.int .u8 0), .d (.int .u8 0), .d (.int .u8 0), .d (.int .u8 0), .d (.int .u8 0), .d (.int .u8 0), .d (.int .u8 0), .d (.int .u8 0), .d (.int .u8 0), .d (.int .u8 0), .d (.int .u8 0), .d (.int .u8 0), .d (.int .u8 0), .d (.int .u8 0), .d (.int .u8 0), .d (.int .u8 0), .d (.int .u8 0), .d (.int .u8 0), .d (.int .u8 0), .d (.int .u8 0), .d (.int .u8 0), .d (.int .u8 0), .d (.int .u8 0), .d (.int .u8 0)]⟩),
 (102, ⟨Go.TypeDesc.func { toList := [9] } { toList := [84, 84] } Bool.false, 1, 8, [.junk]⟩),
 (104, ⟨Go.TypeDesc.func { toList := [9, 3, 3] } { toList := [71, 42] } Bool.false, 1, 8, [.junk]⟩),
 (105, ⟨Go.TypeDesc.func { toList := [9] } { toList := [9] } Bool.false, 1, 8, [.junk]⟩),
 (106, ⟨Go.TypeDesc.struct { toList := [{ name := "Func", type := 9, offset := 0, embedded := Bool.false, tag := "", pkgPath := "", byteOffset := 0 }, { name := "Num", type := 9, offset := 1, embedded := Bool.false, tag := "", pkgPath := "", byteOffset := 16 }, { name := "Err", type := 42, offset := 2, embedded := Bool.false, tag := "", pkgPath := "", byteOffset := 32 }] }, 3, 48, [.d (.str ⟨⟨[]⟩⟩), .d (.str ⟨⟨[]⟩⟩), .d (.ifc false)]⟩),
 (107, ⟨Go.TypeDesc.struct { toList := [{ name := "Func", type := 9, offset := 0, embedded := Bool.false, tag := "", pkgPath := "", byteOffset := 0 }, { name := "Num", type := 9, offset := 1, embedded := Bool.false, tag := "", pkgPath := "", byteOffset := 16 }, { name := "Err", type := 42, offset := 2, embedded := Bool.false, tag := "", pkgPath := "", byteOffset := 32 }] }, 3, 48, [.d (.str ⟨⟨[]⟩⟩), .d (.str ⟨⟨[]⟩⟩), .d (.ifc false)]⟩),
 (108, ⟨Go.TypeDesc.func { toList := [9] } { toList := [42] } Bool.false, 1, 8, [.junk]⟩),
 (109, ⟨Go.TypeDesc.array 32 5, 32, 32, [.d (.int .u8 0), .d (.int .u8 0), .d (.int .u8 0), .d (.int .u8 0), .d (.int .u8 0), .d (.int .u8 0), .d (.int .u8 0), .d (.int .u8 0), .d (.int .u8 0), .d (.int .u8 0), .d (.int .u8 0), .d (.int .u8 0), .d (.int .u8 0), .d (.int .u8 0), .d (.int .u8 0), .d (.int .u8 0), .d (.int .u8 0), .d (.int .u8 0), .d (.int .u8 0), .d (.int .u8 0), .d (.int .u8 0), .d (.int .u8 0), .d (.int .u8 0), .d (.int .u8 0), .d (.int .u8 0), .d (.int .u8 0), .d (.int .u8 0), .d (.int .u8 0), .d (.int .u8 0), .d (.int .u8 0), .d (.int .u8 0), .d (.int .u8 0)]⟩),
 (111, ⟨Go.TypeDesc.func { toList := [5] } { toList := [5] } Bool.false, 1, 8, [.junk]⟩),
 (112, ⟨Go.TypeDesc.pointer 114, 1, 8, [.d .np]⟩),
 (113, ⟨Go.TypeDesc.struct { toList := [{ name := "s", type := 9, offset := 0, embedded := Bool.false, tag := "", pkgPath := "errors", byteOffset := 0 }] }, 1, 16, [.d (.str ⟨⟨[]⟩⟩)]⟩),
 (114, ⟨Go.TypeDesc.struct { toList := [{ name := "s", type := 9, offset := 0, embedded := Bool.false, tag := "", pkgPath := "errors", byteOffset := 0 }] }, 1, 16, [.d (.str ⟨⟨[]⟩⟩)]⟩),
 (117, ⟨Go.TypeDesc.array 0 16, 0, 0, []⟩),
 (120, ⟨Go.TypeDesc.func { toList := [] } { toList := [3] } Bool.false, 1, 8, [.junk]⟩),
 (121, ⟨Go.TypeDesc.int Go.IntKind.u8, 1, 1, [.d (.int .u8 0)]⟩),
 (122, ⟨Go.TypeDesc.int Go.IntKind.u8, 1, 1, [.d (.int .u8 0)]⟩),
 (123, ⟨Go.TypeDesc.func { toList := [64, 64] } { toList := [4] } Bool.false, 1, 8, [.junk]⟩),
 (124, ⟨Go.TypeDesc.int Go.IntKind.i32, 1, 4, [.d (.int .i32 0)]⟩),
 (125, ⟨Go.TypeDesc.int Go.IntKind.i32, 1, 4, [.d (.int .i32 0)]⟩)]
def S : Tys := lk tbl
theorem tysOk : TysOk Tryd.prog S := tysOk_of tbl (by kernel_rfl) (by kernel_rfl) (by kernel_rfl)
theorem mixed : Tryd.prog.follows .mixedOrders = true := by kernel_rfl
end Go.Proofs.Tryd
end

section
namespace Go.Proofs.Tryd
open Go Go.Vm
open Go.RowKit (Below)
set_option maxRecDepth 100000
set_option maxHeartbeats 4000000
/-! strings.Builder: copyCheck, WriteString, String, walked once. -/
theorem bld_size : (Tryd.prog.info? 40).map (·.size) = some 2 := by kernel_rfl
theorem bld_lies : liesAt Tryd.prog Tryd.prog.depth 40 (2 / Tryd.prog.cellsOf 40) 0 40 1 = true := by kernel_rfl
theorem byt_info : (Tryd.prog.info? 5).map (fun i => (i.zero, i.size, i.bytes)) = some (some (.int .u8 0), 1, 1) := by kernel_rfl
theorem byt_cells : Tryd.prog.cellsOf 5 = 1 := by kernel_rfl
theorem cc_used (b : Nat) (x : Value) (w : World) (hb : w.heap[b]? = some (.cells #[.pointer (some ⟨b, 0, none⟩), x] 40 (0, 0))) :
 Calls Tryd.prog 24 #[.pointer (some ⟨b, 0, none⟩)] w fun e w' => e = .returned (.tuple #[]) ∧ w' = w := by
 obtain ⟨j, hj, _⟩ := Option.map_eq_some_iff.1 bld_size
 have h0 : w.cell? ⟨b, 0, none⟩ = some (.pointer (some ⟨b, 0, none⟩)) := by rw [cell_of_row w b 0 _ _ _ hb]; rfl
 go_enter Tryd.func24, Tryd.ntmps24
 go_wp2
 rw [Lib.run_neq_ptr_same w _ Tryd.underlying37 hj]
 go_wp2
 go_end0
 exact ⟨rfl, rfl⟩
theorem cc_fresh (b : Nat) (x : Value) (w : World) (hb : w.heap[b]? = some (.cells #[.pointer none, x] 40 (0, 0))) :
 Calls Tryd.prog 24 #[.pointer (some ⟨b, 0, none⟩)] w fun e w' => e = .returned (.tuple #[]) ∧ w' = w.setCell ⟨b, 0, none⟩ (.pointer (some ⟨b, 0, none⟩)) := by
 obtain ⟨j, hj, hjs⟩ := Option.map_eq_some_iff.1 bld_size
 have h0 : w.cell? ⟨b, 0, none⟩ = some (.pointer none) := by rw [cell_of_row w b 0 _ _ _ hb]; rfl
 have hsh : w.shape? b = some (40, 2) := by simp [World.shape?, hb]
 have hfz : w.frozen? ⟨b, 0, none⟩ = false := by simp [World.frozen?, hb]
 go_enter Tryd.func24, Tryd.ntmps24
 go_wp2
 rw [Lib.run_to_unsafe w ⟨b, 0, none⟩ Tryd.underlying37 Tryd.underlying64 hj (by rw [hjs]; decide) hsh (Nat.zero_lt_succ 1)]
 simp only [Result.andThen]
 rw [Oper.upon_value]
 go_wp2
 rw [run_callFunc_extern Tryd.func32 (by kernel_rfl) (by kernel_rfl) (by kernel_rfl) (e := Extern.AbiNoEscape.same) (by kernel_rfl)]
 rw [Lib.run_noEscape]
 simp only [Result.andThen]
 rw [Oper.upon_value]
 go_wp2
 rw [Lib.run_from_unsafe w ⟨b, 0, none⟩ Tryd.underlying64 Tryd.underlying37 hj hsh bld_lies]
 simp only [Result.andThen]
 rw [Oper.upon_value]
 go_wp2
 go_end0
 exact ⟨rfl, rfl⟩
end Go.Proofs.Tryd
end

section
namespace Go.Proofs.Tryd
open Go Go.Vm
open Go.RowKit (Below)
set_option maxRecDepth 100000
set_option maxHeartbeats 4000000
structure BlKept (w w' : World) (b : Nat) (v : Value) : Prop where
 os : w'.os = w.os
 tape : w'.tape = w.tape
 output : w'.output = w.output
 size : w.heap.size ≤ w'.heap.size
 same : ∀ k, k < w.heap.size → k ≠ b → v.ownBlock ≠ some k → w'.heap[k]? = w.heap[k]?
theorem row_to {w w' : World} {B e sz n : Nat} {v : Value} {xs : List Value} (h : w.ownsRow B e sz v n xs) (hk : ∀ g, v.ownBlock = some g → w'.heap[g]? = w.heap[g]?) : w'.ownsRow B e sz v n xs := ownsRow_world h hk
theorem row_lt {w : World} {B e sz n : Nat} {v : Value} {xs : List Value} (h : w.ownsRow B e sz v n xs) {g : Nat} (hg : v.ownBlock = some g) : g < w.heap.size ∧ B ≤ g := by
 rcases h.2 with ⟨rfl, _⟩ | ⟨g', cap, cur, rfl, h1, h2, _⟩
 ·cases hg
 ·cases hg
  exact ⟨(Array.getElem?_eq_some_iff.1 h2).1, h1⟩
theorem row_slice {w : World} {B e sz n : Nat} {v : Value} {xs : List Value} (h : w.ownsRow B e sz v n xs) : ∃ a c, v = .slice a n c := by
 rcases h.2 with ⟨rfl, rfl⟩ | ⟨g', cap, cur, rfl, _⟩
 ·exact ⟨_, _, rfl⟩
 ·exact ⟨_, _, rfl⟩
theorem setCell_heap {W : World} {g o : Nat} {C : Array Value} {t : TypeId} {fr : Nat × Nat} (v : Value) (h : W.heap[g]? = some (.cells C t fr)) : (W.setCell ⟨g, o, none⟩ v).heap[g]? = some (.cells (C.setIfInBounds o v) t fr) := by
 obtain ⟨hlt, hk⟩ := Array.getElem?_eq_some_iff.1 h
 show (W.heap.modify g _)[g]? = _
 rw [Array.getElem?_eq_getElem (by rw [Array.size_modify]; exact hlt), Array.getElem_modify_self, hk]
 rfl
theorem setCell_other {W : World} {g o k : Nat} (v : Value) (h : k ≠ g) : (W.setCell ⟨g, o, none⟩ v).heap[k]? = W.heap[k]? := RowKit.Below.heap_setCell W _ v k h
theorem setCell_size {W : World} {g o : Nat} (v : Value) : (W.setCell ⟨g, o, none⟩ v).heap.size = W.heap.size := by
 show (W.heap.modify g _).size = _
 rw [Array.size_modify]
theorem cc_any (b : Nat) (p v : Value) (w : World) (hb : w.heap[b]? = some (.cells #[p, v] 40 (0, 0))) (hp : p = .pointer none ∨ p = .pointer (some ⟨b, 0, none⟩)) :
 Calls Tryd.prog 24 #[.pointer (some ⟨b, 0, none⟩)] w fun e w' => e = .returned (.tuple #[]) ∧ w'.heap[b]? = some (.cells #[.pointer (some ⟨b, 0, none⟩), v] 40 (0, 0)) ∧
  w'.os = w.os ∧ w'.tape = w.tape ∧ w'.output = w.output ∧ w'.heap.size = w.heap.size ∧ ∀ k, k ≠ b → w'.heap[k]? = w.heap[k]? := by
 rcases hp with rfl | rfl
 ·refine (cc_fresh b v w hb).mono fun e w' he => ?_
  obtain ⟨rfl, rfl⟩ := he
  exact ⟨rfl, setCell_heap _ hb, rfl, rfl, rfl, setCell_size _, fun k hk => setCell_other _ hk⟩
 ·refine (cc_used b v w hb).mono fun e w' he => ?_
  obtain ⟨rfl, rfl⟩ := he
  exact ⟨rfl, hb, rfl, rfl, rfl, rfl, fun _ _ => rfl⟩
theorem ws_walk (B b n : Nat) (p v : Value) (xs : List Value) (s : ByteArray) (w : World) (hb : w.heap[b]? = some (.cells #[p, v] 40 (0, 0))) (hp : p = .pointer none ∨ p = .pointer (some ⟨b, 0, none⟩))
 (hown : w.ownsRow B 5 1 v n xs) (hne : v.ownBlock ≠ some b) (hlen : n + s.size ≤ 140737488355328) (hB : B ≤ w.heap.size) :
 Calls Tryd.prog 13 #[.pointer (some ⟨b, 0, none⟩), .string s] w fun e w' => e = .returned (.tuple #[.int .i64 s.size, .nilIface]) ∧ BlKept w w' b v ∧
  ∃ v', w'.heap[b]? = some (.cells #[.pointer (some ⟨b, 0, none⟩), v'] 40 (0, 0)) ∧ w'.ownsRow B 5 1 v' (n + s.size) (xs ++ Lib.strCells s) ∧
   (v'.ownBlock = v.ownBlock ∨ v'.ownBlock = some w.heap.size) := by
 obtain ⟨i0, hi, hz0, hz1, hz2⟩ : ∃ i, Tryd.prog.info? 5 = some i ∧ i.zero = some (.int .u8 0) ∧ i.size = 1 ∧ i.bytes = 1 := by
  obtain ⟨i, h1, h2⟩ := Option.map_eq_some_iff.1 byt_info
  simp only [Prod.mk.injEq] at h2
  exact ⟨i, h1, h2.1, h2.2.1, h2.2.2⟩
 have hblt : b < w.heap.size := (Array.getElem?_eq_some_iff.1 hb).1
 go_enter Tryd.func13, Tryd.ntmps13
 go_wp2_with (go_at_call 24; refine (cc_any b p v _ hb hp).mono ?_)
 rintro e w1 ⟨rfl, h1, h2, h3, h4, h5, h6⟩
 have hown1 : w1.ownsRow B 5 1 v n xs := row_to hown fun g hg => h6 g fun e => hne (by rw [hg, e])
 have c0 : w1.cell? ⟨b, 0, none⟩ = some (.pointer (some ⟨b, 0, none⟩)) := by rw [Lib.cell_of_heap h1]; rfl
 have c1 : w1.cell? ⟨b, 1, none⟩ = some v := by rw [Lib.cell_of_heap h1]; rfl
 go_wp2_with (at_builtin; refine wp_append_str rfl _ _ 38 9 rfl B 5 i0 Tryd.underlying38 Tryd.underlying9 hi hz0 hz1 hz2 _ _ _ rfl hown1 s rfl ?c4 ?c5 ?_)
 case c4 => exact hlen
 case c5 => omega
 intro v' w2 hown' hgrow hor
 have hb2 : w2.heap[b]? = some (.cells #[.pointer (some ⟨b, 0, none⟩), v] 40 (0, 0)) := by
  rw [hgrow.block b (by omega) (fun e => hne e.symm)]
  exact h1
 have d0 : w2.cell? ⟨b, 0, none⟩ = some (.pointer (some ⟨b, 0, none⟩)) := by rw [Lib.cell_of_heap hb2]; rfl
 have d1 : w2.cell? ⟨b, 1, none⟩ = some v := by rw [Lib.cell_of_heap hb2]; rfl
 have f1 : w2.frozen? ⟨b, 1, none⟩ = false := Lib.frozen_of_heap hb2 1
 have hne' : v'.ownBlock ≠ some b := by
  rcases hor with h | ⟨h, -⟩
  ·rw [h]; exact hne
  ·rw [h]; intro e; cases e; omega
 obtain ⟨ao, cap, rfl⟩ := row_slice hown'
 go_wp2
 go_ret2
 have hgs := hgrow.size
 refine ⟨rfl, ⟨hgrow.os.trans h2, hgrow.tape.trans h3, hgrow.output.trans h4, by rw [setCell_size]; omega, fun k hk hkb hkv => ?_⟩, .slice ao (n + s.size) cap, setCell_heap _ hb2, row_to hown' fun g hg => setCell_other _ fun e => hne' (by rw [hg, e]), ?_⟩
 ·rw [setCell_other _ hkb, hgrow.block k (by omega) (fun e => hkv e.symm)]
  exact h6 k hkb
 ·rcases hor with h | ⟨h, -⟩
  ·exact .inl h
  ·exact .inr (by first | exact h | rw [h, h5])
end Go.Proofs.Tryd
end

section
namespace Go.Proofs.Tryd
open Go Go.Vm
open Go.RowKit (Below)
set_option maxRecDepth 100000
set_option maxHeartbeats 4000000
theorem ba_app (t s : ByteArray) : (t ++ s).data.toList = t.data.toList ++ s.data.toList := by simp [ByteArray.data_append]
theorem bytV_app (t s : ByteArray) : bytV (t ++ s) = bytV t ++ Lib.strCells s := by simp [bytV, Lib.strCells]
theorem lk_one {b b' : Nat} {x y : Bx} (h : lk [(b, x)] b' = some y) : b' = b ∧ y = x := by
 rw [lk_c] at h
 split at h
 ·rename_i e; cases h; exact ⟨e, rfl⟩
 ·cases h
theorem xv_ws (v : Nat) (t s : ByteArray) (h : t.size + s.size ≤ 140737488355328) : EvX Tryd.prog 13 [.ptr 1000 0, .d (.str s)] [(1000, .bld v 40 5 t)] (.tup [.d (.int .i64 s.size), .d (.ifc false)]) [(1000, .bld (v + 1) 40 5 (t ++ s))] := by
 refine ⟨⟨_, Tryd.func13, rfl, rfl⟩, fun B0 w A L vals hB0 hg hA hsz hreps hmen hH => ?_⟩
 obtain ⟨v1, v2, rfl⟩ := vals2 hsz rfl
 have r1 := hreps 0 _ v1 rfl rfl
 have r2 := hreps 1 _ v2 rfl rfl
 cases r1
 cases r2 with
 | d r2 =>
 cases r2
 have hl : lk [(1000, Bx.bld v 40 5 t)] 1000 = some (.bld v 40 5 t) := by rw [lk_c, if_pos rfl]
 obtain ⟨q1, ⟨p, q2, q3⟩, q4, q5, q6⟩ := hH.br 1000 _ hl
 have hclm : ∀ {g}, own L 1000 (.bld v 40 5 t) g → claims L [(1000, Bx.bld v 40 5 t)] g := fun ho => ⟨1000, _, hl, ho⟩
 refine (ws_walk B0 (L.ι 1000) t.size p (L.sub 1000 v 0) (bytV t) s w q2 q3 q4 q5 h hB0).mono ?_
 rintro e w' ⟨rfl, hk, v', k1, k2, k3⟩
 let L' : Lay := { L with sub := upd L.sub 1000 (upd (L.sub 1000) (v + 1) fun _ => v'), top := upd L.top 1000 (v + 1) }
 have s1 : L'.sub 1000 (v + 1) 0 = v' := by simp only [L', upd_same]
 have s2 : L'.top 1000 = v + 1 := by show upd L.top 1000 (v + 1) 1000 = v + 1; exact upd_same _ _ _
 have hAk : ∀ g o, A g o → w'.heap[g]? = w.heap[g]? := fun g o ha => hk.same g (hA g o ha) (fun e => q6 g (.inl e) o ha) (fun e => q6 g (.inr e) o ha)
 have hown : ∀ g, own L' 1000 (.bld (v + 1) 40 5 (t ++ s)) g → own L 1000 (.bld v 40 5 t) g ∨ g = w.heap.size := by
  rintro g (hg | hg)
  ·exact .inl (.inl hg)
  ·rw [s1] at hg
   rcases k3 with e | e
   ·exact .inl (.inr (by rw [← e]; exact hg))
   ·rw [e] at hg; cases hg; exact .inr rfl
 have hlo : ∀ g, own L 1000 (.bld v 40 5 t) g → B0 ≤ g ∧ g < w.heap.size := fun g hg => hH.lo 1000 _ g hl hg
 have hnb : v'.ownBlock ≠ some (L.ι 1000) := by
  rcases k3 with e | e
  ·rw [e]; exact q5
  ·rw [e]; intro h
   have := (hlo _ (.inl rfl)).2
   have h2 := Option.some.inj h
   omega
 refine ⟨_, A, L', rfl, .tup rfl fun j c u hc hu => ?_, hk.os, ⟨hk.tape, trivial⟩, hk.output, hk.size, fun k hks hn => hk.same k hks (fun e => hn (hclm (.inl e))) (fun e => hn (hclm (.inr e))), fun _ _ h => h,
  fun g o ha => World.cell?_of_block (w := w) (hAk g o ha), fun g o ha => Nat.lt_of_lt_of_le (hA g o ha) hk.size, fun g o ha => .inl ha, ⟨fun b x hx => ?_, fun b x g hx ho => ?_, fun b b' x x' g hx hx' _ _ => ?_, fun b x b' hx hm => ?_⟩,
  fun g hg => ?_, fun b hb hb' => ?_, fun b hb => by cases hb⟩
 ·match j with
  | 0 => cases hc; cases hu; exact .d (.int _ _)
  | 1 => cases hc; cases hu; exact .d .ifcN
  | j + 2 => simp at hc
 ·obtain ⟨rfl, rfl⟩ := lk_one hx
  refine ⟨s2.symm, ⟨_, by rw [s1]; exact k1, .inr rfl⟩, ?_, by rw [s1]; exact hnb, fun g ho o ha => ?_⟩
  ·rw [s1, bytV_app, ByteArray.size_append]; exact k2
  ·rcases hown g ho with h1 | h1
   ·exact q6 g h1 o ha
   ·have := hA g o ha; omega
 ·obtain ⟨rfl, rfl⟩ := lk_one hx
  have hs := hk.size
  rcases hown g ho with h1 | h1
  ·have := hlo g h1; omega
  ·subst h1
   refine ⟨hB0, ?_⟩
   rcases ho with ho | ho
   ·have := (hlo _ (.inl ho)).2; omega
   ·rw [s1] at ho; exact (row_lt k2 ho).1
 ·rw [(lk_one hx).1, (lk_one hx').1]
 ·obtain ⟨rfl, rfl⟩ := lk_one hx; cases hm
 ·obtain ⟨b, x, hx, ho⟩ := hg
  obtain ⟨rfl, rfl⟩ := lk_one hx
  rcases hown g ho with h1 | h1
  ·exact .inr (hclm h1)
  ·exact .inl (by omega)
 ·by_cases e : b = 1000
  ·subst e
   refine ⟨rfl, rfl, by rw [s2, ← q1]; exact Nat.le_succ _, fun v0 hv0 i => ?_⟩
   have : v0 ≠ v + 1 := by omega
   simp only [L', upd_same]
   rw [upd_ne _ _ this]
  ·exact absurd (show lk [(1000, Bx.bld v 40 5 t)] b = none by rw [lk_c, if_neg e]; rfl) hb
end Go.Proofs.Tryd
end

section
namespace Go.Proofs.Tryd
open Go Go.Vm
open Go.RowKit (Below)
set_option maxRecDepth 100000
set_option maxHeartbeats 4000000
theorem kept_freeze (w : World) (b g n : Nat) (cap : Nat) : BlKept w (w.drew.freeze ⟨g, 0, none⟩ n) b (.slice (some ⟨g, 0, none⟩) n cap) := by
 unfold World.freeze
 split
 ·exact ⟨rfl, rfl, rfl, Nat.le_refl _, fun _ _ _ _ => rfl⟩
 ·refine ⟨rfl, rfl, rfl, by show w.heap.size ≤ (w.heap.modify g _).size; rw [Array.size_modify]; exact Nat.le_refl _, fun k hk _ hv => ?_⟩
  have : g ≠ k := fun e => hv (by rw [← e]; rfl)
  show (w.heap.modify g _)[k]? = _
  rw [Array.getElem?_modify, if_neg this]
theorem kept_drew (w : World) (b : Nat) (v : Value) : BlKept w w.drew b v := ⟨rfl, rfl, rfl, Nat.le_refl _, fun _ _ _ _ => rfl⟩
theorem kept_alloc (w : World) (b : Nat) (v : Value) (o : Obj) : BlKept w (w.drew.alloc o) b v := ⟨rfl, rfl, rfl, by simp, fun k hk _ _ => heap_old w.drew o hk⟩
theorem str_some (b g cap : Nat) (p : Value) (l : List UInt8) (cur : Array Value) (w : World) (h0 : l ≠ []) (hb : w.heap[b]? = some (.cells #[p, .slice (some ⟨g, 0, none⟩) l.length cap] 40 (0, 0)))
 (hg : w.heap[g]? = some (.cells cur 5 (0, 0))) (hnc : l.length ≤ cap) (hcm : cap ≤ maxLen) (hcs : cur.size = cap) (hc : ∀ (j : Nat) (x : UInt8), l[j]? = some x → w.cell? ((⟨g, 0, none⟩ : Addr).add j) = some (.int .u8 x.toNat)) :
 Calls Tryd.prog 15 #[.pointer (some ⟨b, 0, none⟩)] w fun e w' => e = .returned (.string ⟨l.toArray⟩) ∧ BlKept w w' b (.slice (some ⟨g, 0, none⟩) l.length cap) := by
 have hl0 : l.length ≠ 0 := by simpa using h0
 have c1 : w.drew.cell? ⟨b, 1, none⟩ = some (.slice (some ⟨g, 0, none⟩) l.length cap) := by
  have : w.drew.heap[b]? = some (.cells #[p, .slice (some ⟨g, 0, none⟩) l.length cap] 40 (0, 0)) := hb
  rw [Lib.cell_of_heap this]; rfl
 have hSD : (Builtin.unsafeSliceData_ #[38] 57 #[.slice (some ⟨g, 0, none⟩) l.length cap]).run Tryd.prog w.drew = .ok (.pointer (some ⟨g, 0, none⟩)) w.drew :=
  Lib.run_unsafeSliceData_row _ _ _ _ _ _ (by omega)
 have hUS : (Builtin.unsafeString_ #[57, 3] 9 #[.pointer (some ⟨g, 0, none⟩), .int .i64 l.length]).run Tryd.prog w.drew = .ok (.string ⟨l.toArray⟩) (w.drew.freeze ⟨g, 0, none⟩ l.length) :=
  Lib.run_unsafeString_row w.drew 57 3 9 5 Tryd.underlying57 byt_cells g cur.size (by have hg' : w.drew.heap[g]? = some (.cells cur 5 (0, 0)) := hg; simp [World.shape?, hg']) l h0 (by omega) (by unfold maxLen at hcm; omega) hc
 have hk := kept_freeze w b g l.length cap
 clear hc
 have mx := mixed
 go_enter Tryd.func15, Tryd.ntmps15
 go_wp2
 go_region_o
 all_goals (go_wp2; go_ret; exact ⟨rfl, hk⟩)
theorem usn (W : World) (q : Option Addr) : (Builtin.unsafeString_ #[57, 3] 9 #[.pointer q, .int .i64 0]).run Tryd.prog W = .ok (.string .empty) W := Lib.run_unsafeString_none W _ _ _ q
theorem str_nil (b : Nat) (p : Value) (w : World) (hb : w.heap[b]? = some (.cells #[p, .slice none 0 0] 40 (0, 0))) :
 Calls Tryd.prog 15 #[.pointer (some ⟨b, 0, none⟩)] w fun e w' => e = .returned (.string ⟨#[]⟩) ∧ BlKept w w' b (.slice none 0 0) := by
 have hUS := usn
 have c1 : w.drew.cell? ⟨b, 1, none⟩ = some (.slice none 0 0) := by
  have : w.drew.heap[b]? = some (.cells #[p, .slice none 0 0] 40 (0, 0)) := hb
  rw [Lib.cell_of_heap this]; rfl
 have hSD : (Builtin.unsafeSliceData_ #[38] 57 #[.slice none 0 0]).run Tryd.prog w.drew = .ok (.pointer none) w.drew := rfl
 have hk := kept_drew w b (.slice none 0 0)
 have mx := mixed
 go_enter Tryd.func15, Tryd.ntmps15
 go_wp2
 go_region_o
 all_goals (go_wp2; go_ret; exact ⟨rfl, hk⟩)
theorem str_room (b g cap : Nat) (p : Value) (w : World) (hc0 : cap ≠ 0) (hb : w.heap[b]? = some (.cells #[p, .slice (some ⟨g, 0, none⟩) 0 cap] 40 (0, 0))) :
 Calls Tryd.prog 15 #[.pointer (some ⟨b, 0, none⟩)] w fun e w' => e = .returned (.string ⟨#[]⟩) ∧ BlKept w w' b (.slice (some ⟨g, 0, none⟩) 0 cap) := by
 have hUS := usn
 have c1 : w.drew.cell? ⟨b, 1, none⟩ = some (.slice (some ⟨g, 0, none⟩) 0 cap) := by
  have : w.drew.heap[b]? = some (.cells #[p, .slice (some ⟨g, 0, none⟩) 0 cap] 40 (0, 0)) := hb
  rw [Lib.cell_of_heap this]; rfl
 have hSD : (Builtin.unsafeSliceData_ #[38] 57 #[.slice (some ⟨g, 0, none⟩) 0 cap]).run Tryd.prog w.drew = .ok (.pointer (some ⟨g, 0, none⟩)) w.drew :=
  Lib.run_unsafeSliceData_row _ _ _ _ _ _ hc0
 have hk := kept_drew w b (.slice (some ⟨g, 0, none⟩) 0 cap)
 clear hc0
 have mx := mixed
 go_enter Tryd.func15, Tryd.ntmps15
 go_wp2
 go_region_o
 all_goals (go_wp2; go_ret; exact ⟨rfl, hk⟩)
theorem str_none (b g : Nat) (p : Value) (cur : Array Value) (w : World) (hb : w.heap[b]? = some (.cells #[p, .slice (some ⟨g, 0, none⟩) 0 0] 40 (0, 0))) (hg : w.heap[g]? = some (.cells cur 5 (0, 0))) :
 Calls Tryd.prog 15 #[.pointer (some ⟨b, 0, none⟩)] w fun e w' => e = .returned (.string ⟨#[]⟩) ∧ BlKept w w' b (.slice (some ⟨g, 0, none⟩) 0 0) := by
 have hUS := usn
 have hlt : b < w.heap.size := (Array.getElem?_eq_some_iff.1 hb).1
 have c1 : w.drew.cell? ⟨b, 1, none⟩ = some (.slice (some ⟨g, 0, none⟩) 0 0) := by
  have : w.drew.heap[b]? = some (.cells #[p, .slice (some ⟨g, 0, none⟩) 0 0] 40 (0, 0)) := hb
  rw [Lib.cell_of_heap this]; rfl
 have hSD : (Builtin.unsafeSliceData_ #[38] 57 #[.slice (some ⟨g, 0, none⟩) 0 0]).run Tryd.prog w.drew = .ok (.pointer (some ⟨w.drew.heap.size, 0, none⟩)) (w.drew.alloc (.view ⟨g, 0, none⟩ 5)) :=
  Lib.run_unsafeSliceData_zero w.drew _ _ 5 Tryd.underlying57 ⟨g, 0, none⟩ 0 (5, cur.size) (by have hg' : w.drew.heap[g]? = some (.cells cur 5 (0, 0)) := hg; simp [World.shape?, hg'])
 have c2 : (w.drew.alloc (.view ⟨g, 0, none⟩ 5)).cell? ⟨b, 1, none⟩ = some (.slice (some ⟨g, 0, none⟩) 0 0) := by
  have : (w.drew.alloc (.view ⟨g, 0, none⟩ 5)).heap[b]? = _ := (heap_old w.drew _ hlt).trans hb
  rw [Lib.cell_of_heap this]; rfl
 have c3 : (w.alloc (.view ⟨g, 0, none⟩ 5)).drew.cell? ⟨b, 1, none⟩ = some (.slice (some ⟨g, 0, none⟩) 0 0) := c2
 have c0 : w.cell? ⟨b, 1, none⟩ = some (.slice (some ⟨g, 0, none⟩) 0 0) := c1
 have hk := kept_alloc w b (.slice (some ⟨g, 0, none⟩) 0 0) (.view ⟨g, 0, none⟩ 5)
 have mx := mixed
 go_enter Tryd.func15, Tryd.ntmps15
 go_wp2
 go_region_o
 all_goals (go_wp2; go_ret; exact ⟨rfl, hk⟩)
theorem str_walk (B b : Nat) (p v : Value) (s : ByteArray) (w : World) (hb : w.heap[b]? = some (.cells #[p, v] 40 (0, 0))) (hown : w.ownsRow B 5 1 v s.size (bytV s)) :
 Calls Tryd.prog 15 #[.pointer (some ⟨b, 0, none⟩)] w fun e w' => e = .returned (.string s) ∧ BlKept w w' b v := by
 have hsz : s.size = s.data.toList.length := by rw [Array.length_toList]; rfl
 rcases hown.2 with ⟨rfl, hn⟩ | ⟨g, cap, cur, rfl, hbg, hg, hnc, hcm, hcs, htk⟩
 ·obtain rfl : s = ⟨#[]⟩ := by
   obtain ⟨⟨l⟩⟩ := s
   have : l = [] := List.eq_nil_of_length_eq_zero (by simpa using hsz.symm.trans hn)
   rw [this]
  exact str_nil b p w hb
 ·by_cases h0 : s.data.toList = []
  ·obtain rfl : s = ⟨#[]⟩ := by
    obtain ⟨⟨l⟩⟩ := s
    rw [show l = [] from h0]
   by_cases hc0 : cap = 0
   ·subst hc0
    exact str_none b g p cur w hb hg
   ·exact str_room b g cap p w hc0 hb
  ·rw [hsz] at hb hnc ⊢
   have := str_some b g cap p s.data.toList cur w h0 hb hg hnc hcm (by simpa using hcs) fun j x hx => hown.cells (g := g) rfl j (.int .u8 x.toNat) (by simp [bytV, hx])
   exact this
end Go.Proofs.Tryd
end

section
/- A library function of the seat, laid (written by lay.sh). -/
open Go Go.Shelf
namespace Go.Proofs
def ly_LyIt_ren : Shelf.Ren := ⟨fun | 171 => 14 | 243 => 25 | 246 => 33 | 283 => 39 | 284 => 40 | 285 => 41 | 286 => 42 | 129 => 51 | 317 => 50 | 318 => 52 | 319 => 53 | 320 => 54 | 337 => 66 | 338 => 67 | n => n, fun | 3 => 3 | 9 => 9 | 2 => 2 | 4 => 4 | 171 => 70 | 0 => 0 | 53 => 71 | 37 => 38 | 5 => 5 | 173 => 74 | 212 => 83 | 51 => 84 | 20 => 20 | 213 => 85 | 46 => 87 | 232 => 109 | 233 => 110 | n => n, fun | 17 => 0 | 18 => 6 | 19 => 7 | n => n⟩
theorem ly_LyIt : Go.Proofs.LaysM.n171 Tryd.prog ly_LyIt_ren where
 mixed := by kernel_rfl
 f129 := Tryd.func51.trans (congrArg some (by kernel_rfl))
 f171 := Tryd.func14.trans (congrArg some (by kernel_rfl))
 f243 := Tryd.func25.trans (congrArg some (by kernel_rfl))
 f246 := Tryd.func33.trans (congrArg some (by kernel_rfl))
 f283 := Tryd.func39.trans (congrArg some (by kernel_rfl))
 f284 := Tryd.func40.trans (congrArg some (by kernel_rfl))
 f285 := Tryd.func41.trans (congrArg some (by kernel_rfl))
 f286 := Tryd.func42.trans (congrArg some (by kernel_rfl))
 f317 := Tryd.func50.trans (congrArg some (by kernel_rfl))
 f318 := Tryd.func52.trans (congrArg some (by kernel_rfl))
 f319 := Tryd.func53.trans (congrArg some (by kernel_rfl))
 f320 := Tryd.func54.trans (congrArg some (by kernel_rfl))
 f337 := Tryd.func66.trans (congrArg some (by kernel_rfl))
 f338 := Tryd.func67.trans (congrArg some (by kernel_rfl))
 t0 := Tryd.underlying0
 a0 := Tryd.isAgg0
 z0 := Tryd.sizeOf0
 v0 := Tryd.zeroValue0
 t2 := Tryd.underlying2
 a2 := Tryd.isAgg2
 z2 := Tryd.sizeOf2
 v2 := Tryd.zeroValue2
 t3 := Tryd.underlying3
 a3 := Tryd.isAgg3
 z3 := Tryd.sizeOf3
 v3 := Tryd.zeroValue3
 t4 := Tryd.underlying4
 a4 := Tryd.isAgg4
 z4 := Tryd.sizeOf4
 v4 := Tryd.zeroValue4
 t5 := Tryd.underlying5
 a5 := Tryd.isAgg5
 z5 := Tryd.sizeOf5
 v5 := Tryd.zeroValue5
 t9 := Tryd.underlying9
 a9 := Tryd.isAgg9
 z9 := Tryd.sizeOf9
 v9 := Tryd.zeroValue9
 t20 := Tryd.underlying20
 a20 := Tryd.isAgg20
 z20 := Tryd.sizeOf20
 v20 := Tryd.zeroValue20
 t37 := Tryd.underlying38
 a37 := Tryd.isAgg38
 z37 := Tryd.sizeOf38
 v37 := Tryd.zeroValue38
 t46 := Tryd.underlying87
 a46 := Tryd.isAgg87
 z46 := Tryd.sizeOf87
 v46 := Tryd.zeroValue87
 t51 := Tryd.underlying84
 a51 := Tryd.isAgg84
 z51 := Tryd.sizeOf84
 v51 := Tryd.zeroValue84
 t53 := Tryd.underlying71
 a53 := Tryd.isAgg71
 z53 := Tryd.sizeOf71
 v53 := Tryd.zeroValue71
 t171 := Tryd.underlying70
 a171 := Tryd.isAgg70
 z171 := Tryd.sizeOf70
 v171 := Tryd.zeroValue70
 t173 := Tryd.underlying74
 a173 := Tryd.isAgg74
 z173 := Tryd.sizeOf74
 v173 := Tryd.zeroValue74
 t212 := Tryd.underlying83
 a212 := Tryd.isAgg83
 z212 := Tryd.sizeOf83
 v212 := Tryd.zeroValue83
 t213 := Tryd.underlying85
 a213 := Tryd.isAgg85
 z213 := Tryd.sizeOf85
 t232 := Tryd.underlying109
 a232 := Tryd.isAgg109
 z232 := Tryd.sizeOf109
 v232 := Tryd.zeroValue109
 t233 := Tryd.underlying110
 a233 := Tryd.isAgg110
 z233 := Tryd.sizeOf110
 v233 := Tryd.zeroValue110
 g17 := by kernel_rfl
 g18 := by kernel_rfl
 g19 := by kernel_rfl
 i0 := by kernel_rfl
 i2 := by kernel_rfl
 i3 := by kernel_rfl
 i4 := by kernel_rfl
 i5 := by kernel_rfl
 i9 := by kernel_rfl
 i20 := by kernel_rfl
 i37 := by kernel_rfl
 i46 := by kernel_rfl
 i51 := by kernel_rfl
 i53 := by kernel_rfl
 i171 := by kernel_rfl
 i173 := by kernel_rfl
 i212 := by kernel_rfl
 i232 := by kernel_rfl
 i233 := by kernel_rfl
 m17 := by kernel_rfl
 m18 := by kernel_rfl
 m19 := by kernel_rfl
end Go.Proofs
end

section
/- A library function of the seat, laid (written by lay.sh). -/
open Go Go.Shelf
namespace Go.Proofs
def ly_LyAt_ren : Shelf.Ren := ⟨fun | 172 => 37 | 244 => 47 | 245 => 48 | 247 => 60 | 279 => 61 | 280 => 62 | 281 => 63 | 282 => 64 | 287 => 70 | 316 => 71 | 171 => 14 | 205 => 72 | 321 => 73 | 322 => 74 | 243 => 25 | 246 => 33 | 283 => 39 | 284 => 40 | 285 => 41 | 286 => 42 | 129 => 51 | 317 => 50 | 318 => 52 | 319 => 53 | 320 => 54 | 337 => 66 | 338 => 67 | n => n, fun | 9 => 9 | 3 => 3 | 75 => 42 | 76 => 43 | 4 => 4 | 5 => 5 | 167 => 89 | 37 => 38 | 0 => 0 | 85 => 90 | 2 => 2 | 168 => 92 | 53 => 71 | 175 => 103 | 46 => 87 | 210 => 107 | 127 => 57 | 145 => 114 | 143 => 112 | 21 => 21 | 171 => 70 | 173 => 74 | 212 => 83 | 51 => 84 | 20 => 20 | 213 => 85 | 232 => 109 | 233 => 110 | 80 => 48 | n => n, fun | 15 => 4 | 16 => 5 | 17 => 0 | 18 => 6 | 19 => 7 | n => n⟩
theorem ly_LyAt : Go.Proofs.LaysC.n172 Tryd.prog ly_LyAt_ren where
 mixed := by kernel_rfl
 f129 := Tryd.func51.trans (congrArg some (by kernel_rfl))
 f171 := Tryd.func14.trans (congrArg some (by kernel_rfl))
 f172 := Tryd.func37.trans (congrArg some (by kernel_rfl))
 f205 := Tryd.func72.trans (congrArg some (by kernel_rfl))
 f243 := Tryd.func25.trans (congrArg some (by kernel_rfl))
 f244 := Tryd.func47.trans (congrArg some (by kernel_rfl))
 f245 := Tryd.func48.trans (congrArg some (by kernel_rfl))
 f246 := Tryd.func33.trans (congrArg some (by kernel_rfl))
 f247 := Tryd.func60.trans (congrArg some (by kernel_rfl))
 f279 := Tryd.func61.trans (congrArg some (by kernel_rfl))
 f280 := Tryd.func62.trans (congrArg some (by kernel_rfl))
 f281 := Tryd.func63.trans (congrArg some (by kernel_rfl))
 f282 := Tryd.func64.trans (congrArg some (by kernel_rfl))
 f283 := Tryd.func39.trans (congrArg some (by kernel_rfl))
 f284 := Tryd.func40.trans (congrArg some (by kernel_rfl))
 f285 := Tryd.func41.trans (congrArg some (by kernel_rfl))
 f286 := Tryd.func42.trans (congrArg some (by kernel_rfl))
 f287 := Tryd.func70.trans (congrArg some (by kernel_rfl))
 f316 := Tryd.func71.trans (congrArg some (by kernel_rfl))
 f317 := Tryd.func50.trans (congrArg some (by kernel_rfl))
 f318 := Tryd.func52.trans (congrArg some (by kernel_rfl))
 f319 := Tryd.func53.trans (congrArg some (by kernel_rfl))
 f320 := Tryd.func54.trans (congrArg some (by kernel_rfl))
 f321 := Tryd.func73.trans (congrArg some (by kernel_rfl))
 f322 := Tryd.func74.trans (congrArg some (by kernel_rfl))
 f337 := Tryd.func66.trans (congrArg some (by kernel_rfl))
 f338 := Tryd.func67.trans (congrArg some (by kernel_rfl))
 t0 := Tryd.underlying0
 a0 := Tryd.isAgg0
 z0 := Tryd.sizeOf0
 v0 := Tryd.zeroValue0
 t2 := Tryd.underlying2
 a2 := Tryd.isAgg2
 z2 := Tryd.sizeOf2
 v2 := Tryd.zeroValue2
 t3 := Tryd.underlying3
 a3 := Tryd.isAgg3
 z3 := Tryd.sizeOf3
 v3 := Tryd.zeroValue3
 t4 := Tryd.underlying4
 a4 := Tryd.isAgg4
 z4 := Tryd.sizeOf4
 v4 := Tryd.zeroValue4
 t5 := Tryd.underlying5
 a5 := Tryd.isAgg5
 z5 := Tryd.sizeOf5
 v5 := Tryd.zeroValue5
 t9 := Tryd.underlying9
 a9 := Tryd.isAgg9
 z9 := Tryd.sizeOf9
 v9 := Tryd.zeroValue9
 t20 := Tryd.underlying20
 a20 := Tryd.isAgg20
 z20 := Tryd.sizeOf20
 v20 := Tryd.zeroValue20
 t21 := Tryd.underlying21
 a21 := Tryd.isAgg21
 z21 := Tryd.sizeOf21
 v21 := Tryd.zeroValue21
 t37 := Tryd.underlying38
 a37 := Tryd.isAgg38
 z37 := Tryd.sizeOf38
 v37 := Tryd.zeroValue38
 t46 := Tryd.underlying87
 a46 := Tryd.isAgg87
 z46 := Tryd.sizeOf87
 v46 := Tryd.zeroValue87
 t51 := Tryd.underlying84
 a51 := Tryd.isAgg84
 z51 := Tryd.sizeOf84
 v51 := Tryd.zeroValue84
 t53 := Tryd.underlying71
 a53 := Tryd.isAgg71
 z53 := Tryd.sizeOf71
 v53 := Tryd.zeroValue71
 t75 := Tryd.underlying42
 a75 := Tryd.isAgg42
 z75 := Tryd.sizeOf42
 v75 := Tryd.zeroValue42
 t76 := Tryd.underlying43
 a76 := Tryd.isAgg43
 z76 := Tryd.sizeOf43
 v76 := Tryd.zeroValue43
 t85 := Tryd.underlying90
 a85 := Tryd.isAgg90
 z85 := Tryd.sizeOf90
 v85 := Tryd.zeroValue90
 t127 := Tryd.underlying57
 a127 := Tryd.isAgg57
 z127 := Tryd.sizeOf57
 v127 := Tryd.zeroValue57
 t143 := Tryd.underlying112
 a143 := Tryd.isAgg112
 z143 := Tryd.sizeOf112
 v143 := Tryd.zeroValue112
 t145 := Tryd.underlying114
 a145 := Tryd.isAgg114
 z145 := Tryd.sizeOf114
 v145 := Tryd.zeroValue114
 t167 := Tryd.underlying89
 a167 := Tryd.isAgg89
 z167 := Tryd.sizeOf89
 v167 := Tryd.zeroValue89
 t168 := Tryd.underlying92
 a168 := Tryd.isAgg92
 z168 := Tryd.sizeOf92
 v168 := Tryd.zeroValue92
 t171 := Tryd.underlying70
 a171 := Tryd.isAgg70
 z171 := Tryd.sizeOf70
 v171 := Tryd.zeroValue70
 t173 := Tryd.underlying74
 a173 := Tryd.isAgg74
 z173 := Tryd.sizeOf74
 v173 := Tryd.zeroValue74
 t175 := Tryd.underlying103
 a175 := Tryd.isAgg103
 z175 := Tryd.sizeOf103
 v175 := Tryd.zeroValue103
 t210 := Tryd.underlying107
 a210 := Tryd.isAgg107
 z210 := Tryd.sizeOf107
 v210 := Tryd.zeroValue107
 t212 := Tryd.underlying83
 a212 := Tryd.isAgg83
 z212 := Tryd.sizeOf83
 v212 := Tryd.zeroValue83
 t213 := Tryd.underlying85
 a213 := Tryd.isAgg85
 z213 := Tryd.sizeOf85
 t232 := Tryd.underlying109
 a232 := Tryd.isAgg109
 z232 := Tryd.sizeOf109
 v232 := Tryd.zeroValue109
 t233 := Tryd.underlying110
 a233 := Tryd.isAgg110
 z233 := Tryd.sizeOf110
 v233 := Tryd.zeroValue110
 g15 := by kernel_rfl
 g16 := by kernel_rfl
 g17 := by kernel_rfl
 g18 := by kernel_rfl
 g19 := by kernel_rfl
 t80 := Tryd.underlying48
 a80 := Tryd.isAgg48
 z80 := Tryd.sizeOf48
 v80 := Tryd.zeroValue48
 i0 := by kernel_rfl
 i2 := by kernel_rfl
 i3 := by kernel_rfl
 i4 := by kernel_rfl
 i5 := by kernel_rfl
 i9 := by kernel_rfl
 i20 := by kernel_rfl
 i21 := by kernel_rfl
 i37 := by kernel_rfl
 i46 := by kernel_rfl
 i51 := by kernel_rfl
 i53 := by kernel_rfl
 i75 := by kernel_rfl
 i76 := by kernel_rfl
 i80 := by kernel_rfl
 i85 := by kernel_rfl
 i127 := by kernel_rfl
 i143 := by kernel_rfl
 i145 := by kernel_rfl
 i167 := by kernel_rfl
 i168 := by kernel_rfl
 i171 := by kernel_rfl
 i173 := by kernel_rfl
 i175 := by kernel_rfl
 i210 := by kernel_rfl
 i212 := by kernel_rfl
 i232 := by kernel_rfl
 i233 := by kernel_rfl
 m15 := by kernel_rfl
 m16 := by kernel_rfl
 m17 := by kernel_rfl
 m18 := by kernel_rfl
 m19 := by kernel_rfl
 c0 := by kernel_rfl
 c2 := by kernel_rfl
 c3 := by kernel_rfl
 c4 := by kernel_rfl
 c5 := by kernel_rfl
 c9 := by kernel_rfl
 c20 := by kernel_rfl
 c21 := by kernel_rfl
 c37 := by kernel_rfl
 c46 := by kernel_rfl
 c51 := by kernel_rfl
 c53 := by kernel_rfl
 c75 := by kernel_rfl
 c76 := by kernel_rfl
 c80 := by kernel_rfl
 c85 := by kernel_rfl
 c127 := by kernel_rfl
 c143 := by kernel_rfl
 c145 := by kernel_rfl
 c167 := by kernel_rfl
 c168 := by kernel_rfl
 c171 := by kernel_rfl
 c173 := by kernel_rfl
 c175 := by kernel_rfl
 c210 := by kernel_rfl
 c212 := by kernel_rfl
 c213 := by kernel_rfl
 c232 := by kernel_rfl
 c233 := by kernel_rfl
end Go.Proofs
end

section
/- A library function of the seat, laid (written by lay.sh). -/
open Go Go.Shelf
namespace Go.Proofs
def ly_LySp_ren : Shelf.Ren := ⟨fun | 146 => 20 | 221 => 30 | 268 => 34 | 138 => 35 | 143 => 36 | 195 => 43 | 197 => 44 | 218 => 45 | 219 => 46 | 260 => 55 | 217 => 56 | 225 => 57 | 224 => 58 | 267 => 59 | 266 => 68 | 314 => 69 | n => n, fun | 9 => 9 | 31 => 50 | 3 => 3 | 4 => 4 | 0 => 0 | 105 => 77 | 21 => 21 | 5 => 5 | 46 => 87 | 119 => 97 | 139 => 100 | 138 => 99 | 146 => 101 | 51 => 84 | n => n, fun | 1 => 1 | 3 => 2 | 4 => 3 | n => n⟩
theorem ly_LySp : Go.Proofs.Lays.n146 Tryd.prog ly_LySp_ren where
 mixed := by kernel_rfl
 f138 := Tryd.func35.trans (congrArg some (by kernel_rfl))
 f143 := Tryd.func36.trans (congrArg some (by kernel_rfl))
 f146 := Tryd.func20.trans (congrArg some (by kernel_rfl))
 f195 := Tryd.func43.trans (congrArg some (by kernel_rfl))
 f197 := Tryd.func44.trans (congrArg some (by kernel_rfl))
 f217 := Tryd.func56.trans (congrArg some (by kernel_rfl))
 f218 := Tryd.func45.trans (congrArg some (by kernel_rfl))
 f219 := Tryd.func46.trans (congrArg some (by kernel_rfl))
 f221 := Tryd.func30.trans (congrArg some (by kernel_rfl))
 f224 := Tryd.func58.trans (congrArg some (by kernel_rfl))
 f225 := Tryd.func57.trans (congrArg some (by kernel_rfl))
 f260 := Tryd.func55.trans (congrArg some (by kernel_rfl))
 f266 := Tryd.func68.trans (congrArg some (by kernel_rfl))
 f267 := Tryd.func59.trans (congrArg some (by kernel_rfl))
 f268 := Tryd.func34.trans (congrArg some (by kernel_rfl))
 f314 := Tryd.func69.trans (congrArg some (by kernel_rfl))
 t0 := Tryd.underlying0
 a0 := Tryd.isAgg0
 z0 := Tryd.sizeOf0
 v0 := Tryd.zeroValue0
 t3 := Tryd.underlying3
 a3 := Tryd.isAgg3
 z3 := Tryd.sizeOf3
 v3 := Tryd.zeroValue3
 t4 := Tryd.underlying4
 a4 := Tryd.isAgg4
 z4 := Tryd.sizeOf4
 v4 := Tryd.zeroValue4
 t5 := Tryd.underlying5
 a5 := Tryd.isAgg5
 z5 := Tryd.sizeOf5
 v5 := Tryd.zeroValue5
 t9 := Tryd.underlying9
 a9 := Tryd.isAgg9
 z9 := Tryd.sizeOf9
 v9 := Tryd.zeroValue9
 t21 := Tryd.underlying21
 a21 := Tryd.isAgg21
 z21 := Tryd.sizeOf21
 v21 := Tryd.zeroValue21
 t31 := Tryd.underlying50
 a31 := Tryd.isAgg50
 z31 := Tryd.sizeOf50
 v31 := Tryd.zeroValue50
 t46 := Tryd.underlying87
 a46 := Tryd.isAgg87
 z46 := Tryd.sizeOf87
 v46 := Tryd.zeroValue87
 t51 := Tryd.underlying84
 a51 := Tryd.isAgg84
 z51 := Tryd.sizeOf84
 v51 := Tryd.zeroValue84
 t105 := Tryd.underlying77
 a105 := Tryd.isAgg77
 z105 := Tryd.sizeOf77
 v105 := Tryd.zeroValue77
 t119 := Tryd.underlying97
 a119 := Tryd.isAgg97
 z119 := Tryd.sizeOf97
 t138 := Tryd.underlying99
 a138 := Tryd.isAgg99
 z138 := Tryd.sizeOf99
 v138 := Tryd.zeroValue99
 t139 := Tryd.underlying100
 a139 := Tryd.isAgg100
 z139 := Tryd.sizeOf100
 v139 := Tryd.zeroValue100
 t146 := Tryd.underlying101
 a146 := Tryd.isAgg101
 z146 := Tryd.sizeOf101
 v146 := Tryd.zeroValue101
 g1 := by kernel_rfl
 g3 := by kernel_rfl
 g4 := by kernel_rfl
end Go.Proofs
end

section
/- A library function of the seat, laid (written by lay.sh). -/
open Go Go.Shelf
namespace Go.Proofs
def ly_LyTp_ren : Shelf.Ren := ⟨fun | 101 => 38 | 208 => 49 | 206 => 65 | n => n, fun | 9 => 9 | 4 => 4 | 3 => 3 | n => n, fun | n => n⟩
theorem ly_LyTp : Go.Proofs.Lays.n101 Tryd.prog ly_LyTp_ren where
 mixed := by kernel_rfl
 f101 := Tryd.func38.trans (congrArg some (by kernel_rfl))
 f206 := Tryd.func65.trans (congrArg some (by kernel_rfl))
 f208 := Tryd.func49.trans (congrArg some (by kernel_rfl))
 t3 := Tryd.underlying3
 a3 := Tryd.isAgg3
 z3 := Tryd.sizeOf3
 v3 := Tryd.zeroValue3
 t4 := Tryd.underlying4
 a4 := Tryd.isAgg4
 z4 := Tryd.sizeOf4
 v4 := Tryd.zeroValue4
 t9 := Tryd.underlying9
 a9 := Tryd.isAgg9
 z9 := Tryd.sizeOf9
 v9 := Tryd.zeroValue9
end Go.Proofs
end

section
namespace Go.Proofs.Tryd
open Go Go.Vm
open Go.RowKit (Below)
set_option maxRecDepth 100000
set_option maxHeartbeats 4000000
theorem xv_str (v : Nat) (s : ByteArray) : EvX Tryd.prog 15 [.ptr 1000 0] [(1000, .bld v 40 5 s)] (.d (.str s)) [(1000, .gone)] := by
 refine ⟨⟨_, Tryd.func15, rfl, rfl⟩, fun B0 w A L vals hB0 hg hA hsz hreps hmen hH => ?_⟩
 obtain ⟨v1, rfl⟩ := vals1 hsz rfl
 have r1 := hreps 0 _ v1 rfl rfl
 cases r1
 have hl : lk [(1000, Bx.bld v 40 5 s)] 1000 = some (.bld v 40 5 s) := by rw [lk_c, if_pos rfl]
 obtain ⟨q1, ⟨p, q2, q3⟩, q4, q5, q6⟩ := hH.br 1000 _ hl
 have hclm : ∀ {g}, own L 1000 (.bld v 40 5 s) g → claims L [(1000, Bx.bld v 40 5 s)] g := fun ho => ⟨1000, _, hl, ho⟩
 refine (str_walk B0 (L.ι 1000) p (L.sub 1000 v 0) s w q2 q4).mono ?_
 rintro e w' ⟨rfl, hk⟩
 have hAk : ∀ g o, A g o → w'.heap[g]? = w.heap[g]? := fun g o ha => hk.same g (hA g o ha) (fun e => q6 g (.inl e) o ha) (fun e => q6 g (.inr e) o ha)
 refine ⟨_, A, L, rfl, .d (.str _), hk.os, ⟨hk.tape, trivial⟩, hk.output, hk.size, fun k hks hn => hk.same k hks (fun e => hn (hclm (.inl e))) (fun e => hn (hclm (.inr e))), fun _ _ h => h,
  fun g o ha => World.cell?_of_block (w := w) (hAk g o ha), fun g o ha => Nat.lt_of_lt_of_le (hA g o ha) hk.size, fun g o ha => .inl ha, ⟨fun b x hx => ?_, fun b x g hx ho => ?_, fun b b' x x' g hx hx' _ _ => ?_, fun b x b' hx hm => ?_⟩,
  fun g hg => ?_, fun b _ _ => .rfl', fun b hb => by cases hb⟩
 ·obtain ⟨rfl, rfl⟩ := lk_one hx; trivial
 ·obtain ⟨rfl, rfl⟩ := lk_one hx; exact ho.elim
 ·rw [(lk_one hx).1, (lk_one hx').1]
 ·obtain ⟨rfl, rfl⟩ := lk_one hx; cases hm
 ·obtain ⟨b, x, hx, ho⟩ := hg
  obtain ⟨rfl, rfl⟩ := lk_one hx
  exact ho.elim
/-! The library's functions at this program. -/
theorem ev_Itoa (n : Int) (h : -9223372036854775808 ≤ n ∧ n ≤ 9223372036854775807) : Ev Tryd.prog 14 [.int .i64 n] (.str (itoaB n)) :=
 Ev.itoa ly_LyIt _ (by kernel_rfl) (List.mem_cons_self) n h
theorem itoaB_size (n : Int) (h : -9223372036854775808 ≤ n ∧ n ≤ 9223372036854775807) : (itoaB n).size ≤ 21 := by
 have := Lib.itoa_length_le n h.1 h.2
 show (Lib.itoa n).toArray.size ≤ 21
 simpa using this
theorem ev_Atoi (s : ByteArray) (hs : s.size ≤ 281474976710656) : Ev Tryd.prog 37 [.str s] (atoiD s) :=
 Ev.atoi ly_LyAt (List.mem_cons_of_mem _ (List.mem_cons_of_mem _ List.mem_cons_self)) (List.mem_cons_of_mem _ (List.mem_cons_of_mem _ (List.mem_cons_of_mem _ List.mem_cons_self))) s hs
theorem ev_Split (s sep : ByteArray) (hs : s.size < 4294967281) (h1 : 1 ≤ sep.size) : Ev Tryd.prog 20 [.str s, .str sep] (.sl 1 ((splitD s sep).map .str)) :=
 Ev.split ly_LySp (by kernel_rfl) (List.mem_cons_of_mem _ List.mem_cons_self) s sep hs h1
theorem ev_Trim (s p : ByteArray) : Ev Tryd.prog 38 [.str s, .str p] (.str (trimB s p)) := Ev.trim ly_LyTp s p
end Go.Proofs.Tryd
end

section
namespace Go.Proofs.Tryd
open Go Go.Vm
def outsideB (n lo hi : Int) : Bool := decide (n < lo) || decide (n > hi)
theorem ev_outside (n lo hi : Int) : Ev Tryd.prog 28 [.int .i64 n, .int .i64 lo, .int .i64 hi] (.bool (outsideB n lo hi)) := by
 refine ev_of_awp tysOk mixed (fn := Tryd.f28) Tryd.func28 rfl rfl rfl ?_
 conv => whnf
 repeat' (first|((with_reducible first|refine Split.of_true ?_|refine Split.of_false ?_);conv=>whnf)|(with_reducible refine Split.neg ?_)|((with_reducible refine Split.is_true ?_ ?_);decide;conv=>whnf)|((with_reducible refine Split.is_false ?_ ?_);decide;conv=>whnf)|((with_reducible refine Split.nez (fun _=>?_) (fun _=>?_))<;>conv=>whnf)|((with_reducible refine Split.eqz (fun _=>?_) (fun _=>?_))<;>conv=>whnf)|(with_reducible refine Split.and ?_)|(with_reducible refine Split.or ?_)|((with_reducible refine Split.streq (fun _=>?_) (fun _=>?_))<;>conv=>whnf)|((with_reducible refine Split.dec (fun _=>?_) (fun _=>?_))<;>conv=>whnf)|((with_reducible refine Split.mk (fun _=>?_) (fun _=>?_))<;>conv=>whnf)|((with_reducible refine NilK.mk (fun _=>?_) ?_)<;>conv=>whnf)|((with_reducible refine AltK.l ?_);(conv=>whnf);(with_reducible refine Need.mk ?_ ?_);(first|omega|(refine ⟨?_,?_⟩<;>simp<;>omega)|(simp;omega));conv=>whnf)|((with_reducible refine Need.mk ?_ ?_);(first|omega|rfl|decide|(refine ⟨?_,?_⟩<;>simp<;>omega)|(simp;omega));conv=>whnf)|((with_reducible refine Wr.quo ?_ ?_ ?_ ?_);omega;omega;omega;conv=>whnf)|((with_reducible refine Wr.inr ?_ ?_);(first|omega|(simp;omega));conv=>whnf)|((with_reducible refine Wr.inu ?_ ?_);omega;conv=>whnf)|(exfalso;first|omega|contradiction)|fail)
 all_goals (simp_all [outsideB, retOf] <;> omega)
def wrongB (m l : Int) : Bool := outsideB m 0 1000000 || outsideB l (-20000) 20000
theorem ev_wrongMark (m l : Int) : Ev Tryd.prog 29 [.agg [.int .i64 m, .int .i64 l]] (.bool (wrongB m l)) := by
 refine ev_of_awp tysOk mixed (fn := Tryd.f29) Tryd.func29 rfl rfl rfl ?_
 conv => whnf
 repeat' (first|((with_reducible first|refine Split.of_true ?_|refine Split.of_false ?_);conv=>whnf)|(with_reducible refine Split.neg ?_)|((with_reducible refine Split.is_true ?_ ?_);decide;conv=>whnf)|((with_reducible refine Split.is_false ?_ ?_);decide;conv=>whnf)|((with_reducible refine Split.nez (fun _=>?_) (fun _=>?_))<;>conv=>whnf)|((with_reducible refine Split.eqz (fun _=>?_) (fun _=>?_))<;>conv=>whnf)|(with_reducible refine Split.and ?_)|(with_reducible refine Split.or ?_)|((with_reducible refine Split.streq (fun _=>?_) (fun _=>?_))<;>conv=>whnf)|((with_reducible refine Split.dec (fun _=>?_) (fun _=>?_))<;>conv=>whnf)|((with_reducible refine Split.mk (fun _=>?_) (fun _=>?_))<;>conv=>whnf)|((with_reducible refine NilK.mk (fun _=>?_) ?_)<;>conv=>whnf)|((with_reducible refine AltK.l ?_);(conv=>whnf);(with_reducible refine Need.mk ?_ ?_);(first|omega|(refine ⟨?_,?_⟩<;>simp<;>omega)|(simp;omega));conv=>whnf)|((with_reducible refine Need.mk ?_ ?_);(first|omega|rfl|decide|(refine ⟨?_,?_⟩<;>simp<;>omega)|(simp;omega));conv=>whnf)|((with_reducible refine Wr.quo ?_ ?_ ?_ ?_);omega;omega;omega;conv=>whnf)|((with_reducible refine Wr.inr ?_ ?_);(first|omega|(simp;omega));conv=>whnf)|((with_reducible refine Wr.inu ?_ ?_);omega;conv=>whnf)|((with_reducible refine AltK.l ?_);(conv=>whnf);(first|(refine CallK.mk _ (ev_outside _ _ _) ?_));conv=>whnf)|(exfalso;first|omega|contradiction)|fail)
 all_goals simp_all [wrongB, retOf]
structure Mk where
 m : Int
 l : Int
def mD (m : Mk) : D := .agg [.int .i64 m.m, .int .i64 m.l]
structure Ga where
 name : ByteArray
 x : Int
 err : Int
 marks : List Mk
def gD (g : Ga) : D := .agg [.str g.name, .int .i64 g.x, .int .i64 g.err, .sl 2 (g.marks.map mD)]
def markErr : Option Mk → List Mk → Int
 | _, [] => 0
 | p, m :: r => if wrongB m.m m.l then 2 else match p with
  | some q => if m.m ≤ q.m then 9 else markErr (some m) r
  | none => markErr (some m) r
def recErr (g : Ga) : Int := if outsideB g.x (-1000000) 1000000 || outsideB g.err 0 1000 then 2 else if 400 < g.marks.length then 8 else markErr none g.marks
theorem ev_record (g : Ga) : Ev Tryd.prog 19 [gD g] (.int .i64 (recErr g)) := by
 refine ev_of_awp tysOk mixed (fn := Tryd.f19) Tryd.func19 rfl rfl rfl ?_
 have hl : (g.marks.map mD).length = g.marks.length := List.length_map _
 conv => whnf
 repeat' (first|((with_reducible first|refine Split.of_true ?_|refine Split.of_false ?_);conv=>whnf)|(with_reducible refine Split.neg ?_)|((with_reducible refine Split.is_true ?_ ?_);decide;conv=>whnf)|((with_reducible refine Split.is_false ?_ ?_);decide;conv=>whnf)|((with_reducible refine Split.nez (fun _=>?_) (fun _=>?_))<;>conv=>whnf)|((with_reducible refine Split.eqz (fun _=>?_) (fun _=>?_))<;>conv=>whnf)|(with_reducible refine Split.and ?_)|(with_reducible refine Split.or ?_)|((with_reducible refine Split.streq (fun _=>?_) (fun _=>?_))<;>conv=>whnf)|((with_reducible refine Split.dec (fun _=>?_) (fun _=>?_))<;>conv=>whnf)|((with_reducible refine Split.mk (fun _=>?_) (fun _=>?_))<;>conv=>whnf)|((with_reducible refine NilK.mk (fun _=>?_) ?_)<;>conv=>whnf)|((with_reducible refine AltK.l ?_);(conv=>whnf);(with_reducible refine Need.mk ?_ ?_);(first|omega|(refine ⟨?_,?_⟩<;>simp<;>omega)|(simp;omega));conv=>whnf)|((with_reducible refine Need.mk ?_ ?_);(first|omega|rfl|decide|(refine ⟨?_,?_⟩<;>simp<;>omega)|(simp;omega));conv=>whnf)|((with_reducible refine Wr.quo ?_ ?_ ?_ ?_);omega;omega;omega;conv=>whnf)|((with_reducible refine Wr.inr ?_ ?_);(first|omega|(simp;omega));conv=>whnf)|((with_reducible refine Wr.inu ?_ ?_);omega;conv=>whnf)|((with_reducible refine AltK.l ?_);(conv=>whnf);(first|(refine CallK.mk _ (ev_outside _ _ _) ?_));conv=>whnf)|(exfalso;first|omega|contradiction)|fail)
 ·simp_all [retOf, recErr]
 ·simp_all [retOf, recErr]
 ·simp_all [retOf, recErr] <;> omega
 refine LoopK.mk (fun i => i ≤ g.marks.length ∧ recErr g = markErr (if i = 0 then none else g.marks[i-1]?) (g.marks.drop i))
  (fun i => ⟨[(1, .ptr 1 0), (2, .d (.int .i64 0)), (18, .d (.sl 2 (g.marks.map mD))), (19, .d (.int .i64 (g.marks.map mD).length)), (20, .d (.int .i64 i))],
    [(1, .var [.d (.str g.name), .d (.int .i64 g.x), .d (.int .i64 g.err), .d (.sl 2 (g.marks.map mD))] false)]⟩)
  (fun i => g.marks.length - i) 0 [] ⟨by omega, by simp_all [recErr]<;>omega⟩ (by refine ⟨?_, ?_, rfl⟩<;>(repeat' (first|exact True.intro|exact rfl|(refine ⟨?_,?_⟩)|(intro h;cases h;done)|(intro h;exact h)|exact map_snoc|(refine own_congr ?_;simp;done)|(refine int_congr ?_;(first|omega|(simp;omega)))|(simp;done)|fail));done) ?_
 rintro i ⟨hi, hs⟩
 have hp : i = 0 ∨ ∃ q, g.marks[i-1]? = some q := by
  rcases Nat.eq_zero_or_pos i with h | h
  ·exact .inl h
  ·exact .inr (some_of_lt (by omega))
 have hn : (i : Int) < g.marks.length → ∃ m, g.marks[i]? = some m := fun h => some_of_lt (by omega)
 conv => whnf
 repeat' (first|((with_reducible first|refine Split.of_true ?_|refine Split.of_false ?_);conv=>whnf)|(with_reducible refine Split.neg ?_)|((with_reducible refine Split.is_true ?_ ?_);decide;conv=>whnf)|((with_reducible refine Split.is_false ?_ ?_);decide;conv=>whnf)|((with_reducible refine Split.nez (fun _=>?_) (fun _=>?_))<;>conv=>whnf)|((with_reducible refine Split.eqz (fun _=>?_) (fun _=>?_))<;>conv=>whnf)|(with_reducible refine Split.and ?_)|(with_reducible refine Split.or ?_)|((with_reducible refine Split.streq (fun _=>?_) (fun _=>?_))<;>conv=>whnf)|((with_reducible refine Split.dec (fun _=>?_) (fun _=>?_))<;>conv=>whnf)|((with_reducible refine Split.mk (fun _=>?_) (fun _=>?_))<;>conv=>whnf)|((with_reducible refine NilK.mk (fun _=>?_) ?_)<;>conv=>whnf)|((with_reducible refine AltK.l ?_);(conv=>whnf);(with_reducible refine Need.mk ?_ ?_);(first|omega|(refine ⟨?_,?_⟩<;>simp<;>omega)|(simp;omega));conv=>whnf)|((with_reducible refine Need.mk ?_ ?_);(first|omega|rfl|decide|(refine ⟨?_,?_⟩<;>simp<;>omega)|(simp;omega));conv=>whnf)|((with_reducible refine Wr.quo ?_ ?_ ?_ ?_);omega;omega;omega;conv=>whnf)|((with_reducible refine Wr.inr ?_ ?_);(first|omega|(simp;omega));conv=>whnf)|((with_reducible refine Wr.inu ?_ ?_);omega;conv=>whnf)|((with_reducible refine AltK.l ?_);(conv=>whnf);(first|(refine CallK.mk _ (ev_outside _ _ _) ?_));conv=>whnf)|(exfalso;first|omega|contradiction)|fail)
 ·obtain ⟨m, hm⟩ := hn (by omega)
  refine PickE.map i hm (by omega) ?_
  rw [drop_of hm] at hs
  conv => whnf
  repeat' (first|((with_reducible first|refine Split.of_true ?_|refine Split.of_false ?_);conv=>whnf)|(with_reducible refine Split.neg ?_)|((with_reducible refine Split.is_true ?_ ?_);decide;conv=>whnf)|((with_reducible refine Split.is_false ?_ ?_);decide;conv=>whnf)|((with_reducible refine Split.nez (fun _=>?_) (fun _=>?_))<;>conv=>whnf)|((with_reducible refine Split.eqz (fun _=>?_) (fun _=>?_))<;>conv=>whnf)|(with_reducible refine Split.and ?_)|(with_reducible refine Split.or ?_)|((with_reducible refine Split.streq (fun _=>?_) (fun _=>?_))<;>conv=>whnf)|((with_reducible refine Split.dec (fun _=>?_) (fun _=>?_))<;>conv=>whnf)|((with_reducible refine Split.mk (fun _=>?_) (fun _=>?_))<;>conv=>whnf)|((with_reducible refine NilK.mk (fun _=>?_) ?_)<;>conv=>whnf)|((with_reducible refine AltK.l ?_);(conv=>whnf);(with_reducible refine Need.mk ?_ ?_);(first|omega|(refine ⟨?_,?_⟩<;>simp<;>omega)|(simp;omega));conv=>whnf)|((with_reducible refine Need.mk ?_ ?_);(first|omega|rfl|decide|(refine ⟨?_,?_⟩<;>simp<;>omega)|(simp;omega));conv=>whnf)|((with_reducible refine Wr.quo ?_ ?_ ?_ ?_);omega;omega;omega;conv=>whnf)|((with_reducible refine Wr.inr ?_ ?_);(first|omega|(simp;omega));conv=>whnf)|((with_reducible refine Wr.inu ?_ ?_);omega;conv=>whnf)|((with_reducible refine AltK.l ?_);(conv=>whnf);(first|(refine CallK.mk _ (ev_wrongMark _ _) ?_));conv=>whnf)|(exfalso;first|omega|contradiction)|fail)
  ·simp_all [retOf, markErr]
  ·obtain ⟨q, hq⟩ := hp.resolve_left (by omega)
   have hi0 : i ≠ 0 := by omega
   refine PickE.map (i-1) hq (by omega) ?_
   conv => whnf
   repeat' (first|((with_reducible first|refine Split.of_true ?_|refine Split.of_false ?_);conv=>whnf)|(with_reducible refine Split.neg ?_)|((with_reducible refine Split.is_true ?_ ?_);decide;conv=>whnf)|((with_reducible refine Split.is_false ?_ ?_);decide;conv=>whnf)|((with_reducible refine Split.nez (fun _=>?_) (fun _=>?_))<;>conv=>whnf)|((with_reducible refine Split.eqz (fun _=>?_) (fun _=>?_))<;>conv=>whnf)|(with_reducible refine Split.and ?_)|(with_reducible refine Split.or ?_)|((with_reducible refine Split.streq (fun _=>?_) (fun _=>?_))<;>conv=>whnf)|((with_reducible refine Split.dec (fun _=>?_) (fun _=>?_))<;>conv=>whnf)|((with_reducible refine Split.mk (fun _=>?_) (fun _=>?_))<;>conv=>whnf)|((with_reducible refine NilK.mk (fun _=>?_) ?_)<;>conv=>whnf)|((with_reducible refine AltK.l ?_);(conv=>whnf);(with_reducible refine Need.mk ?_ ?_);(first|omega|(refine ⟨?_,?_⟩<;>simp<;>omega)|(simp;omega));conv=>whnf)|((with_reducible refine Need.mk ?_ ?_);(first|omega|rfl|decide|(refine ⟨?_,?_⟩<;>simp<;>omega)|(simp;omega));conv=>whnf)|((with_reducible refine Wr.quo ?_ ?_ ?_ ?_);omega;omega;omega;conv=>whnf)|((with_reducible refine Wr.inr ?_ ?_);(first|omega|(simp;omega));conv=>whnf)|((with_reducible refine Wr.inu ?_ ?_);omega;conv=>whnf)|(exfalso;first|omega|contradiction)|fail)
   ·simp_all [retOf, markErr]
   ·refine Again.mk (i+1) [] ⟨by omega, ?_⟩ (by omega) (by refine ⟨?_, ?_, rfl⟩<;>(repeat' (first|exact True.intro|exact rfl|(refine ⟨?_,?_⟩)|(intro h;cases h;done)|(intro h;exact h)|exact map_snoc|(refine own_congr ?_;simp;done)|(refine int_congr ?_;(first|omega|(simp;omega)))|(simp;done)|fail));done)
    simp_all [markErr]
  ·have hi0 : i = 0 := by omega
   refine Again.mk (i+1) [] ⟨by omega, ?_⟩ (by omega) (by refine ⟨?_, ?_, rfl⟩<;>(repeat' (first|exact True.intro|exact rfl|(refine ⟨?_,?_⟩)|(intro h;cases h;done)|(intro h;exact h)|exact map_snoc|(refine own_congr ?_;simp;done)|(refine int_congr ?_;(first|omega|(simp;omega)))|(simp;done)|fail));done)
   simp_all [markErr]
 ·have : g.marks.drop i = [] := List.drop_eq_nil_of_le (by omega)
  simp_all [retOf, markErr]
end Go.Proofs.Tryd
end

section
namespace Go.Proofs.Tryd
open Go Go.Vm
set_option maxRecDepth 20000
set_option maxHeartbeats 2000000
theorem ba_nil {s : ByteArray} (h : s.size = 0) : s = ⟨#[]⟩ := by
 cases s with
 | mk a => rw [show a = #[] from Array.eq_empty_of_size_eq_zero h]
theorem ev_inside (n lo hi : Int) : Ev Tryd.prog 26 [.int .i64 n, .int .i64 lo, .int .i64 hi] (.bool (!outsideB n lo hi)) := by
 refine ev_of_awp tysOk mixed (fn := Tryd.f26) Tryd.func26 rfl rfl rfl ?_
 conv => whnf
 repeat' (first|((with_reducible first|refine Split.of_true ?_|refine Split.of_false ?_);conv=>whnf)|(with_reducible refine Split.neg ?_)|((with_reducible refine Split.is_true ?_ ?_);decide;conv=>whnf)|((with_reducible refine Split.is_false ?_ ?_);decide;conv=>whnf)|((with_reducible refine Split.nez (fun _=>?_) (fun _=>?_))<;>conv=>whnf)|((with_reducible refine Split.eqz (fun _=>?_) (fun _=>?_))<;>conv=>whnf)|(with_reducible refine Split.and ?_)|(with_reducible refine Split.or ?_)|((with_reducible refine Split.streq (fun _=>?_) (fun _=>?_))<;>conv=>whnf)|((with_reducible refine Split.dec (fun _=>?_) (fun _=>?_))<;>conv=>whnf)|((with_reducible refine Split.mk (fun _=>?_) (fun _=>?_))<;>conv=>whnf)|((with_reducible refine NilK.mk (fun _=>?_) ?_)<;>conv=>whnf)|((with_reducible refine AltK.l ?_);(conv=>whnf);(with_reducible refine Need.mk ?_ ?_);(first|omega|(refine ⟨?_,?_⟩<;>simp<;>omega)|(simp;omega));conv=>whnf)|((with_reducible refine Need.mk ?_ ?_);(first|omega|rfl|decide|(refine ⟨?_,?_⟩<;>simp<;>omega)|(simp;omega));conv=>whnf)|((with_reducible refine Wr.quo ?_ ?_ ?_ ?_);omega;omega;omega;conv=>whnf)|((with_reducible refine Wr.inr ?_ ?_);(first|omega|(simp;omega));conv=>whnf)|((with_reducible refine Wr.inu ?_ ?_);omega;conv=>whnf)|(exfalso;first|omega|contradiction)|fail)
 ·simp only [retOf, outsideB]
  congr 1
  rw [Bool.eq_iff_iff]
  simp
  omega
 ·simp only [retOf, outsideB]
  congr 1
  rw [Bool.eq_iff_iff]
  simp
  omega
theorem ev_checkMark (m l : Int) : Ev Tryd.prog 27 [.agg [.int .i64 m, .int .i64 l]] (.int .i64 (if wrongB m l then 2 else 0)) := by
 refine ev_of_awp tysOk mixed (fn := Tryd.f27) Tryd.func27 rfl rfl rfl ?_
 conv => whnf
 repeat' (first|((with_reducible first|refine Split.of_true ?_|refine Split.of_false ?_);conv=>whnf)|(with_reducible refine Split.neg ?_)|((with_reducible refine Split.is_true ?_ ?_);decide;conv=>whnf)|((with_reducible refine Split.is_false ?_ ?_);decide;conv=>whnf)|((with_reducible refine Split.nez (fun _=>?_) (fun _=>?_))<;>conv=>whnf)|((with_reducible refine Split.eqz (fun _=>?_) (fun _=>?_))<;>conv=>whnf)|(with_reducible refine Split.and ?_)|(with_reducible refine Split.or ?_)|((with_reducible refine Split.streq (fun _=>?_) (fun _=>?_))<;>conv=>whnf)|((with_reducible refine Split.dec (fun _=>?_) (fun _=>?_))<;>conv=>whnf)|((with_reducible refine Split.mk (fun _=>?_) (fun _=>?_))<;>conv=>whnf)|((with_reducible refine NilK.mk (fun _=>?_) ?_)<;>conv=>whnf)|((with_reducible refine AltK.l ?_);(conv=>whnf);(with_reducible refine Need.mk ?_ ?_);(first|omega|(refine ⟨?_,?_⟩<;>simp<;>omega)|(simp;omega));conv=>whnf)|((with_reducible refine Need.mk ?_ ?_);(first|omega|rfl|decide|(refine ⟨?_,?_⟩<;>simp<;>omega)|(simp;omega));conv=>whnf)|((with_reducible refine Wr.quo ?_ ?_ ?_ ?_);omega;omega;omega;conv=>whnf)|((with_reducible refine Wr.inr ?_ ?_);(first|omega|(simp;omega));conv=>whnf)|((with_reducible refine Wr.inu ?_ ?_);omega;conv=>whnf)|((with_reducible refine AltK.l ?_);(conv=>whnf);(first|(refine CallK.mk _ (ev_inside _ _ _) ?_));conv=>whnf)|(exfalso;first|omega|contradiction)|fail)
 all_goals simp_all [retOf, wrongB]
theorem ev_Record (g : Ga) : Ev Tryd.prog 17 [gD g] (.int .i64 (recErr g)) := by
 refine ev_of_awp tysOk mixed (fn := Tryd.f17) Tryd.func17 rfl rfl rfl ?_
 have hl : (g.marks.map mD).length = g.marks.length := List.length_map _
 conv => whnf
 repeat' (first|((with_reducible first|refine Split.of_true ?_|refine Split.of_false ?_);conv=>whnf)|(with_reducible refine Split.neg ?_)|((with_reducible refine Split.is_true ?_ ?_);decide;conv=>whnf)|((with_reducible refine Split.is_false ?_ ?_);decide;conv=>whnf)|((with_reducible refine Split.nez (fun _=>?_) (fun _=>?_))<;>conv=>whnf)|((with_reducible refine Split.eqz (fun _=>?_) (fun _=>?_))<;>conv=>whnf)|(with_reducible refine Split.and ?_)|(with_reducible refine Split.or ?_)|((with_reducible refine Split.streq (fun _=>?_) (fun _=>?_))<;>conv=>whnf)|((with_reducible refine Split.dec (fun _=>?_) (fun _=>?_))<;>conv=>whnf)|((with_reducible refine Split.mk (fun _=>?_) (fun _=>?_))<;>conv=>whnf)|((with_reducible refine NilK.mk (fun _=>?_) ?_)<;>conv=>whnf)|((with_reducible refine AltK.l ?_);(conv=>whnf);(with_reducible refine Need.mk ?_ ?_);(first|omega|(refine ⟨?_,?_⟩<;>simp<;>omega)|(simp;omega));conv=>whnf)|((with_reducible refine Need.mk ?_ ?_);(first|omega|rfl|decide|(refine ⟨?_,?_⟩<;>simp<;>omega)|(simp;omega));conv=>whnf)|((with_reducible refine Wr.quo ?_ ?_ ?_ ?_);omega;omega;omega;conv=>whnf)|((with_reducible refine Wr.inr ?_ ?_);(first|omega|(simp;omega));conv=>whnf)|((with_reducible refine Wr.inu ?_ ?_);omega;conv=>whnf)|((with_reducible refine AltK.l ?_);(conv=>whnf);(first|(refine CallK.mk _ (ev_inside _ _ _) ?_));conv=>whnf)|(exfalso;first|omega|contradiction)|fail)
 ·simp_all [retOf, recErr]
 ·simp_all [retOf, recErr]
 ·simp_all [retOf, recErr] <;> omega
 refine LoopK.mk (fun i => i ≤ g.marks.length ∧ recErr g = markErr (if i = 0 then none else g.marks[i-1]?) (g.marks.drop i))
  (fun i => ⟨[(1, .ptr 1 0), (2, .d (.int .i64 0)), (3, .d (.int .i64 i))],
    [(1, .var [.d (.str g.name), .d (.int .i64 g.x), .d (.int .i64 g.err), .d (.sl 2 (g.marks.map mD))] false)]⟩)
  (fun i => g.marks.length - i) 0 [] ⟨by omega, by simp_all [recErr]<;>omega⟩ (by refine ⟨?_, ?_, rfl⟩<;>(repeat' (first|exact True.intro|exact rfl|(refine ⟨?_,?_⟩)|(intro h;cases h;done)|(intro h;exact h)|exact map_snoc|(refine own_congr ?_;simp;done)|(refine int_congr ?_;(first|omega|(simp;omega)))|(simp;done)|fail));done) ?_
 rintro i ⟨hi, hs⟩
 have hp : i = 0 ∨ ∃ q, g.marks[i-1]? = some q := by
  rcases Nat.eq_zero_or_pos i with h | h
  ·exact .inl h
  ·exact .inr (some_of_lt (by omega))
 have hn : (i : Int) < g.marks.length → ∃ m, g.marks[i]? = some m := fun h => some_of_lt (by omega)
 conv => whnf
 repeat' (first|((with_reducible first|refine Split.of_true ?_|refine Split.of_false ?_);conv=>whnf)|(with_reducible refine Split.neg ?_)|((with_reducible refine Split.is_true ?_ ?_);decide;conv=>whnf)|((with_reducible refine Split.is_false ?_ ?_);decide;conv=>whnf)|((with_reducible refine Split.nez (fun _=>?_) (fun _=>?_))<;>conv=>whnf)|((with_reducible refine Split.eqz (fun _=>?_) (fun _=>?_))<;>conv=>whnf)|(with_reducible refine Split.and ?_)|(with_reducible refine Split.or ?_)|((with_reducible refine Split.streq (fun _=>?_) (fun _=>?_))<;>conv=>whnf)|((with_reducible refine Split.dec (fun _=>?_) (fun _=>?_))<;>conv=>whnf)|((with_reducible refine Split.mk (fun _=>?_) (fun _=>?_))<;>conv=>whnf)|((with_reducible refine NilK.mk (fun _=>?_) ?_)<;>conv=>whnf)|((with_reducible refine AltK.l ?_);(conv=>whnf);(with_reducible refine Need.mk ?_ ?_);(first|omega|(refine ⟨?_,?_⟩<;>simp<;>omega)|(simp;omega));conv=>whnf)|((with_reducible refine Need.mk ?_ ?_);(first|omega|rfl|decide|(refine ⟨?_,?_⟩<;>simp<;>omega)|(simp;omega));conv=>whnf)|((with_reducible refine Wr.quo ?_ ?_ ?_ ?_);omega;omega;omega;conv=>whnf)|((with_reducible refine Wr.inr ?_ ?_);(first|omega|(simp;omega));conv=>whnf)|((with_reducible refine Wr.inu ?_ ?_);omega;conv=>whnf)|(exfalso;first|omega|contradiction)|fail)
 ·obtain ⟨m, hm⟩ := hn (by omega)
  refine PickE.map i hm (by omega) ?_
  rw [drop_of hm] at hs
  have hck := ev_checkMark m.m m.l
  cases hw : wrongB m.m m.l with
  | true =>
   rw [hw, if_pos rfl] at hck
   conv => whnf
   repeat' (first|((with_reducible first|refine Split.of_true ?_|refine Split.of_false ?_);conv=>whnf)|(with_reducible refine Split.neg ?_)|((with_reducible refine Split.is_true ?_ ?_);decide;conv=>whnf)|((with_reducible refine Split.is_false ?_ ?_);decide;conv=>whnf)|((with_reducible refine Split.nez (fun _=>?_) (fun _=>?_))<;>conv=>whnf)|((with_reducible refine Split.eqz (fun _=>?_) (fun _=>?_))<;>conv=>whnf)|(with_reducible refine Split.and ?_)|(with_reducible refine Split.or ?_)|((with_reducible refine Split.streq (fun _=>?_) (fun _=>?_))<;>conv=>whnf)|((with_reducible refine Split.dec (fun _=>?_) (fun _=>?_))<;>conv=>whnf)|((with_reducible refine Split.mk (fun _=>?_) (fun _=>?_))<;>conv=>whnf)|((with_reducible refine NilK.mk (fun _=>?_) ?_)<;>conv=>whnf)|((with_reducible refine AltK.l ?_);(conv=>whnf);(with_reducible refine Need.mk ?_ ?_);(first|omega|(refine ⟨?_,?_⟩<;>simp<;>omega)|(simp;omega));conv=>whnf)|((with_reducible refine Need.mk ?_ ?_);(first|omega|rfl|decide|(refine ⟨?_,?_⟩<;>simp<;>omega)|(simp;omega));conv=>whnf)|((with_reducible refine Wr.quo ?_ ?_ ?_ ?_);omega;omega;omega;conv=>whnf)|((with_reducible refine Wr.inr ?_ ?_);(first|omega|(simp;omega));conv=>whnf)|((with_reducible refine Wr.inu ?_ ?_);omega;conv=>whnf)|((with_reducible refine AltK.l ?_);(conv=>whnf);(first|(refine CallK.mk _ (hck) ?_));conv=>whnf)|(exfalso;first|omega|contradiction)|fail)
   simp_all [retOf, markErr]
  | false =>
   rw [hw, if_neg (by decide)] at hck
   conv => whnf
   repeat' (first|((with_reducible first|refine Split.of_true ?_|refine Split.of_false ?_);conv=>whnf)|(with_reducible refine Split.neg ?_)|((with_reducible refine Split.is_true ?_ ?_);decide;conv=>whnf)|((with_reducible refine Split.is_false ?_ ?_);decide;conv=>whnf)|((with_reducible refine Split.nez (fun _=>?_) (fun _=>?_))<;>conv=>whnf)|((with_reducible refine Split.eqz (fun _=>?_) (fun _=>?_))<;>conv=>whnf)|(with_reducible refine Split.and ?_)|(with_reducible refine Split.or ?_)|((with_reducible refine Split.streq (fun _=>?_) (fun _=>?_))<;>conv=>whnf)|((with_reducible refine Split.dec (fun _=>?_) (fun _=>?_))<;>conv=>whnf)|((with_reducible refine Split.mk (fun _=>?_) (fun _=>?_))<;>conv=>whnf)|((with_reducible refine NilK.mk (fun _=>?_) ?_)<;>conv=>whnf)|((with_reducible refine AltK.l ?_);(conv=>whnf);(with_reducible refine Need.mk ?_ ?_);(first|omega|(refine ⟨?_,?_⟩<;>simp<;>omega)|(simp;omega));conv=>whnf)|((with_reducible refine Need.mk ?_ ?_);(first|omega|rfl|decide|(refine ⟨?_,?_⟩<;>simp<;>omega)|(simp;omega));conv=>whnf)|((with_reducible refine Wr.quo ?_ ?_ ?_ ?_);omega;omega;omega;conv=>whnf)|((with_reducible refine Wr.inr ?_ ?_);(first|omega|(simp;omega));conv=>whnf)|((with_reducible refine Wr.inu ?_ ?_);omega;conv=>whnf)|((with_reducible refine AltK.l ?_);(conv=>whnf);(first|(refine CallK.mk _ (hck) ?_));conv=>whnf)|(exfalso;first|omega|contradiction)|fail)
   ·obtain ⟨q, hq⟩ := hp.resolve_left (by omega)
    have hi0 : i ≠ 0 := by omega
    refine PickE.map i hm (by omega) ?_
    conv => whnf
    repeat' (first|((with_reducible first|refine Split.of_true ?_|refine Split.of_false ?_);conv=>whnf)|(with_reducible refine Split.neg ?_)|((with_reducible refine Split.is_true ?_ ?_);decide;conv=>whnf)|((with_reducible refine Split.is_false ?_ ?_);decide;conv=>whnf)|((with_reducible refine Split.nez (fun _=>?_) (fun _=>?_))<;>conv=>whnf)|((with_reducible refine Split.eqz (fun _=>?_) (fun _=>?_))<;>conv=>whnf)|(with_reducible refine Split.and ?_)|(with_reducible refine Split.or ?_)|((with_reducible refine Split.streq (fun _=>?_) (fun _=>?_))<;>conv=>whnf)|((with_reducible refine Split.dec (fun _=>?_) (fun _=>?_))<;>conv=>whnf)|((with_reducible refine Split.mk (fun _=>?_) (fun _=>?_))<;>conv=>whnf)|((with_reducible refine NilK.mk (fun _=>?_) ?_)<;>conv=>whnf)|((with_reducible refine AltK.l ?_);(conv=>whnf);(with_reducible refine Need.mk ?_ ?_);(first|omega|(refine ⟨?_,?_⟩<;>simp<;>omega)|(simp;omega));conv=>whnf)|((with_reducible refine Need.mk ?_ ?_);(first|omega|rfl|decide|(refine ⟨?_,?_⟩<;>simp<;>omega)|(simp;omega));conv=>whnf)|((with_reducible refine Wr.quo ?_ ?_ ?_ ?_);omega;omega;omega;conv=>whnf)|((with_reducible refine Wr.inr ?_ ?_);(first|omega|(simp;omega));conv=>whnf)|((with_reducible refine Wr.inu ?_ ?_);omega;conv=>whnf)|(exfalso;first|omega|contradiction)|fail)
    refine PickE.map (i-1) hq (by omega) ?_
    conv => whnf
    repeat' (first|((with_reducible first|refine Split.of_true ?_|refine Split.of_false ?_);conv=>whnf)|(with_reducible refine Split.neg ?_)|((with_reducible refine Split.is_true ?_ ?_);decide;conv=>whnf)|((with_reducible refine Split.is_false ?_ ?_);decide;conv=>whnf)|((with_reducible refine Split.nez (fun _=>?_) (fun _=>?_))<;>conv=>whnf)|((with_reducible refine Split.eqz (fun _=>?_) (fun _=>?_))<;>conv=>whnf)|(with_reducible refine Split.and ?_)|(with_reducible refine Split.or ?_)|((with_reducible refine Split.streq (fun _=>?_) (fun _=>?_))<;>conv=>whnf)|((with_reducible refine Split.dec (fun _=>?_) (fun _=>?_))<;>conv=>whnf)|((with_reducible refine Split.mk (fun _=>?_) (fun _=>?_))<;>conv=>whnf)|((with_reducible refine NilK.mk (fun _=>?_) ?_)<;>conv=>whnf)|((with_reducible refine AltK.l ?_);(conv=>whnf);(with_reducible refine Need.mk ?_ ?_);(first|omega|(refine ⟨?_,?_⟩<;>simp<;>omega)|(simp;omega));conv=>whnf)|((with_reducible refine Need.mk ?_ ?_);(first|omega|rfl|decide|(refine ⟨?_,?_⟩<;>simp<;>omega)|(simp;omega));conv=>whnf)|((with_reducible refine Wr.quo ?_ ?_ ?_ ?_);omega;omega;omega;conv=>whnf)|((with_reducible refine Wr.inr ?_ ?_);(first|omega|(simp;omega));conv=>whnf)|((with_reducible refine Wr.inu ?_ ?_);omega;conv=>whnf)|(exfalso;first|omega|contradiction)|fail)
    ·simp_all [retOf, markErr]
    ·refine Again.mk (i+1) [] ⟨by omega, ?_⟩ (by omega) (by refine ⟨?_, ?_, rfl⟩<;>(repeat' (first|exact True.intro|exact rfl|(refine ⟨?_,?_⟩)|(intro h;cases h;done)|(intro h;exact h)|exact map_snoc|(refine own_congr ?_;simp;done)|(refine int_congr ?_;(first|omega|(simp;omega)))|(simp;done)|fail));done)
     simp_all [markErr]
   ·have hi0 : i = 0 := by omega
    refine Again.mk (i+1) [] ⟨by omega, ?_⟩ (by omega) (by refine ⟨?_, ?_, rfl⟩<;>(repeat' (first|exact True.intro|exact rfl|(refine ⟨?_,?_⟩)|(intro h;cases h;done)|(intro h;exact h)|exact map_snoc|(refine own_congr ?_;simp;done)|(refine int_congr ?_;(first|omega|(simp;omega)))|(simp;done)|fail));done)
    simp_all [markErr]
 ·have : g.marks.drop i = [] := List.drop_eq_nil_of_le (by omega)
  simp_all [retOf, markErr]
def letterZ (c : Int) : Bool := (decide (c ≥ 97) && decide (c ≤ 122)) || (decide (c ≥ 65) && decide (c ≤ 90))
def otherZ (c : Int) : Bool := (decide (c ≥ 48) && decide (c ≤ 57)) || decide (c = 45)
def badAt (s : ByteArray) (i : Nat) : Bool := !letterZ (bAt s i) && (decide (i = 0) || !otherZ (bAt s i))
def nameB (s : ByteArray) : Bool := decide (s.size ≠ 0) && decide (s.size ≤ 12) && decide (∀ k, k < s.size → badAt s k = false)
theorem nameB_bad {s : ByteArray} {i : Nat} (h : i < s.size) (hb : badAt s i = true) : nameB s = false := by
 unfold nameB
 have : ¬ ∀ k, k < s.size → badAt s k = false := fun hk => by rw [hk i h] at hb; cases hb
 simp [this]
theorem badAt_iff {s : ByteArray} {i : Nat} : badAt s i = true ↔ ¬ ((97 ≤ bAt s (i : Int).toNat ∧ bAt s (i : Int).toNat ≤ 122) ∨ (65 ≤ bAt s (i : Int).toNat ∧ bAt s (i : Int).toNat ≤ 90)) ∧
 (i = 0 ∨ ¬ ((48 ≤ bAt s (i : Int).toNat ∧ bAt s (i : Int).toNat ≤ 57) ∨ bAt s (i : Int).toNat = 45)) := by
 have e : bAt s (i : Int).toNat = bAt s i := rfl
 rw [e]
 generalize hc : bAt s i = c
 simp only [badAt, hc, letterZ, otherZ, Bool.and_eq_true, Bool.not_eq_true', Bool.or_eq_true, Bool.or_eq_false_iff, Bool.and_eq_false_iff, decide_eq_true_eq, decide_eq_false_iff_not]
 omega
theorem ev_named (s : ByteArray) : Ev Tryd.prog 18 [.str s] (.bool (nameB s)) := by
 refine ev_of_awp tysOk mixed (fn := Tryd.f18) Tryd.func18 rfl rfl rfl ?_
 conv => whnf
 repeat' (first|((with_reducible first|refine Split.of_true ?_|refine Split.of_false ?_);conv=>whnf)|(with_reducible refine Split.neg ?_)|((with_reducible refine Split.is_true ?_ ?_);decide;conv=>whnf)|((with_reducible refine Split.is_false ?_ ?_);decide;conv=>whnf)|((with_reducible refine Split.nez (fun _=>?_) (fun _=>?_))<;>conv=>whnf)|((with_reducible refine Split.eqz (fun _=>?_) (fun _=>?_))<;>conv=>whnf)|(with_reducible refine Split.and ?_)|(with_reducible refine Split.or ?_)|((with_reducible refine Split.streq (fun _=>?_) (fun _=>?_))<;>conv=>whnf)|((with_reducible refine Split.dec (fun _=>?_) (fun _=>?_))<;>conv=>whnf)|((with_reducible refine Split.mk (fun _=>?_) (fun _=>?_))<;>conv=>whnf)|((with_reducible refine NilK.mk (fun _=>?_) ?_)<;>conv=>whnf)|((with_reducible refine AltK.l ?_);(conv=>whnf);(with_reducible refine Need.mk ?_ ?_);(first|omega|(refine ⟨?_,?_⟩<;>simp<;>omega)|(simp;omega));conv=>whnf)|((with_reducible refine Need.mk ?_ ?_);(first|omega|rfl|decide|(refine ⟨?_,?_⟩<;>simp<;>omega)|(simp;omega));conv=>whnf)|((with_reducible refine Wr.quo ?_ ?_ ?_ ?_);omega;omega;omega;conv=>whnf)|((with_reducible refine Wr.inr ?_ ?_);(first|omega|(simp;omega));conv=>whnf)|((with_reducible refine Wr.inu ?_ ?_);omega;conv=>whnf)|(exfalso;first|omega|contradiction)|fail)
 ·have e : s = ⟨#[]⟩ := by assumption
  subst e
  rfl
 ·simp_all [retOf, nameB] <;> omega
 refine LoopK.mk (fun i => i ≤ s.size ∧ ∀ k, k < i → badAt s k = false)
  (fun i => ⟨[(2, .d (.bool false)), (14, .d (.str s)), (15, .d (.int .i64 s.size)), (16, .d (.int .i64 i)), (0, .d (.str s))], []⟩)
  (fun i => s.size - i) 0 [] ⟨by omega, fun k h => absurd h (by omega)⟩ (by refine ⟨?_, ?_, rfl⟩<;>(repeat' (first|exact True.intro|exact rfl|(refine ⟨?_,?_⟩)|(intro h;cases h;done)|(intro h;exact h)|exact map_snoc|(refine own_congr ?_;simp;done)|(refine int_congr ?_;(first|omega|(simp;omega)))|(simp;done)|fail));done) ?_
 rintro i ⟨hi, hs⟩
 conv => whnf
 repeat' (first|((with_reducible first|refine Split.of_true ?_|refine Split.of_false ?_);conv=>whnf)|(with_reducible refine Split.neg ?_)|((with_reducible refine Split.is_true ?_ ?_);decide;conv=>whnf)|((with_reducible refine Split.is_false ?_ ?_);decide;conv=>whnf)|((with_reducible refine Split.nez (fun _=>?_) (fun _=>?_))<;>conv=>whnf)|((with_reducible refine Split.eqz (fun _=>?_) (fun _=>?_))<;>conv=>whnf)|(with_reducible refine Split.and ?_)|(with_reducible refine Split.or ?_)|((with_reducible refine Split.streq (fun _=>?_) (fun _=>?_))<;>conv=>whnf)|((with_reducible refine Split.dec (fun _=>?_) (fun _=>?_))<;>conv=>whnf)|((with_reducible refine Split.mk (fun _=>?_) (fun _=>?_))<;>conv=>whnf)|((with_reducible refine NilK.mk (fun _=>?_) ?_)<;>conv=>whnf)|((with_reducible refine AltK.l ?_);(conv=>whnf);(with_reducible refine Need.mk ?_ ?_);(first|omega|(refine ⟨?_,?_⟩<;>simp<;>omega)|(simp;omega));conv=>whnf)|((with_reducible refine Need.mk ?_ ?_);(first|omega|rfl|decide|(refine ⟨?_,?_⟩<;>simp<;>omega)|(simp;omega));conv=>whnf)|((with_reducible refine Wr.quo ?_ ?_ ?_ ?_);omega;omega;omega;conv=>whnf)|((with_reducible refine Wr.inr ?_ ?_);(first|omega|(simp;omega));conv=>whnf)|((with_reducible refine Wr.inu ?_ ?_);omega;conv=>whnf)|(exfalso;first|omega|contradiction)|fail)
 all_goals first
  | exact congrArg D.bool (nameB_bad (i := i) (by omega) (badAt_iff.2 (by omega))).symm
  |(refine Again.mk (i+1) [] ⟨by omega, fun k hk => ?_⟩ (by omega) (by refine ⟨?_, ?_, rfl⟩<;>(repeat' (first|exact True.intro|exact rfl|(refine ⟨?_,?_⟩)|(intro h;cases h;done)|(intro h;exact h)|exact map_snoc|(refine own_congr ?_;simp;done)|(refine int_congr ?_;(first|omega|(simp;omega)))|(simp;done)|fail));done)
    rcases Nat.lt_or_ge k i with h | h
    ·exact hs k h
    ·have : k = i := by omega
     subst this
     exact Bool.eq_false_iff.2 fun h => by have := badAt_iff.1 h; omega)
  | skip
 have : ∀ k, k < s.size → badAt s k = false := fun k hk => hs k (by omega)
 have h1 : s.size ≠ 0 := fun h => absurd (ba_nil h) (by assumption)
 have h2 : s.size ≤ 12 := by omega
 simp [retOf, nameB, h1, h2]
 exact this
end Go.Proofs.Tryd
end

section
namespace Go.Proofs.Tryd
open Go Go.Vm
set_option maxRecDepth 20000
set_option maxHeartbeats 2000000
theorem ev_IsName (s : ByteArray) : Ev Tryd.prog 16 [.str s] (.bool (nameB s)) := by
 refine ev_of_awp tysOk mixed (fn := Tryd.f16) Tryd.func16 rfl rfl rfl ?_
 conv => whnf
 repeat' (first|((with_reducible refine Split.of_true ?_);conv=>whnf)|((with_reducible refine Split.dec (fun _=>?_) (fun _=>?_))<;>conv=>whnf)|fail)
 ·have : s.size = 0 := by omega
  simp_all [retOf, nameB]
 ·simp_all [retOf, nameB] <;> omega
 refine LoopK.mk (fun i => i ≤ s.size ∧ ∀ k, k < i → badAt s k = false)
  (fun i => ⟨[(2, .d (.bool false)), (3, .d (.int .i64 i)), (0, .d (.str s))], []⟩)
  (fun i => s.size - i) 0 [] ⟨by omega, fun k h => absurd h (by omega)⟩ (by refine ⟨?_, ?_, rfl⟩<;>(repeat' (first|exact True.intro|exact rfl|(refine ⟨?_,?_⟩)|fail));done) ?_
 rintro i ⟨hi, hs⟩
 conv => whnf
 repeat' (first|((with_reducible first|refine Split.of_true ?_|refine Split.of_false ?_);conv=>whnf)|(with_reducible refine Split.neg ?_)|((with_reducible refine Split.nez (fun _=>?_) (fun _=>?_))<;>conv=>whnf)|((with_reducible refine Split.eqz (fun _=>?_) (fun _=>?_))<;>conv=>whnf)|((with_reducible refine Split.dec (fun _=>?_) (fun _=>?_))<;>conv=>whnf)|((with_reducible refine Need.mk ?_ ?_);(first|omega|rfl|decide|(refine ⟨?_,?_⟩<;>simp<;>omega)|(simp;omega));conv=>whnf)|((with_reducible refine Wr.inr ?_ ?_);(first|omega|(simp;omega));conv=>whnf)|(exfalso;first|omega|contradiction)|fail)
 all_goals first
  | exact congrArg D.bool (nameB_bad (i := i) (by omega) (badAt_iff.2 (by omega))).symm
  |(refine Again.mk (i+1) [] ⟨by omega, fun k hk => ?_⟩ (by omega) (by refine ⟨?_, ?_, rfl⟩<;>(repeat' (first|exact True.intro|exact rfl|(refine ⟨?_,?_⟩)|fail));done)
    rcases Nat.lt_or_ge k i with h | h
    ·exact hs k h
    ·have : k = i := by omega
     subst this
     exact Bool.eq_false_iff.2 fun h => by have := badAt_iff.1 h; omega)
  | skip
 have : ∀ k, k < s.size → badAt s k = false := fun k hk => hs k (by omega)
 have h1 : s.size ≠ 0 := by omega
 have h2 : s.size ≤ 12 := by omega
 simp [retOf, nameB, h1, h2]
 exact this
def gErr (g : Ga) : Int := if nameB g.name then recErr g else 4
theorem ev_CheckGauge (g : Ga) : Ev Tryd.prog 8 [gD g] (.int .i64 (gErr g)) := by
 refine ev_of_awp tysOk mixed (fn := Tryd.f8) Tryd.func8 rfl rfl rfl ?_
 conv => whnf
 repeat' (first|((with_reducible first|refine Split.of_true ?_|refine Split.of_false ?_);conv=>whnf)|(with_reducible refine Split.neg ?_)|((with_reducible refine Split.is_true ?_ ?_);decide;conv=>whnf)|((with_reducible refine Split.is_false ?_ ?_);decide;conv=>whnf)|((with_reducible refine Split.nez (fun _=>?_) (fun _=>?_))<;>conv=>whnf)|((with_reducible refine Split.eqz (fun _=>?_) (fun _=>?_))<;>conv=>whnf)|(with_reducible refine Split.and ?_)|(with_reducible refine Split.or ?_)|((with_reducible refine Split.streq (fun _=>?_) (fun _=>?_))<;>conv=>whnf)|((with_reducible refine Split.dec (fun _=>?_) (fun _=>?_))<;>conv=>whnf)|((with_reducible refine Split.mk (fun _=>?_) (fun _=>?_))<;>conv=>whnf)|((with_reducible refine NilK.mk (fun _=>?_) ?_)<;>conv=>whnf)|((with_reducible refine AltK.l ?_);(conv=>whnf);(with_reducible refine Need.mk ?_ ?_);(first|omega|(refine ⟨?_,?_⟩<;>simp<;>omega)|(simp;omega));conv=>whnf)|((with_reducible refine Need.mk ?_ ?_);(first|omega|rfl|decide|(refine ⟨?_,?_⟩<;>simp<;>omega)|(simp;omega));conv=>whnf)|((with_reducible refine Wr.quo ?_ ?_ ?_ ?_);omega;omega;omega;conv=>whnf)|((with_reducible refine Wr.inr ?_ ?_);(first|omega|(simp;omega));conv=>whnf)|((with_reducible refine Wr.inu ?_ ?_);omega;conv=>whnf)|((with_reducible refine AltK.l ?_);(conv=>whnf);(first|(refine CallK.mk _ (ev_named _) ?_)|(refine CallK.mk _ (ev_record g) ?_));conv=>whnf)|(exfalso;first|omega|contradiction)|fail)
 all_goals simp_all [retOf, gErr]
theorem ev_CheckGaugeR (g : Ga) : Ev Tryd.prog 7 [gD g] (.int .i64 (gErr g)) := by
 refine ev_of_awp tysOk mixed (fn := Tryd.f7) Tryd.func7 rfl rfl rfl ?_
 conv => whnf
 repeat' (first|((with_reducible first|refine Split.of_true ?_|refine Split.of_false ?_);conv=>whnf)|(with_reducible refine Split.neg ?_)|((with_reducible refine Split.is_true ?_ ?_);decide;conv=>whnf)|((with_reducible refine Split.is_false ?_ ?_);decide;conv=>whnf)|((with_reducible refine Split.nez (fun _=>?_) (fun _=>?_))<;>conv=>whnf)|((with_reducible refine Split.eqz (fun _=>?_) (fun _=>?_))<;>conv=>whnf)|(with_reducible refine Split.and ?_)|(with_reducible refine Split.or ?_)|((with_reducible refine Split.streq (fun _=>?_) (fun _=>?_))<;>conv=>whnf)|((with_reducible refine Split.dec (fun _=>?_) (fun _=>?_))<;>conv=>whnf)|((with_reducible refine Split.mk (fun _=>?_) (fun _=>?_))<;>conv=>whnf)|((with_reducible refine NilK.mk (fun _=>?_) ?_)<;>conv=>whnf)|((with_reducible refine AltK.l ?_);(conv=>whnf);(with_reducible refine Need.mk ?_ ?_);(first|omega|(refine ⟨?_,?_⟩<;>simp<;>omega)|(simp;omega));conv=>whnf)|((with_reducible refine Need.mk ?_ ?_);(first|omega|rfl|decide|(refine ⟨?_,?_⟩<;>simp<;>omega)|(simp;omega));conv=>whnf)|((with_reducible refine Wr.quo ?_ ?_ ?_ ?_);omega;omega;omega;conv=>whnf)|((with_reducible refine Wr.inr ?_ ?_);(first|omega|(simp;omega));conv=>whnf)|((with_reducible refine Wr.inu ?_ ?_);omega;conv=>whnf)|((with_reducible refine AltK.l ?_);(conv=>whnf);(first|(refine CallK.mk _ (ev_IsName _) ?_)|(refine CallK.mk _ (ev_Record g) ?_));conv=>whnf)|(exfalso;first|omega|contradiction)|fail)
 all_goals simp_all [retOf, gErr]
end Go.Proofs.Tryd
end

section
namespace Go.Proofs.Tryd
open Go Go.Vm
set_option maxRecDepth 20000
set_option maxHeartbeats 2000000
theorem markErr_zero : ∀ (l : List Mk) (p : Option Mk), markErr p l = 0 → (∀ m ∈ l, wrongB m.m m.l = false) ∧ l.Pairwise (fun a b => a.m < b.m) ∧ ∀ q, p = some q → ∀ m ∈ l, q.m < m.m
 | [], p, _ => ⟨(fun m h => (by cases h)), .nil, (fun q _ m h => (by cases h))⟩
 | m :: r, p, h => by
  simp only [markErr] at h
  split at h
  ·cases h
  ·rename_i hw
   have hw : wrongB m.m m.l = false := by simpa using hw
   have key : markErr (some m) r = 0 ∧ ∀ q, p = some q → q.m < m.m := by
    cases p with
    | none => exact ⟨h, (fun q hq => (by cases hq))⟩
    | some q0 =>
     simp only at h
     split at h
     ·cases h
     ·rename_i hlt
      exact ⟨h, fun q hq => by cases hq; omega⟩
   obtain ⟨h1, h2, h3⟩ := markErr_zero r (some m) key.1
   refine ⟨fun x hx => ?_, List.pairwise_cons.2 ⟨h3 m rfl, h2⟩, fun q hq x hx => ?_⟩
   ·cases hx with
    | head => exact hw
    | tail _ hx => exact h1 x hx
   ·cases hx with
    | head => exact key.2 q hq
    | tail _ hx => have := key.2 q hq; have := h3 m rfl x hx; omega
structure Good (g : Ga) : Prop where
 err : 0 ≤ g.err ∧ g.err ≤ 1000
 x : -1000000 ≤ g.x ∧ g.x ≤ 1000000
 len : g.marks.length ≤ 400
 ok : ∀ m ∈ g.marks, wrongB m.m m.l = false
 asc : g.marks.Pairwise fun a b => a.m < b.m
theorem wrongB_false {m : Mk} (h : wrongB m.m m.l = false) : 0 ≤ m.m ∧ m.m ≤ 1000000 ∧ -20000 ≤ m.l ∧ m.l ≤ 20000 := by
 simp only [wrongB, outsideB, Bool.or_eq_false_iff, decide_eq_false_iff_not] at h
 omega
theorem good_of_rec {g : Ga} (h : recErr g = 0) : Good g := by
 unfold recErr at h
 split at h
 ·cases h
 ·rename_i h1
  split at h
  ·cases h
  ·obtain ⟨a, b, -⟩ := markErr_zero _ _ h
   simp only [outsideB, Bool.or_eq_true, decide_eq_true_eq, not_or] at h1
   exact ⟨by omega, by omega, by omega, a, b⟩
theorem good_of {g : Ga} (h : gErr g = 0) : Good g := by
 unfold gErr at h
 split at h
 ·exact good_of_rec h
 ·cases h
def shortB (g : Ga) : Bool := decide (g.name.size ≤ 40) && (decide (g.marks.length ≤ 30) || (decide (400 < g.marks.length) && decide (g.marks.length < 420)))
theorem ev_Short (g : Ga) : Ev Tryd.prog 5 [gD g] (.bool (shortB g)) := by
 have hlen : (g.marks.map mD).length = g.marks.length := List.length_map _
 refine ev_of_awp tysOk mixed (fn := Tryd.f5) Tryd.func5 rfl rfl rfl ?_
 conv => whnf
 repeat' (first|((with_reducible first|refine Split.of_true ?_|refine Split.of_false ?_);conv=>whnf)|(with_reducible refine Split.neg ?_)|((with_reducible refine Split.is_true ?_ ?_);decide;conv=>whnf)|((with_reducible refine Split.is_false ?_ ?_);decide;conv=>whnf)|((with_reducible refine Split.nez (fun _=>?_) (fun _=>?_))<;>conv=>whnf)|((with_reducible refine Split.eqz (fun _=>?_) (fun _=>?_))<;>conv=>whnf)|(with_reducible refine Split.and ?_)|(with_reducible refine Split.or ?_)|((with_reducible refine Split.streq (fun _=>?_) (fun _=>?_))<;>conv=>whnf)|((with_reducible refine Split.dec (fun _=>?_) (fun _=>?_))<;>conv=>whnf)|((with_reducible refine Split.mk (fun _=>?_) (fun _=>?_))<;>conv=>whnf)|((with_reducible refine NilK.mk (fun _=>?_) ?_)<;>conv=>whnf)|((with_reducible refine AltK.l ?_);(conv=>whnf);(with_reducible refine Need.mk ?_ ?_);(first|omega|(refine ⟨?_,?_⟩<;>simp<;>omega)|(simp;omega));conv=>whnf)|((with_reducible refine Need.mk ?_ ?_);(first|omega|rfl|decide|(refine ⟨?_,?_⟩<;>simp<;>omega)|(simp;omega));conv=>whnf)|((with_reducible refine Wr.quo ?_ ?_ ?_ ?_);omega;omega;omega;conv=>whnf)|((with_reducible refine Wr.inr ?_ ?_);(first|omega|(simp;omega));conv=>whnf)|((with_reducible refine Wr.inu ?_ ?_);omega;conv=>whnf)|(exfalso;first|omega|contradiction)|fail)
 all_goals simp only [retOf, shortB]
 all_goals congr 1
 all_goals rw [Bool.eq_iff_iff]
 all_goals simp
 all_goals omega
def pierG : Ga := ⟨⟨#[112, 105, 101, 114]⟩, 0, 2, [⟨0, 0⟩, ⟨10, 25⟩]⟩
theorem ev_pier : Ev Tryd.prog 12 [] (gD pierG) := by
 refine ev_of_awp tysOk mixed (fn := Tryd.f12) Tryd.func12 rfl rfl rfl ?_
 conv => whnf
 repeat' (first|((with_reducible first|refine Split.of_true ?_|refine Split.of_false ?_);conv=>whnf)|(with_reducible refine Split.neg ?_)|((with_reducible refine Split.is_true ?_ ?_);decide;conv=>whnf)|((with_reducible refine Split.is_false ?_ ?_);decide;conv=>whnf)|((with_reducible refine Split.nez (fun _=>?_) (fun _=>?_))<;>conv=>whnf)|((with_reducible refine Split.eqz (fun _=>?_) (fun _=>?_))<;>conv=>whnf)|(with_reducible refine Split.and ?_)|(with_reducible refine Split.or ?_)|((with_reducible refine Split.streq (fun _=>?_) (fun _=>?_))<;>conv=>whnf)|((with_reducible refine Split.dec (fun _=>?_) (fun _=>?_))<;>conv=>whnf)|((with_reducible refine Split.mk (fun _=>?_) (fun _=>?_))<;>conv=>whnf)|((with_reducible refine NilK.mk (fun _=>?_) ?_)<;>conv=>whnf)|((with_reducible refine AltK.l ?_);(conv=>whnf);(with_reducible refine Need.mk ?_ ?_);(first|omega|(refine ⟨?_,?_⟩<;>simp<;>omega)|(simp;omega));conv=>whnf)|((with_reducible refine Need.mk ?_ ?_);(first|omega|rfl|decide|(refine ⟨?_,?_⟩<;>simp<;>omega)|(simp;omega));conv=>whnf)|((with_reducible refine Wr.quo ?_ ?_ ?_ ?_);omega;omega;omega;conv=>whnf)|((with_reducible refine Wr.inr ?_ ?_);(first|omega|(simp;omega));conv=>whnf)|((with_reducible refine Wr.inu ?_ ?_);omega;conv=>whnf)|(exfalso;first|omega|contradiction)|fail)
 rfl
end Go.Proofs.Tryd
end

section
namespace Go.Proofs.Tryd
open Go Go.Vm
set_option maxRecDepth 20000
set_option maxHeartbeats 4000000
def nl : ByteArray := ⟨#[10]⟩
def sp : ByteArray := ⟨#[32]⟩
def markT (m : Mk) : ByteArray := itoaB m.m ++ sp ++ itoaB m.l ++ nl
def headT (g : Ga) : ByteArray := (⟨#[103, 97, 117, 103, 101, 32]⟩ : ByteArray) ++ g.name ++ sp ++ itoaB g.x ++ sp ++ itoaB g.err ++ nl
def marksT : ByteArray → List Mk → ByteArray
 | s, [] => s
 | s, m :: r => marksT (s ++ markT m) r
def gText (g : Ga) : ByteArray := marksT (headT g) g.marks
theorem name_le {s : ByteArray} (h : nameB s = true) : s.size ≤ 12 := by
 simp only [nameB, Bool.and_eq_true, decide_eq_true_eq] at h
 exact h.1.2
theorem gErr_name {g : Ga} (h : gErr g = 0) : nameB g.name = true := by
 unfold gErr at h
 split at h
 ·assumption
 ·cases h
theorem mark_bd {m : Mk} (h : wrongB m.m m.l = false) : (itoaB m.m).size ≤ 21 ∧ (itoaB m.l).size ≤ 21 := by
 have := wrongB_false h
 exact ⟨itoaB_size _ (by omega), itoaB_size _ (by omega)⟩
theorem ev_Print (g : Ga) (hg : gErr g = 0) : Ev Tryd.prog 6 [gD g] (.tup [.str (gText g), .int .i64 0]) := by
 have h0 := ev_CheckGauge g
 rw [hg] at h0
 obtain ⟨g1, g2, g3, g4, g5⟩ := good_of hg
 have gn := name_le (gErr_name hg)
 have b1 := itoaB_size g.x (by omega)
 have b2 := itoaB_size g.err (by omega)
 have hl : (g.marks.map mD).length = g.marks.length := List.length_map _
 have hw : ∀ v t (s : ByteArray), t.size + s.size ≤ 140737488355328 → EvX Tryd.prog 13 [.ptr 5 0, .d (.str s)] [(5, .bld v 40 5 t)] (.tup [.d (.int .i64 s.size), .d (.ifc false)]) [(5, .bld (v + 1) 40 5 (t ++ s))] := fun v t s h => (xv_ws v t s h).rn [(1000, 5)] rfl
 have hs : ∀ v s, EvX Tryd.prog 15 [.ptr 5 0] [(5, .bld v 40 5 s)] (.d (.str s)) [(5, .gone)] := fun v s => (xv_str v s).rn [(1000, 5)] rfl
 have z0 : (⟨#[]⟩ : ByteArray).size = 0 := rfl
 have z1 : (⟨#[103, 97, 117, 103, 101, 32]⟩ : ByteArray).size = 6 := rfl
 have z2 : (⟨#[32]⟩ : ByteArray).size = 1 := rfl
 have z3 : (⟨#[10]⟩ : ByteArray).size = 1 := rfl
 have e0 : (⟨#[]⟩ : ByteArray) ++ headT g = headT g := ByteArray.ext (by simp [ByteArray.data_append])
 have hh : (headT g).size ≤ 100 := by simp only [headT, sp, nl, ByteArray.size_append]; omega
 refine ev_of_awp tysOk mixed (fn := Tryd.f6) Tryd.func6 rfl rfl rfl ?_
 conv => whnf
 repeat' (first|((with_reducible first|refine Split.of_true ?_|refine Split.of_false ?_);conv=>whnf)|(with_reducible refine Split.neg ?_)|((with_reducible refine Split.is_true ?_ ?_);decide;conv=>whnf)|((with_reducible refine Split.is_false ?_ ?_);decide;conv=>whnf)|((with_reducible refine Split.nez (fun _=>?_) (fun _=>?_))<;>conv=>whnf)|((with_reducible refine Split.eqz (fun _=>?_) (fun _=>?_))<;>conv=>whnf)|(with_reducible refine Split.and ?_)|(with_reducible refine Split.or ?_)|((with_reducible refine Split.streq (fun _=>?_) (fun _=>?_))<;>conv=>whnf)|((with_reducible refine Split.dec (fun _=>?_) (fun _=>?_))<;>conv=>whnf)|((with_reducible refine Split.mk (fun _=>?_) (fun _=>?_))<;>conv=>whnf)|((with_reducible refine NilK.mk (fun _=>?_) ?_)<;>conv=>whnf)|((with_reducible refine AltK.l ?_);(conv=>whnf);(with_reducible refine Need.mk ?_ ?_);(first|omega|(refine ⟨?_,?_⟩<;>simp<;>omega)|(simp;omega));conv=>whnf)|((with_reducible refine Need.mk ?_ ?_);(first|omega|rfl|decide|(refine ⟨?_,?_⟩<;>simp<;>omega)|(simp;omega));conv=>whnf)|((with_reducible refine Wr.quo ?_ ?_ ?_ ?_);omega;omega;omega;conv=>whnf)|((with_reducible refine Wr.inr ?_ ?_);(first|omega|(simp;omega));conv=>whnf)|((with_reducible refine Wr.inu ?_ ?_);omega;conv=>whnf)|((with_reducible refine AltK.r ?_);(conv=>whnf);(first|(refine CallX.mk _ _ (hw _ _ _ (by simp only [ByteArray.size_append];omega)) rfl ?_)|(refine CallX.mk _ _ (hs _ _) rfl ?_));conv=>whnf)|((with_reducible refine AltK.l ?_);(conv=>whnf);(first|(refine CallK.mk _ (h0) ?_)|(refine CallK.mk _ (ev_Itoa _ (by omega)) ?_));conv=>whnf)|(exfalso;first|omega|contradiction)|fail)
 refine LoopK.o2 (fun r : Nat × ByteArray => r.1 ≤ g.marks.length ∧ marksT r.2 (g.marks.drop r.1) = gText g ∧ r.2.size ≤ 200 + 100 * r.1) (fun r => [(31, .d (.int .i64 r.1))]) (fun r => [(5, .bld 0 40 5 r.2)]) (fun r => g.marks.length - r.1)
  (0, headT g) ⟨Nat.zero_le _, rfl, by show (headT g).size ≤ _;omega⟩ (by refine ⟨?_, ?_, rfl⟩<;>(repeat' (first|exact True.intro|exact rfl|(refine ⟨?_,?_⟩)|(intro h;cases h;done)|(intro h;exact h)|exact map_snoc|(refine own_congr ?_;simp;done)|(refine int_congr ?_;(first|omega|(simp;omega)))|(simp;done)|((first|refine own_congr ?_|refine int_congr ?_|skip);simp [e0];done)|((first|refine own_congr ?_|refine int_congr ?_);simp [e0];omega)|(show @Eq (List Go.Vm.D) _ [];simp [e0];done)|(simp [D.cells,e0];done)|fail));done) ?_
 rintro ⟨i, s⟩ ⟨hi, hs1, hs2⟩
 have hi : i ≤ g.marks.length := hi
 have hs2 : s.size ≤ 200 + 100 * i := hs2
 by_cases hil : i < g.marks.length
 ·obtain ⟨m, hm⟩ := some_of_lt (l := g.marks) (i := i) hil
  obtain ⟨c1, c2⟩ := mark_bd (g4 m (List.mem_of_getElem? hm))
  have c3 := wrongB_false (g4 m (List.mem_of_getElem? hm))
  conv => whnf
  repeat' (first|((refine PickE.map i hm (by omega) ?_);conv=>whnf)|((with_reducible first|refine Split.of_true ?_|refine Split.of_false ?_);conv=>whnf)|(with_reducible refine Split.neg ?_)|((with_reducible refine Split.is_true ?_ ?_);decide;conv=>whnf)|((with_reducible refine Split.is_false ?_ ?_);decide;conv=>whnf)|((with_reducible refine Split.nez (fun _=>?_) (fun _=>?_))<;>conv=>whnf)|((with_reducible refine Split.eqz (fun _=>?_) (fun _=>?_))<;>conv=>whnf)|(with_reducible refine Split.and ?_)|(with_reducible refine Split.or ?_)|((with_reducible refine Split.streq (fun _=>?_) (fun _=>?_))<;>conv=>whnf)|((with_reducible refine Split.dec (fun _=>?_) (fun _=>?_))<;>conv=>whnf)|((with_reducible refine Split.mk (fun _=>?_) (fun _=>?_))<;>conv=>whnf)|((with_reducible refine NilK.mk (fun _=>?_) ?_)<;>conv=>whnf)|((with_reducible refine AltK.l ?_);(conv=>whnf);(with_reducible refine Need.mk ?_ ?_);(first|omega|(refine ⟨?_,?_⟩<;>simp<;>omega)|(simp;omega));conv=>whnf)|((with_reducible refine Need.mk ?_ ?_);(first|omega|rfl|decide|(refine ⟨?_,?_⟩<;>simp<;>omega)|(simp;omega));conv=>whnf)|((with_reducible refine Wr.quo ?_ ?_ ?_ ?_);omega;omega;omega;conv=>whnf)|((with_reducible refine Wr.inr ?_ ?_);(first|omega|(simp;omega));conv=>whnf)|((with_reducible refine Wr.inu ?_ ?_);omega;conv=>whnf)|((with_reducible refine AltK.r ?_);(conv=>whnf);(first|(refine CallX.mk _ _ (hw _ _ _ (by simp only [ByteArray.size_append];omega)) rfl ?_));conv=>whnf)|((with_reducible refine AltK.l ?_);(conv=>whnf);(first|(refine CallK.mk _ (ev_Itoa _ (by omega)) ?_));conv=>whnf)|(exfalso;first|omega|contradiction)|fail)
  all_goals first
   |(exfalso; dsimp only at *; omega)
   | exact Again.au (i + 1, s ++ markT m) ⟨by show i + 1 ≤ _;omega, by rw [drop_of hm] at hs1;exact hs1, by show (s ++ markT m).size ≤ _;simp only [markT, sp, nl, ByteArray.size_append];omega⟩ (by show g.marks.length - (i + 1) < g.marks.length - i;omega) (by refine ⟨?_, ?_, rfl⟩<;>(repeat' (first|exact True.intro|exact rfl|(refine ⟨?_,?_⟩)|(intro h;cases h;done)|(intro h;exact h)|exact map_snoc|(refine own_congr ?_;simp;done)|(refine int_congr ?_;(first|omega|(simp;omega)))|(simp;done)|fail));done)
 ·have hs3 : s = gText g := by
   have : i = g.marks.length := by omega
   rw [← hs1]
   show s = marksT s (g.marks.drop i)
   rw [this, List.drop_length]
   rfl
  subst hs3
  conv => whnf
  repeat' (first|((with_reducible first|refine Split.of_true ?_|refine Split.of_false ?_);conv=>whnf)|(with_reducible refine Split.neg ?_)|((with_reducible refine Split.is_true ?_ ?_);decide;conv=>whnf)|((with_reducible refine Split.is_false ?_ ?_);decide;conv=>whnf)|((with_reducible refine Split.nez (fun _=>?_) (fun _=>?_))<;>conv=>whnf)|((with_reducible refine Split.eqz (fun _=>?_) (fun _=>?_))<;>conv=>whnf)|(with_reducible refine Split.and ?_)|(with_reducible refine Split.or ?_)|((with_reducible refine Split.streq (fun _=>?_) (fun _=>?_))<;>conv=>whnf)|((with_reducible refine Split.dec (fun _=>?_) (fun _=>?_))<;>conv=>whnf)|((with_reducible refine Split.mk (fun _=>?_) (fun _=>?_))<;>conv=>whnf)|((with_reducible refine NilK.mk (fun _=>?_) ?_)<;>conv=>whnf)|((with_reducible refine AltK.l ?_);(conv=>whnf);(with_reducible refine Need.mk ?_ ?_);(first|omega|(refine ⟨?_,?_⟩<;>simp<;>omega)|(simp;omega));conv=>whnf)|((with_reducible refine Need.mk ?_ ?_);(first|omega|rfl|decide|(refine ⟨?_,?_⟩<;>simp<;>omega)|(simp;omega));conv=>whnf)|((with_reducible refine Wr.quo ?_ ?_ ?_ ?_);omega;omega;omega;conv=>whnf)|((with_reducible refine Wr.inr ?_ ?_);(first|omega|(simp;omega));conv=>whnf)|((with_reducible refine Wr.inu ?_ ?_);omega;conv=>whnf)|((with_reducible refine AltK.r ?_);(conv=>whnf);(first|(refine CallX.mk _ _ (hs _ _) rfl ?_));conv=>whnf)|(exfalso;first|omega|contradiction)|fail)
  all_goals first
   |(exfalso; dsimp only at *; omega)
   | rfl
theorem ev_PrintNo (g : Ga) (hg : gErr g ≠ 0) : Ev Tryd.prog 6 [gD g] (.tup [.str ⟨#[]⟩, .int .i64 (gErr g)]) := by
 have h0 := ev_CheckGauge g
 refine ev_of_awp tysOk mixed (fn := Tryd.f6) Tryd.func6 rfl rfl rfl ?_
 conv => whnf
 repeat' (first|((with_reducible first|refine Split.of_true ?_|refine Split.of_false ?_);conv=>whnf)|(with_reducible refine Split.neg ?_)|((with_reducible refine Split.is_true ?_ ?_);decide;conv=>whnf)|((with_reducible refine Split.is_false ?_ ?_);decide;conv=>whnf)|((with_reducible refine Split.nez (fun _=>?_) (fun _=>?_))<;>conv=>whnf)|((with_reducible refine Split.eqz (fun _=>?_) (fun _=>?_))<;>conv=>whnf)|(with_reducible refine Split.and ?_)|(with_reducible refine Split.or ?_)|((with_reducible refine Split.streq (fun _=>?_) (fun _=>?_))<;>conv=>whnf)|((with_reducible refine Split.dec (fun _=>?_) (fun _=>?_))<;>conv=>whnf)|((with_reducible refine Split.mk (fun _=>?_) (fun _=>?_))<;>conv=>whnf)|((with_reducible refine NilK.mk (fun _=>?_) ?_)<;>conv=>whnf)|((with_reducible refine AltK.l ?_);(conv=>whnf);(with_reducible refine Need.mk ?_ ?_);(first|omega|(refine ⟨?_,?_⟩<;>simp<;>omega)|(simp;omega));conv=>whnf)|((with_reducible refine Need.mk ?_ ?_);(first|omega|rfl|decide|(refine ⟨?_,?_⟩<;>simp<;>omega)|(simp;omega));conv=>whnf)|((with_reducible refine Wr.quo ?_ ?_ ?_ ?_);omega;omega;omega;conv=>whnf)|((with_reducible refine Wr.inr ?_ ?_);(first|omega|(simp;omega));conv=>whnf)|((with_reducible refine Wr.inu ?_ ?_);omega;conv=>whnf)|((with_reducible refine AltK.l ?_);(conv=>whnf);(first|(refine CallK.mk _ (h0) ?_));conv=>whnf)|(exfalso;first|omega|contradiction)|fail)
 rfl
theorem ev_written : Ev Tryd.prog 4 [] (.bool true) := by
 have h := ev_Print pierG (by decide)
 have i0 : itoaB 0 = ⟨#[48]⟩ := by simp [itoaB, Lib.itoa, Lib.decDigits_one]
 have i2 : itoaB 2 = ⟨#[50]⟩ := by simp [itoaB, Lib.itoa, Lib.decDigits_one]
 have i10 : itoaB 10 = ⟨#[49, 48]⟩ := by simp [itoaB, Lib.itoa, Lib.decDigits_two]
 have i25 : itoaB 25 = ⟨#[50, 53]⟩ := by simp [itoaB, Lib.itoa, Lib.decDigits_two]
 have e : gText pierG = ⟨#[103, 97, 117, 103, 101, 32, 112, 105, 101, 114, 32, 48, 32, 50, 10, 48, 32, 48, 10, 49, 48, 32, 50, 53, 10]⟩ := by
  show (⟨#[103, 97, 117, 103, 101, 32]⟩ : ByteArray) ++ ⟨#[112, 105, 101, 114]⟩ ++ sp ++ itoaB 0 ++ sp ++ itoaB 2 ++ nl ++ (itoaB 0 ++ sp ++ itoaB 0 ++ nl) ++ (itoaB 10 ++ sp ++ itoaB 25 ++ nl) = _
  rw [i0, i2, i10, i25]
  rfl
 rw [e] at h
 refine ev_of_awp tysOk mixed (fn := Tryd.f4) Tryd.func4 rfl rfl rfl ?_
 conv => whnf
 repeat' (first|((with_reducible first|refine Split.of_true ?_|refine Split.of_false ?_);conv=>whnf)|(with_reducible refine Split.neg ?_)|((with_reducible refine Split.is_true ?_ ?_);decide;conv=>whnf)|((with_reducible refine Split.is_false ?_ ?_);decide;conv=>whnf)|((with_reducible refine Split.nez (fun _=>?_) (fun _=>?_))<;>conv=>whnf)|((with_reducible refine Split.eqz (fun _=>?_) (fun _=>?_))<;>conv=>whnf)|(with_reducible refine Split.and ?_)|(with_reducible refine Split.or ?_)|((with_reducible refine Split.streq (fun _=>?_) (fun _=>?_))<;>conv=>whnf)|((with_reducible refine Split.dec (fun _=>?_) (fun _=>?_))<;>conv=>whnf)|((with_reducible refine Split.mk (fun _=>?_) (fun _=>?_))<;>conv=>whnf)|((with_reducible refine NilK.mk (fun _=>?_) ?_)<;>conv=>whnf)|((with_reducible refine AltK.l ?_);(conv=>whnf);(with_reducible refine Need.mk ?_ ?_);(first|omega|(refine ⟨?_,?_⟩<;>simp<;>omega)|(simp;omega));conv=>whnf)|((with_reducible refine Need.mk ?_ ?_);(first|omega|rfl|decide|(refine ⟨?_,?_⟩<;>simp<;>omega)|(simp;omega));conv=>whnf)|((with_reducible refine Wr.quo ?_ ?_ ?_ ?_);omega;omega;omega;conv=>whnf)|((with_reducible refine Wr.inr ?_ ?_);(first|omega|(simp;omega));conv=>whnf)|((with_reducible refine Wr.inu ?_ ?_);omega;conv=>whnf)|((with_reducible refine AltK.l ?_);(conv=>whnf);(first|(refine CallK.mk _ (ev_pier) ?_)|(refine CallK.mk _ (h) ?_));conv=>whnf)|(exfalso;first|omega|contradiction)|fail)
 simp [retOf]
end Go.Proofs.Tryd
end
