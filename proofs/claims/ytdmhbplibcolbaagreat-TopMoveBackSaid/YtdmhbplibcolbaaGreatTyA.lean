/- A part of the proof: no statement of the seat is proved in this text. -/
import Derived.Test.YtdmhbplibcolbaaGreatAi19
import Derived.Test.YtdmhbplibcolbaaGreatProg
import Derived.KernelRfl
set_option linter.unusedVariables false
set_option linter.unusedSimpArgs false
set_option maxRecDepth 20000
namespace Go.Ai.Tryz
open Go Go.Ai Go.Proofs
def sf22 : Array Field := #[{ name := "Act", type := 3, offset := 0, embedded := false, tag := "", pkgPath := "", byteOffset := 0 }, { name := "Item", type := 3, offset := 1, embedded := false, tag := "", pkgPath := "", byteOffset := 8 }, { name := "N", type := 3, offset := 2, embedded := false, tag := "", pkgPath := "", byteOffset := 16 }]
def sf26 : Array Field := #[{ name := "Id", type := 23, offset := 0, embedded := false, tag := "", pkgPath := "", byteOffset := 0 }, { name := "Kind", type := 3, offset := 3, embedded := false, tag := "", pkgPath := "", byteOffset := 24 }, { name := "Label", type := 9, offset := 4, embedded := false, tag := "", pkgPath := "", byteOffset := 32 }, { name := "Head", type := 24, offset := 5, embedded := false, tag := "", pkgPath := "", byteOffset := 48 }, { name := "Words", type := 24, offset := 6, embedded := false, tag := "", pkgPath := "", byteOffset := 72 }, { name := "Kids", type := 25, offset := 7, embedded := false, tag := "", pkgPath := "", byteOffset := 96 }]
def sf30 : Array Field := #[{ name := "Kind", type := 3, offset := 0, embedded := false, tag := "", pkgPath := "", byteOffset := 0 }, { name := "Day", type := 3, offset := 1, embedded := false, tag := "", pkgPath := "", byteOffset := 8 }, { name := "Event", type := 9, offset := 2, embedded := false, tag := "", pkgPath := "", byteOffset := 16 }]
def sf33 : Array Field := #[{ name := "Kind", type := 3, offset := 0, embedded := false, tag := "", pkgPath := "", byteOffset := 0 }, { name := "At", type := 28, offset := 1, embedded := false, tag := "", pkgPath := "", byteOffset := 8 }, { name := "To", type := 28, offset := 2, embedded := false, tag := "", pkgPath := "", byteOffset := 32 }, { name := "Where", type := 3, offset := 3, embedded := false, tag := "", pkgPath := "", byteOffset := 56 }, { name := "Nth", type := 3, offset := 4, embedded := false, tag := "", pkgPath := "", byteOffset := 64 }, { name := "Unit", type := 27, offset := 5, embedded := false, tag := "", pkgPath := "", byteOffset := 72 }, { name := "Old", type := 29, offset := 13, embedded := false, tag := "", pkgPath := "", byteOffset := 192 }, { name := "New", type := 29, offset := 14, embedded := false, tag := "", pkgPath := "", byteOffset := 216 }, { name := "Label", type := 9, offset := 15, embedded := false, tag := "", pkgPath := "", byteOffset := 240 }, { name := "For", type := 9, offset := 16, embedded := false, tag := "", pkgPath := "", byteOffset := 256 }, { name := "Start", type := 31, offset := 17, embedded := false, tag := "", pkgPath := "", byteOffset := 272 }, { name := "Act", type := 3, offset := 20, embedded := false, tag := "", pkgPath := "", byteOffset := 304 }, { name := "Item", type := 3, offset := 21, embedded := false, tag := "", pkgPath := "", byteOffset := 312 }, { name := "Day", type := 3, offset := 22, embedded := false, tag := "", pkgPath := "", byteOffset := 320 }, { name := "Event", type := 9, offset := 23, embedded := false, tag := "", pkgPath := "", byteOffset := 328 }, { name := "By", type := 32, offset := 24, embedded := false, tag := "", pkgPath := "", byteOffset := 344 }]
def sf35 : Array Field := #[{ name := "Act", type := 3, offset := 0, embedded := false, tag := "", pkgPath := "", byteOffset := 0 }, { name := "Item", type := 3, offset := 1, embedded := false, tag := "", pkgPath := "", byteOffset := 8 }, { name := "Day", type := 3, offset := 2, embedded := false, tag := "", pkgPath := "", byteOffset := 16 }, { name := "It", type := 34, offset := 3, embedded := false, tag := "", pkgPath := "", byteOffset := 24 }]
def sf55 : Array Field := #[{ name := "Kind", type := 3, offset := 0, embedded := false, tag := "", pkgPath := "", byteOffset := 0 }, { name := "Label", type := 9, offset := 1, embedded := false, tag := "", pkgPath := "", byteOffset := 8 }]
def sf81 : Array Field := #[{ name := "parent", type := 23, offset := 0, embedded := false, tag := "", pkgPath := "pandect/target", byteOffset := 0 }, { name := "at", type := 3, offset := 3, embedded := false, tag := "", pkgPath := "pandect/target", byteOffset := 24 }]
def sf104 : Array Field := #[{ name := "Act", type := 3, offset := 0, embedded := false, tag := "", pkgPath := "", byteOffset := 0 }, { name := "Item", type := 3, offset := 1, embedded := false, tag := "", pkgPath := "", byteOffset := 8 }, { name := "At", type := 3, offset := 2, embedded := false, tag := "", pkgPath := "", byteOffset := 16 }]
def sf106 : Array Field := #[{ name := "Text", type := 9, offset := 0, embedded := false, tag := "", pkgPath := "", byteOffset := 0 }, { name := "By", type := 105, offset := 1, embedded := false, tag := "", pkgPath := "", byteOffset := 16 }]
@[go_sem] def ty1 : TyI := ⟨.func #[] #[] false, 1, 8, false, [.nilF], [], []⟩
@[go_sem] def ty2 : TyI := ⟨.int .i64, 1, 8, false, [.int .i64 0], [], [.int .i64]⟩
@[go_sem] def ty3 : TyI := ⟨.int .i64, 1, 8, false, [.int .i64 0], [], [.int .i64]⟩
@[go_sem] def ty4 : TyI := ⟨.bool, 1, 1, false, [.bool false], [], [.bool]⟩
@[go_sem] def ty5 : TyI := ⟨.int .u8, 1, 1, false, [.int .u8 0], [], [.int .u8]⟩
@[go_sem] def ty9 : TyI := ⟨.string, 1, 16, false, [.str ByteArray.empty], [], [.str]⟩
@[go_sem] def ty12 : TyI := ⟨.int .u64, 1, 8, false, [.int .u64 0], [], [.int .u64]⟩
@[go_sem] def ty16 : TyI := ⟨.pointer 146, 1, 8, false, [.nilP], [], []⟩
@[go_sem] def ty21 : TyI := ⟨.int .i32, 1, 4, false, [.int .i32 0], [], [.int .i32]⟩
@[go_sem] def ty22 : TyI := ⟨.struct sf22, 3, 24, true, [.int .i64 0, .int .i64 0, .int .i64 0], [(0, 1, false), (1, 1, false), (2, 1, false)], [.int .i64, .int .i64, .int .i64]⟩
@[go_sem] def ty23 : TyI := ⟨.struct sf22, 3, 24, true, [.int .i64 0, .int .i64 0, .int .i64 0], [(0, 1, false), (1, 1, false), (2, 1, false)], [.int .i64, .int .i64, .int .i64]⟩
@[go_sem] def ty24 : TyI := ⟨.slice 107, 1, 24, false, [.nilS], [], []⟩
@[go_sem] def ty25 : TyI := ⟨.slice 27, 1, 24, false, [.nilS], [], []⟩
@[go_sem] def ty26 : TyI := ⟨.struct sf26, 8, 120, true, [.int .i64 0, .int .i64 0, .int .i64 0, .int .i64 0, .str ByteArray.empty, .nilS, .nilS, .nilS], [(0, 3, true), (3, 1, false), (4, 1, false), (5, 1, false), (6, 1, false), (7, 1, false)], []⟩
@[go_sem] def ty27 : TyI := ⟨.struct sf26, 8, 120, true, [.int .i64 0, .int .i64 0, .int .i64 0, .int .i64 0, .str ByteArray.empty, .nilS, .nilS, .nilS], [(0, 3, true), (3, 1, false), (4, 1, false), (5, 1, false), (6, 1, false), (7, 1, false)], []⟩
@[go_sem] def ty28 : TyI := ⟨.slice 56, 1, 24, false, [.nilS], [], []⟩
@[go_sem] def ty29 : TyI := ⟨.slice 9, 1, 24, false, [.nilS], [], []⟩
@[go_sem] def ty30 : TyI := ⟨.struct sf30, 3, 32, true, [.int .i64 0, .int .i64 0, .str ByteArray.empty], [(0, 1, false), (1, 1, false), (2, 1, false)], [.int .i64, .int .i64, .str]⟩
@[go_sem] def ty31 : TyI := ⟨.struct sf30, 3, 32, true, [.int .i64 0, .int .i64 0, .str ByteArray.empty], [(0, 1, false), (1, 1, false), (2, 1, false)], [.int .i64, .int .i64, .str]⟩
@[go_sem] def ty32 : TyI := ⟨.slice 34, 1, 24, false, [.nilS], [], []⟩
@[go_sem] def ty33 : TyI := ⟨.struct sf33, 25, 368, true, [.int .i64 0, .nilS, .nilS, .int .i64 0, .int .i64 0, .int .i64 0, .int .i64 0, .int .i64 0, .int .i64 0, .str ByteArray.empty, .nilS, .nilS, .nilS, .nilS, .nilS, .str ByteArray.empty, .str ByteArray.empty, .int .i64 0, .int .i64 0, .str ByteArray.empty, .int .i64 0, .int .i64 0, .int .i64 0, .str ByteArray.empty, .nilS], [(0, 1, false), (1, 1, false), (2, 1, false), (3, 1, false), (4, 1, false), (5, 8, true), (13, 1, false), (14, 1, false), (15, 1, false), (16, 1, false), (17, 3, true), (20, 1, false), (21, 1, false), (22, 1, false), (23, 1, false), (24, 1, false)], []⟩
@[go_sem] def ty34 : TyI := ⟨.struct sf33, 25, 368, true, [.int .i64 0, .nilS, .nilS, .int .i64 0, .int .i64 0, .int .i64 0, .int .i64 0, .int .i64 0, .int .i64 0, .str ByteArray.empty, .nilS, .nilS, .nilS, .nilS, .nilS, .str ByteArray.empty, .str ByteArray.empty, .int .i64 0, .int .i64 0, .str ByteArray.empty, .int .i64 0, .int .i64 0, .int .i64 0, .str ByteArray.empty, .nilS], [(0, 1, false), (1, 1, false), (2, 1, false), (3, 1, false), (4, 1, false), (5, 8, true), (13, 1, false), (14, 1, false), (15, 1, false), (16, 1, false), (17, 3, true), (20, 1, false), (21, 1, false), (22, 1, false), (23, 1, false), (24, 1, false)], []⟩
@[go_sem] def ty35 : TyI := ⟨.struct sf35, 28, 392, true, [.int .i64 0, .int .i64 0, .int .i64 0, .int .i64 0, .nilS, .nilS, .int .i64 0, .int .i64 0, .int .i64 0, .int .i64 0, .int .i64 0, .int .i64 0, .str ByteArray.empty, .nilS, .nilS, .nilS, .nilS, .nilS, .str ByteArray.empty, .str ByteArray.empty, .int .i64 0, .int .i64 0, .str ByteArray.empty, .int .i64 0, .int .i64 0, .int .i64 0, .str ByteArray.empty, .nilS], [(0, 1, false), (1, 1, false), (2, 1, false), (3, 25, true)], []⟩
@[go_sem] def ty36 : TyI := ⟨.struct sf35, 28, 392, true, [.int .i64 0, .int .i64 0, .int .i64 0, .int .i64 0, .nilS, .nilS, .int .i64 0, .int .i64 0, .int .i64 0, .int .i64 0, .int .i64 0, .int .i64 0, .str ByteArray.empty, .nilS, .nilS, .nilS, .nilS, .nilS, .str ByteArray.empty, .str ByteArray.empty, .int .i64 0, .int .i64 0, .str ByteArray.empty, .int .i64 0, .int .i64 0, .int .i64 0, .str ByteArray.empty, .nilS], [(0, 1, false), (1, 1, false), (2, 1, false), (3, 25, true)], []⟩
@[go_sem] def ty37 : TyI := ⟨.func #[27, 3] #[4] false, 1, 8, false, [.nilF], [], []⟩
@[go_sem] def ty38 : TyI := ⟨.func #[34] #[4] false, 1, 8, false, [.nilF], [], []⟩
@[go_sem] def ty39 : TyI := ⟨.int .i64, 1, 8, false, [.int .i64 0], [], [.int .i64]⟩
@[go_sem] def ty41 : TyI := ⟨.func #[27, 36] #[27, 39] false, 1, 8, false, [.nilF], [], []⟩
@[go_sem] def ty43 : TyI := ⟨.func #[27, 34] #[23, 39] false, 1, 8, false, [.nilF], [], []⟩
@[go_sem] def ty45 : TyI := ⟨.func #[27, 23] #[23, 3, 4] false, 1, 8, false, [.nilF], [], []⟩
@[go_sem] def ty47 : TyI := ⟨.func #[27, 23] #[27, 4] false, 1, 8, false, [.nilF], [], []⟩
@[go_sem] def ty49 : TyI := ⟨.func #[27, 23] #[28, 4] false, 1, 8, false, [.nilF], [], []⟩
@[go_sem] def ty51 : TyI := ⟨.func #[27, 34] #[23, 3, 39] false, 1, 8, false, [.nilF], [], []⟩
@[go_sem] def ty52 : TyI := ⟨.func #[27, 27] #[4] false, 1, 8, false, [.nilF], [], []⟩
@[go_sem] def ty53 : TyI := ⟨.func #[27, 36] #[4] false, 1, 8, false, [.nilF], [], []⟩
@[go_sem] def ty54 : TyI := ⟨.func #[27] #[4] false, 1, 8, false, [.nilF], [], []⟩
@[go_sem] def ty55 : TyI := ⟨.struct sf55, 2, 24, true, [.int .i64 0, .str ByteArray.empty], [(0, 1, false), (1, 1, false)], [.int .i64, .str]⟩
@[go_sem] def ty56 : TyI := ⟨.struct sf55, 2, 24, true, [.int .i64 0, .str ByteArray.empty], [(0, 1, false), (1, 1, false)], [.int .i64, .str]⟩
@[go_sem] def ty57 : TyI := ⟨.func #[3, 3, 3] #[4] false, 1, 8, false, [.nilF], [], []⟩
@[go_sem] def ty58 : TyI := ⟨.func #[34, 34] #[4] false, 1, 8, false, [.nilF], [], []⟩
@[go_sem] def ty59 : TyI := ⟨.func #[34] #[34] false, 1, 8, false, [.nilF], [], []⟩
@[go_sem] def ty60 : TyI := ⟨.func #[28] #[4] false, 1, 8, false, [.nilF], [], []⟩
@[go_sem] def ty61 : TyI := ⟨.func #[9] #[4] false, 1, 8, false, [.nilF], [], []⟩
@[go_sem] def ty62 : TyI := ⟨.func #[31] #[4] false, 1, 8, false, [.nilF], [], []⟩
@[go_sem] def ty64 : TyI := ⟨.func #[27] #[9, 3] false, 1, 8, false, [.nilF], [], []⟩
@[go_sem] def ty65 : TyI := ⟨.func #[29, 3] #[4] false, 1, 8, false, [.nilF], [], []⟩
@[go_sem] def ty66 : TyI := ⟨.func #[3] #[4] false, 1, 8, false, [.nilF], [], []⟩
@[go_sem] def ty67 : TyI := ⟨.func #[27, 28] #[23, 39] false, 1, 8, false, [.nilF], [], []⟩
@[go_sem] def ty68 : TyI := ⟨.func #[27, 23, 36] #[27, 39] false, 1, 8, false, [.nilF], [], []⟩
@[go_sem] def ty70 : TyI := ⟨.func #[27, 23] #[27, 3] false, 1, 8, false, [.nilF], [], []⟩
@[go_sem] def ty72 : TyI := ⟨.func #[27, 23] #[27, 3, 3] false, 1, 8, false, [.nilF], [], []⟩
@[go_sem] def ty73 : TyI := ⟨.func #[25, 3] #[25] false, 1, 8, false, [.nilF], [], []⟩
@[go_sem] def ty74 : TyI := ⟨.func #[27, 27] #[27] false, 1, 8, false, [.nilF], [], []⟩
@[go_sem] def ty76 : TyI := ⟨.func #[24, 34, 3, 3] #[24, 39] false, 1, 8, false, [.nilF], [], []⟩
@[go_sem] def ty77 : TyI := ⟨.func #[29, 3, 3, 3] #[24] false, 1, 8, false, [.nilF], [], []⟩
@[go_sem] def ty78 : TyI := ⟨.func #[25, 3, 9] #[4] false, 1, 8, false, [.nilF], [], []⟩
@[go_sem] def ty79 : TyI := ⟨.func #[27, 28] #[23, 39] true, 1, 8, false, [.nilF], [], []⟩
@[go_sem] def ty80 : TyI := ⟨.func #[27, 28, 3] #[23, 3, 39] false, 1, 8, false, [.nilF], [], []⟩
@[go_sem] def ty81 : TyI := ⟨.struct sf81, 4, 32, true, [.int .i64 0, .int .i64 0, .int .i64 0, .int .i64 0], [(0, 3, true), (3, 1, false)], [.int .i64, .int .i64, .int .i64, .int .i64]⟩
@[go_sem] def ty82 : TyI := ⟨.struct sf81, 4, 32, true, [.int .i64 0, .int .i64 0, .int .i64 0, .int .i64 0], [(0, 3, true), (3, 1, false)], [.int .i64, .int .i64, .int .i64, .int .i64]⟩
@[go_sem] def ty84 : TyI := ⟨.func #[27, 23, 23, 3] #[82, 39] false, 1, 8, false, [.nilF], [], []⟩
@[go_sem] def ty85 : TyI := ⟨.func #[24, 24] #[4] false, 1, 8, false, [.nilF], [], []⟩
@[go_sem] def ty86 : TyI := ⟨.func #[27, 3, 3] #[3] false, 1, 8, false, [.nilF], [], []⟩
@[go_sem] def ty87 : TyI := ⟨.func #[27] #[3] false, 1, 8, false, [.nilF], [], []⟩
@[go_sem] def ty88 : TyI := ⟨.func #[28, 28] #[4] false, 1, 8, false, [.nilF], [], []⟩
@[go_sem] def ty89 : TyI := ⟨.func #[29, 29] #[4] false, 1, 8, false, [.nilF], [], []⟩
@[go_sem] def ty90 : TyI := ⟨.func #[56] #[4] false, 1, 8, false, [.nilF], [], []⟩
@[go_sem] def ty91 : TyI := ⟨.func #[27] #[29] false, 1, 8, false, [.nilF], [], []⟩
@[go_sem] def ty92 : TyI := ⟨.func #[27] #[27] false, 1, 8, false, [.nilF], [], []⟩
@[go_sem] def ty93 : TyI := ⟨.func #[29] #[4] false, 1, 8, false, [.nilF], [], []⟩
@[go_sem] def ty94 : TyI := ⟨.func #[9] #[3] false, 1, 8, false, [.nilF], [], []⟩
@[go_sem] def ty95 : TyI := ⟨.slice 23, 1, 24, false, [.nilS], [], []⟩
@[go_sem] def ty96 : TyI := ⟨.func #[27, 28] #[95] false, 1, 8, false, [.nilF], [], []⟩
@[go_sem] def ty97 : TyI := ⟨.func #[27, 3, 3] #[27] false, 1, 8, false, [.nilF], [], []⟩
@[go_sem] def ty98 : TyI := ⟨.func #[3, 3] #[4] false, 1, 8, false, [.nilF], [], []⟩
@[go_sem] def ty99 : TyI := ⟨.func #[27] #[25] false, 1, 8, false, [.nilF], [], []⟩
@[go_sem] def ty100 : TyI := ⟨.func #[25, 3, 27] #[25] false, 1, 8, false, [.nilF], [], []⟩
@[go_sem] def ty101 : TyI := ⟨.func #[25, 23] #[3] false, 1, 8, false, [.nilF], [], []⟩
@[go_sem] def ty102 : TyI := ⟨.slice 3, 1, 24, false, [.nilS], [], []⟩
@[go_sem] def ty103 : TyI := ⟨.func #[24, 29] #[102] false, 1, 8, false, [.nilF], [], []⟩
@[go_sem] def ty104 : TyI := ⟨.struct sf104, 3, 24, true, [.int .i64 0, .int .i64 0, .int .i64 0], [(0, 1, false), (1, 1, false), (2, 1, false)], [.int .i64, .int .i64, .int .i64]⟩
@[go_sem] def ty105 : TyI := ⟨.struct sf104, 3, 24, true, [.int .i64 0, .int .i64 0, .int .i64 0], [(0, 1, false), (1, 1, false), (2, 1, false)], [.int .i64, .int .i64, .int .i64]⟩
@[go_sem] def ty106 : TyI := ⟨.struct sf106, 4, 40, true, [.str ByteArray.empty, .int .i64 0, .int .i64 0, .int .i64 0], [(0, 1, false), (1, 3, true)], [.str, .int .i64, .int .i64, .int .i64]⟩
@[go_sem] def ty107 : TyI := ⟨.struct sf106, 4, 40, true, [.str ByteArray.empty, .int .i64 0, .int .i64 0, .int .i64 0], [(0, 1, false), (1, 3, true)], [.str, .int .i64, .int .i64, .int .i64]⟩
@[go_sem] def ty108 : TyI := ⟨.func #[27, 28] #[95] true, 1, 8, false, [.nilF], [], []⟩
@[go_sem] def ty109 : TyI := ⟨.func #[27, 23] #[82, 39] false, 1, 8, false, [.nilF], [], []⟩
@[go_sem] def ty110 : TyI := ⟨.array 4 109, 4, 32, true, [.nilF, .nilF, .nilF, .nilF], [], []⟩
@[go_sem] def ty111 : TyI := ⟨.func #[] #[110] false, 1, 8, false, [.nilF], [], []⟩
@[go_sem] def ty112 : TyI := ⟨.func #[95, 23] #[4] false, 1, 8, false, [.nilF], [], []⟩
@[go_sem] def ty113 : TyI := ⟨.func #[27, 23] #[95] false, 1, 8, false, [.nilF], [], []⟩
@[go_sem] def ty114 : TyI := ⟨.func #[24] #[4] false, 1, 8, false, [.nilF], [], []⟩
@[go_sem] def ty115 : TyI := ⟨.func #[27] #[95] false, 1, 8, false, [.nilF], [], []⟩
@[go_sem] def ty116 : TyI := ⟨.func #[27, 3] #[29] false, 1, 8, false, [.nilF], [], []⟩
@[go_sem] def ty117 : TyI := ⟨.func #[24] #[24] false, 1, 8, false, [.nilF], [], []⟩
@[go_sem] def ty118 : TyI := ⟨.func #[27, 28] #[25] false, 1, 8, false, [.nilF], [], []⟩
@[go_sem] def ty119 : TyI := ⟨.func #[27, 3, 3, 3, 3] #[27, 3, 3] false, 1, 8, false, [.nilF], [], []⟩
@[go_sem] def ty120 : TyI := ⟨.func #[24, 3, 29] #[4] false, 1, 8, false, [.nilF], [], []⟩
@[go_sem] def ty121 : TyI := ⟨.func #[27, 23, 122] #[82, 39] false, 1, 8, false, [.nilF], [], []⟩
@[go_sem] def ty122 : TyI := ⟨.func #[3] #[3] false, 1, 8, false, [.nilF], [], []⟩
@[go_sem] def ty123 : TyI := ⟨.func #[27, 23, 3] #[82, 39] false, 1, 8, false, [.nilF], [], []⟩
@[go_sem] def ty124 : TyI := ⟨.func #[27, 23] #[25] false, 1, 8, false, [.nilF], [], []⟩
@[go_sem] def ty125 : TyI := ⟨.func #[25, 54] #[3] false, 1, 8, false, [.nilF], [], []⟩
@[go_sem] def ty126 : TyI := ⟨.func #[95, 23] #[3] false, 1, 8, false, [.nilF], [], []⟩
@[go_sem] def ty127 : TyI := ⟨.func #[27, 3] #[9] false, 1, 8, false, [.nilF], [], []⟩
@[go_sem] def ty128 : TyI := ⟨.func #[27, 56] #[4] false, 1, 8, false, [.nilF], [], []⟩
@[go_sem] def ty129 : TyI := ⟨.func #[24] #[29] false, 1, 8, false, [.nilF], [], []⟩
@[go_sem] def ty130 : TyI := ⟨.func #[28] #[4] true, 1, 8, false, [.nilF], [], []⟩
@[go_sem] def ty131 : TyI := ⟨.func #[27, 132] #[] false, 1, 8, false, [.nilF], [], []⟩
@[go_sem] def ty132 : TyI := ⟨.func #[27] #[] false, 1, 8, false, [.nilF], [], []⟩
@[go_sem] def ty133 : TyI := ⟨.func #[] #[29] false, 1, 8, false, [.nilF], [], []⟩
@[go_sem] def ty134 : TyI := ⟨.func #[24] #[9] false, 1, 8, false, [.nilF], [], []⟩
@[go_sem] def ty136 : TyI := ⟨.func #[9] #[9, 9] false, 1, 8, false, [.nilF], [], []⟩
@[go_sem] def ty137 : TyI := ⟨.func #[21] #[4] false, 1, 8, false, [.nilF], [], []⟩
@[go_sem] def ty138 : TyI := ⟨.func #[9, 137] #[4] false, 1, 8, false, [.nilF], [], []⟩
@[go_sem] def ty139 : TyI := ⟨.func #[9, 137] #[3] false, 1, 8, false, [.nilF], [], []⟩
@[go_sem] def ty140 : TyI := ⟨.func #[9, 137, 4] #[3] false, 1, 8, false, [.nilF], [], []⟩
@[go_sem] def ty141 : TyI := ⟨.func #[] #[9] false, 1, 8, false, [.nilF], [], []⟩
@[go_sem] def ty144 : TyI := ⟨.array 0 16, 0, 0, true, [], [], []⟩
@[go_sem] def ty147 : TyI := ⟨.func #[] #[3] false, 1, 8, false, [.nilF], [], []⟩
@[go_sem] def ty148 : TyI := ⟨.int .u32, 1, 4, false, [.int .u32 0], [], [.int .u32]⟩
@[go_sem] def ty151 : TyI := ⟨.func #[157, 157] #[4] false, 1, 8, false, [.nilF], [], []⟩
@[go_sem] def ty152 : TyI := ⟨.pointer 5, 1, 8, false, [.nilP], [], []⟩
def tt : TT := fun t => match t with
  | 1 => some ty1
  | 2 => some ty2
  | 3 => some ty3
  | 4 => some ty4
  | 5 => some ty5
  | 9 => some ty9
  | 12 => some ty12
  | 16 => some ty16
  | 21 => some ty21
  | 22 => some ty22
  | 23 => some ty23
  | 24 => some ty24
  | 25 => some ty25
  | 26 => some ty26
  | 27 => some ty27
  | 28 => some ty28
  | 29 => some ty29
  | 30 => some ty30
  | 31 => some ty31
  | 32 => some ty32
  | 33 => some ty33
  | 34 => some ty34
  | 35 => some ty35
  | 36 => some ty36
  | 37 => some ty37
  | 38 => some ty38
  | 39 => some ty39
  | 41 => some ty41
  | 43 => some ty43
  | 45 => some ty45
  | 47 => some ty47
  | 49 => some ty49
  | 51 => some ty51
  | 52 => some ty52
  | 53 => some ty53
  | 54 => some ty54
  | 55 => some ty55
  | 56 => some ty56
  | 57 => some ty57
  | 58 => some ty58
  | 59 => some ty59
  | 60 => some ty60
  | 61 => some ty61
  | 62 => some ty62
  | 64 => some ty64
  | 65 => some ty65
  | 66 => some ty66
  | 67 => some ty67
  | 68 => some ty68
  | 70 => some ty70
  | 72 => some ty72
  | 73 => some ty73
  | 74 => some ty74
  | 76 => some ty76
  | 77 => some ty77
  | 78 => some ty78
  | 79 => some ty79
  | 80 => some ty80
  | 81 => some ty81
  | 82 => some ty82
  | 84 => some ty84
  | 85 => some ty85
  | 86 => some ty86
  | 87 => some ty87
  | 88 => some ty88
  | 89 => some ty89
  | 90 => some ty90
  | 91 => some ty91
  | 92 => some ty92
  | 93 => some ty93
  | 94 => some ty94
  | 95 => some ty95
  | 96 => some ty96
  | 97 => some ty97
  | 98 => some ty98
  | 99 => some ty99
  | 100 => some ty100
  | 101 => some ty101
  | 102 => some ty102
  | 103 => some ty103
  | 104 => some ty104
  | 105 => some ty105
  | 106 => some ty106
  | 107 => some ty107
  | 108 => some ty108
  | 109 => some ty109
  | 110 => some ty110
  | 111 => some ty111
  | 112 => some ty112
  | 113 => some ty113
  | 114 => some ty114
  | 115 => some ty115
  | 116 => some ty116
  | 117 => some ty117
  | 118 => some ty118
  | 119 => some ty119
  | 120 => some ty120
  | 121 => some ty121
  | 122 => some ty122
  | 123 => some ty123
  | 124 => some ty124
  | 125 => some ty125
  | 126 => some ty126
  | 127 => some ty127
  | 128 => some ty128
  | 129 => some ty129
  | 130 => some ty130
  | 131 => some ty131
  | 132 => some ty132
  | 133 => some ty133
  | 134 => some ty134
  | 136 => some ty136
  | 137 => some ty137
  | 138 => some ty138
  | 139 => some ty139
  | 140 => some ty140
  | 141 => some ty141
  | 144 => some ty144
  | 147 => some ty147
  | 148 => some ty148
  | 151 => some ty151
  | 152 => some ty152
  | _ => none
@[go_sem] theorem tt_1 : tt 1 = some ty1 := rfl
@[go_sem] theorem tt_2 : tt 2 = some ty2 := rfl
@[go_sem] theorem tt_3 : tt 3 = some ty3 := rfl
@[go_sem] theorem tt_4 : tt 4 = some ty4 := rfl
@[go_sem] theorem tt_5 : tt 5 = some ty5 := rfl
@[go_sem] theorem tt_9 : tt 9 = some ty9 := rfl
@[go_sem] theorem tt_12 : tt 12 = some ty12 := rfl
@[go_sem] theorem tt_16 : tt 16 = some ty16 := rfl
@[go_sem] theorem tt_21 : tt 21 = some ty21 := rfl
@[go_sem] theorem tt_22 : tt 22 = some ty22 := rfl
@[go_sem] theorem tt_23 : tt 23 = some ty23 := rfl
@[go_sem] theorem tt_24 : tt 24 = some ty24 := rfl
@[go_sem] theorem tt_25 : tt 25 = some ty25 := rfl
@[go_sem] theorem tt_26 : tt 26 = some ty26 := rfl
@[go_sem] theorem tt_27 : tt 27 = some ty27 := rfl
@[go_sem] theorem tt_28 : tt 28 = some ty28 := rfl
@[go_sem] theorem tt_29 : tt 29 = some ty29 := rfl
@[go_sem] theorem tt_30 : tt 30 = some ty30 := rfl
@[go_sem] theorem tt_31 : tt 31 = some ty31 := rfl
@[go_sem] theorem tt_32 : tt 32 = some ty32 := rfl
@[go_sem] theorem tt_33 : tt 33 = some ty33 := rfl
@[go_sem] theorem tt_34 : tt 34 = some ty34 := rfl
@[go_sem] theorem tt_35 : tt 35 = some ty35 := rfl
@[go_sem] theorem tt_36 : tt 36 = some ty36 := rfl
@[go_sem] theorem tt_37 : tt 37 = some ty37 := rfl
@[go_sem] theorem tt_38 : tt 38 = some ty38 := rfl
@[go_sem] theorem tt_39 : tt 39 = some ty39 := rfl
@[go_sem] theorem tt_41 : tt 41 = some ty41 := rfl
@[go_sem] theorem tt_43 : tt 43 = some ty43 := rfl
@[go_sem] theorem tt_45 : tt 45 = some ty45 := rfl
@[go_sem] theorem tt_47 : tt 47 = some ty47 := rfl
@[go_sem] theorem tt_49 : tt 49 = some ty49 := rfl
@[go_sem] theorem tt_51 : tt 51 = some ty51 := rfl
@[go_sem] theorem tt_52 : tt 52 = some ty52 := rfl
@[go_sem] theorem tt_53 : tt 53 = some ty53 := rfl
@[go_sem] theorem tt_54 : tt 54 = some ty54 := rfl
@[go_sem] theorem tt_55 : tt 55 = some ty55 := rfl
@[go_sem] theorem tt_56 : tt 56 = some ty56 := rfl
@[go_sem] theorem tt_57 : tt 57 = some ty57 := rfl
@[go_sem] theorem tt_58 : tt 58 = some ty58 := rfl
@[go_sem] theorem tt_59 : tt 59 = some ty59 := rfl
@[go_sem] theorem tt_60 : tt 60 = some ty60 := rfl
@[go_sem] theorem tt_61 : tt 61 = some ty61 := rfl
@[go_sem] theorem tt_62 : tt 62 = some ty62 := rfl
@[go_sem] theorem tt_64 : tt 64 = some ty64 := rfl
@[go_sem] theorem tt_65 : tt 65 = some ty65 := rfl
@[go_sem] theorem tt_66 : tt 66 = some ty66 := rfl
@[go_sem] theorem tt_67 : tt 67 = some ty67 := rfl
@[go_sem] theorem tt_68 : tt 68 = some ty68 := rfl
@[go_sem] theorem tt_70 : tt 70 = some ty70 := rfl
@[go_sem] theorem tt_72 : tt 72 = some ty72 := rfl
@[go_sem] theorem tt_73 : tt 73 = some ty73 := rfl
@[go_sem] theorem tt_74 : tt 74 = some ty74 := rfl
@[go_sem] theorem tt_76 : tt 76 = some ty76 := rfl
@[go_sem] theorem tt_77 : tt 77 = some ty77 := rfl
@[go_sem] theorem tt_78 : tt 78 = some ty78 := rfl
@[go_sem] theorem tt_79 : tt 79 = some ty79 := rfl
@[go_sem] theorem tt_80 : tt 80 = some ty80 := rfl
@[go_sem] theorem tt_81 : tt 81 = some ty81 := rfl
@[go_sem] theorem tt_82 : tt 82 = some ty82 := rfl
@[go_sem] theorem tt_84 : tt 84 = some ty84 := rfl
@[go_sem] theorem tt_85 : tt 85 = some ty85 := rfl
@[go_sem] theorem tt_86 : tt 86 = some ty86 := rfl
@[go_sem] theorem tt_87 : tt 87 = some ty87 := rfl
@[go_sem] theorem tt_88 : tt 88 = some ty88 := rfl
@[go_sem] theorem tt_89 : tt 89 = some ty89 := rfl
@[go_sem] theorem tt_90 : tt 90 = some ty90 := rfl
@[go_sem] theorem tt_91 : tt 91 = some ty91 := rfl
@[go_sem] theorem tt_92 : tt 92 = some ty92 := rfl
@[go_sem] theorem tt_93 : tt 93 = some ty93 := rfl
@[go_sem] theorem tt_94 : tt 94 = some ty94 := rfl
@[go_sem] theorem tt_95 : tt 95 = some ty95 := rfl
@[go_sem] theorem tt_96 : tt 96 = some ty96 := rfl
@[go_sem] theorem tt_97 : tt 97 = some ty97 := rfl
@[go_sem] theorem tt_98 : tt 98 = some ty98 := rfl
@[go_sem] theorem tt_99 : tt 99 = some ty99 := rfl
@[go_sem] theorem tt_100 : tt 100 = some ty100 := rfl
@[go_sem] theorem tt_101 : tt 101 = some ty101 := rfl
@[go_sem] theorem tt_102 : tt 102 = some ty102 := rfl
@[go_sem] theorem tt_103 : tt 103 = some ty103 := rfl
@[go_sem] theorem tt_104 : tt 104 = some ty104 := rfl
@[go_sem] theorem tt_105 : tt 105 = some ty105 := rfl
@[go_sem] theorem tt_106 : tt 106 = some ty106 := rfl
@[go_sem] theorem tt_107 : tt 107 = some ty107 := rfl
@[go_sem] theorem tt_108 : tt 108 = some ty108 := rfl
@[go_sem] theorem tt_109 : tt 109 = some ty109 := rfl
@[go_sem] theorem tt_110 : tt 110 = some ty110 := rfl
@[go_sem] theorem tt_111 : tt 111 = some ty111 := rfl
@[go_sem] theorem tt_112 : tt 112 = some ty112 := rfl
@[go_sem] theorem tt_113 : tt 113 = some ty113 := rfl
@[go_sem] theorem tt_114 : tt 114 = some ty114 := rfl
@[go_sem] theorem tt_115 : tt 115 = some ty115 := rfl
@[go_sem] theorem tt_116 : tt 116 = some ty116 := rfl
@[go_sem] theorem tt_117 : tt 117 = some ty117 := rfl
@[go_sem] theorem tt_118 : tt 118 = some ty118 := rfl
@[go_sem] theorem tt_119 : tt 119 = some ty119 := rfl
@[go_sem] theorem tt_120 : tt 120 = some ty120 := rfl
@[go_sem] theorem tt_121 : tt 121 = some ty121 := rfl
@[go_sem] theorem tt_122 : tt 122 = some ty122 := rfl
@[go_sem] theorem tt_123 : tt 123 = some ty123 := rfl
@[go_sem] theorem tt_124 : tt 124 = some ty124 := rfl
@[go_sem] theorem tt_125 : tt 125 = some ty125 := rfl
@[go_sem] theorem tt_126 : tt 126 = some ty126 := rfl
@[go_sem] theorem tt_127 : tt 127 = some ty127 := rfl
@[go_sem] theorem tt_128 : tt 128 = some ty128 := rfl
@[go_sem] theorem tt_129 : tt 129 = some ty129 := rfl
@[go_sem] theorem tt_130 : tt 130 = some ty130 := rfl
@[go_sem] theorem tt_131 : tt 131 = some ty131 := rfl
@[go_sem] theorem tt_132 : tt 132 = some ty132 := rfl
@[go_sem] theorem tt_133 : tt 133 = some ty133 := rfl
@[go_sem] theorem tt_134 : tt 134 = some ty134 := rfl
@[go_sem] theorem tt_136 : tt 136 = some ty136 := rfl
@[go_sem] theorem tt_137 : tt 137 = some ty137 := rfl
@[go_sem] theorem tt_138 : tt 138 = some ty138 := rfl
@[go_sem] theorem tt_139 : tt 139 = some ty139 := rfl
@[go_sem] theorem tt_140 : tt 140 = some ty140 := rfl
@[go_sem] theorem tt_141 : tt 141 = some ty141 := rfl
@[go_sem] theorem tt_144 : tt 144 = some ty144 := rfl
@[go_sem] theorem tt_147 : tt 147 = some ty147 := rfl
@[go_sem] theorem tt_148 : tt 148 = some ty148 := rfl
@[go_sem] theorem tt_151 : tt 151 = some ty151 := rfl
@[go_sem] theorem tt_152 : tt 152 = some ty152 := rfl
theorem eq2 : EqAt Tryz.prog 1 2 false [.int .i64] := eqAt_int Tryz.underlying2
theorem eq3 : EqAt Tryz.prog 1 3 false [.int .i64] := eqAt_int Tryz.underlying3
theorem eq4 : EqAt Tryz.prog 1 4 false [.bool] := eqAt_bool Tryz.underlying4
theorem eq5 : EqAt Tryz.prog 1 5 false [.int .u8] := eqAt_int Tryz.underlying5
theorem eq9 : EqAt Tryz.prog 1 9 false [.str] := eqAt_str Tryz.underlying9
theorem eq12 : EqAt Tryz.prog 1 12 false [.int .u64] := eqAt_int Tryz.underlying12
theorem eq21 : EqAt Tryz.prog 1 21 false [.int .i32] := eqAt_int Tryz.underlying21
theorem eq39 : EqAt Tryz.prog 1 39 false [.int .i64] := eqAt_int Tryz.underlying39
theorem eq148 : EqAt Tryz.prog 1 148 false [.int .u32] := eqAt_int Tryz.underlying148
theorem fl22 : FlatF Tryz.prog 1 0 sf22.toList 3 ([.int .i64] ++ ([.int .i64] ++ ([.int .i64] ++ []))) := .cons _ _ 0 3 false Tryz.t3 (.int .i64) [.int .i64] ([.int .i64] ++ ([.int .i64] ++ [])) (by decide) rfl (by kernel_rfl) rfl (by decide) rfl Tryz.underlying3 (eq3.mono (by decide)) (.cons _ _ 1 3 false Tryz.t3 (.int .i64) [.int .i64] ([.int .i64] ++ []) (by decide) rfl (by kernel_rfl) rfl (by decide) rfl Tryz.underlying3 (eq3.mono (by decide)) (.cons _ _ 2 3 false Tryz.t3 (.int .i64) [.int .i64] [] (by decide) rfl (by kernel_rfl) rfl (by decide) rfl Tryz.underlying3 (eq3.mono (by decide)) (.nil 3)))
theorem eq22 : EqAt Tryz.prog 2 22 true [.int .i64, .int .i64, .int .i64] := eqAt_struct (fs := sf22) Tryz.underlying22 (by kernel_rfl) fl22
theorem fl23 : FlatF Tryz.prog 1 0 sf22.toList 3 ([.int .i64] ++ ([.int .i64] ++ ([.int .i64] ++ []))) := .cons _ _ 0 3 false Tryz.t3 (.int .i64) [.int .i64] ([.int .i64] ++ ([.int .i64] ++ [])) (by decide) rfl (by kernel_rfl) rfl (by decide) rfl Tryz.underlying3 (eq3.mono (by decide)) (.cons _ _ 1 3 false Tryz.t3 (.int .i64) [.int .i64] ([.int .i64] ++ []) (by decide) rfl (by kernel_rfl) rfl (by decide) rfl Tryz.underlying3 (eq3.mono (by decide)) (.cons _ _ 2 3 false Tryz.t3 (.int .i64) [.int .i64] [] (by decide) rfl (by kernel_rfl) rfl (by decide) rfl Tryz.underlying3 (eq3.mono (by decide)) (.nil 3)))
theorem eq23 : EqAt Tryz.prog 2 23 true [.int .i64, .int .i64, .int .i64] := eqAt_struct (fs := sf22) Tryz.underlying23 (by kernel_rfl) fl23
theorem fl30 : FlatF Tryz.prog 1 0 sf30.toList 3 ([.int .i64] ++ ([.int .i64] ++ ([.str] ++ []))) := .cons _ _ 0 3 false Tryz.t3 (.int .i64) [.int .i64] ([.int .i64] ++ ([.str] ++ [])) (by decide) rfl (by kernel_rfl) rfl (by decide) rfl Tryz.underlying3 (eq3.mono (by decide)) (.cons _ _ 1 3 false Tryz.t3 (.int .i64) [.int .i64] ([.str] ++ []) (by decide) rfl (by kernel_rfl) rfl (by decide) rfl Tryz.underlying3 (eq3.mono (by decide)) (.cons _ _ 2 3 false Tryz.t9 (.string) [.str] [] (by decide) rfl (by kernel_rfl) rfl (by decide) rfl Tryz.underlying9 (eq9.mono (by decide)) (.nil 3)))
theorem eq30 : EqAt Tryz.prog 2 30 true [.int .i64, .int .i64, .str] := eqAt_struct (fs := sf30) Tryz.underlying30 (by kernel_rfl) fl30
theorem fl31 : FlatF Tryz.prog 1 0 sf30.toList 3 ([.int .i64] ++ ([.int .i64] ++ ([.str] ++ []))) := .cons _ _ 0 3 false Tryz.t3 (.int .i64) [.int .i64] ([.int .i64] ++ ([.str] ++ [])) (by decide) rfl (by kernel_rfl) rfl (by decide) rfl Tryz.underlying3 (eq3.mono (by decide)) (.cons _ _ 1 3 false Tryz.t3 (.int .i64) [.int .i64] ([.str] ++ []) (by decide) rfl (by kernel_rfl) rfl (by decide) rfl Tryz.underlying3 (eq3.mono (by decide)) (.cons _ _ 2 3 false Tryz.t9 (.string) [.str] [] (by decide) rfl (by kernel_rfl) rfl (by decide) rfl Tryz.underlying9 (eq9.mono (by decide)) (.nil 3)))
theorem eq31 : EqAt Tryz.prog 2 31 true [.int .i64, .int .i64, .str] := eqAt_struct (fs := sf30) Tryz.underlying31 (by kernel_rfl) fl31
theorem fl55 : FlatF Tryz.prog 1 0 sf55.toList 2 ([.int .i64] ++ ([.str] ++ [])) := .cons _ _ 0 2 false Tryz.t3 (.int .i64) [.int .i64] ([.str] ++ []) (by decide) rfl (by kernel_rfl) rfl (by decide) rfl Tryz.underlying3 (eq3.mono (by decide)) (.cons _ _ 1 2 false Tryz.t9 (.string) [.str] [] (by decide) rfl (by kernel_rfl) rfl (by decide) rfl Tryz.underlying9 (eq9.mono (by decide)) (.nil 2))
theorem eq55 : EqAt Tryz.prog 2 55 true [.int .i64, .str] := eqAt_struct (fs := sf55) Tryz.underlying55 (by kernel_rfl) fl55
theorem fl56 : FlatF Tryz.prog 1 0 sf55.toList 2 ([.int .i64] ++ ([.str] ++ [])) := .cons _ _ 0 2 false Tryz.t3 (.int .i64) [.int .i64] ([.str] ++ []) (by decide) rfl (by kernel_rfl) rfl (by decide) rfl Tryz.underlying3 (eq3.mono (by decide)) (.cons _ _ 1 2 false Tryz.t9 (.string) [.str] [] (by decide) rfl (by kernel_rfl) rfl (by decide) rfl Tryz.underlying9 (eq9.mono (by decide)) (.nil 2))
theorem eq56 : EqAt Tryz.prog 2 56 true [.int .i64, .str] := eqAt_struct (fs := sf55) Tryz.underlying56 (by kernel_rfl) fl56
theorem fl104 : FlatF Tryz.prog 1 0 sf104.toList 3 ([.int .i64] ++ ([.int .i64] ++ ([.int .i64] ++ []))) := .cons _ _ 0 3 false Tryz.t3 (.int .i64) [.int .i64] ([.int .i64] ++ ([.int .i64] ++ [])) (by decide) rfl (by kernel_rfl) rfl (by decide) rfl Tryz.underlying3 (eq3.mono (by decide)) (.cons _ _ 1 3 false Tryz.t3 (.int .i64) [.int .i64] ([.int .i64] ++ []) (by decide) rfl (by kernel_rfl) rfl (by decide) rfl Tryz.underlying3 (eq3.mono (by decide)) (.cons _ _ 2 3 false Tryz.t3 (.int .i64) [.int .i64] [] (by decide) rfl (by kernel_rfl) rfl (by decide) rfl Tryz.underlying3 (eq3.mono (by decide)) (.nil 3)))
theorem eq104 : EqAt Tryz.prog 2 104 true [.int .i64, .int .i64, .int .i64] := eqAt_struct (fs := sf104) Tryz.underlying104 (by kernel_rfl) fl104
theorem fl105 : FlatF Tryz.prog 1 0 sf104.toList 3 ([.int .i64] ++ ([.int .i64] ++ ([.int .i64] ++ []))) := .cons _ _ 0 3 false Tryz.t3 (.int .i64) [.int .i64] ([.int .i64] ++ ([.int .i64] ++ [])) (by decide) rfl (by kernel_rfl) rfl (by decide) rfl Tryz.underlying3 (eq3.mono (by decide)) (.cons _ _ 1 3 false Tryz.t3 (.int .i64) [.int .i64] ([.int .i64] ++ []) (by decide) rfl (by kernel_rfl) rfl (by decide) rfl Tryz.underlying3 (eq3.mono (by decide)) (.cons _ _ 2 3 false Tryz.t3 (.int .i64) [.int .i64] [] (by decide) rfl (by kernel_rfl) rfl (by decide) rfl Tryz.underlying3 (eq3.mono (by decide)) (.nil 3)))
theorem eq105 : EqAt Tryz.prog 2 105 true [.int .i64, .int .i64, .int .i64] := eqAt_struct (fs := sf104) Tryz.underlying105 (by kernel_rfl) fl105
theorem fl81 : FlatF Tryz.prog 2 0 sf81.toList 4 ([.int .i64, .int .i64, .int .i64] ++ ([.int .i64] ++ [])) := .cons _ _ 0 4 true Tryz.t23 (.struct sf22) [.int .i64, .int .i64, .int .i64] ([.int .i64] ++ []) (by decide) rfl (by kernel_rfl) rfl (by decide) rfl Tryz.underlying23 (eq23.mono (by decide)) (.cons _ _ 3 4 false Tryz.t3 (.int .i64) [.int .i64] [] (by decide) rfl (by kernel_rfl) rfl (by decide) rfl Tryz.underlying3 (eq3.mono (by decide)) (.nil 4))
theorem eq81 : EqAt Tryz.prog 3 81 true [.int .i64, .int .i64, .int .i64, .int .i64] := eqAt_struct (fs := sf81) Tryz.underlying81 (by kernel_rfl) fl81
theorem fl82 : FlatF Tryz.prog 2 0 sf81.toList 4 ([.int .i64, .int .i64, .int .i64] ++ ([.int .i64] ++ [])) := .cons _ _ 0 4 true Tryz.t23 (.struct sf22) [.int .i64, .int .i64, .int .i64] ([.int .i64] ++ []) (by decide) rfl (by kernel_rfl) rfl (by decide) rfl Tryz.underlying23 (eq23.mono (by decide)) (.cons _ _ 3 4 false Tryz.t3 (.int .i64) [.int .i64] [] (by decide) rfl (by kernel_rfl) rfl (by decide) rfl Tryz.underlying3 (eq3.mono (by decide)) (.nil 4))
theorem eq82 : EqAt Tryz.prog 3 82 true [.int .i64, .int .i64, .int .i64, .int .i64] := eqAt_struct (fs := sf81) Tryz.underlying82 (by kernel_rfl) fl82
theorem fl106 : FlatF Tryz.prog 2 0 sf106.toList 4 ([.str] ++ ([.int .i64, .int .i64, .int .i64] ++ [])) := .cons _ _ 0 4 false Tryz.t9 (.string) [.str] ([.int .i64, .int .i64, .int .i64] ++ []) (by decide) rfl (by kernel_rfl) rfl (by decide) rfl Tryz.underlying9 (eq9.mono (by decide)) (.cons _ _ 1 4 true Tryz.t105 (.struct sf104) [.int .i64, .int .i64, .int .i64] [] (by decide) rfl (by kernel_rfl) rfl (by decide) rfl Tryz.underlying105 (eq105.mono (by decide)) (.nil 4))
theorem eq106 : EqAt Tryz.prog 3 106 true [.str, .int .i64, .int .i64, .int .i64] := eqAt_struct (fs := sf106) Tryz.underlying106 (by kernel_rfl) fl106
theorem fl107 : FlatF Tryz.prog 2 0 sf106.toList 4 ([.str] ++ ([.int .i64, .int .i64, .int .i64] ++ [])) := .cons _ _ 0 4 false Tryz.t9 (.string) [.str] ([.int .i64, .int .i64, .int .i64] ++ []) (by decide) rfl (by kernel_rfl) rfl (by decide) rfl Tryz.underlying9 (eq9.mono (by decide)) (.cons _ _ 1 4 true Tryz.t105 (.struct sf104) [.int .i64, .int .i64, .int .i64] [] (by decide) rfl (by kernel_rfl) rfl (by decide) rfl Tryz.underlying105 (eq105.mono (by decide)) (.nil 4))
theorem eq107 : EqAt Tryz.prog 3 107 true [.str, .int .i64, .int .i64, .int .i64] := eqAt_struct (fs := sf106) Tryz.underlying107 (by kernel_rfl) fl107
theorem ok1 : TyOk Tryz.prog 1 ty1 where
  u := Tryz.underlying1
  agg := rfl
  info := ⟨Tryz.t1, .nilFunc, by kernel_rfl, by kernel_rfl, by kernel_rfl, by kernel_rfl, rfl, fun G => .cons .nilF (.nil _), by decide⟩
  fields := fun k o s g h => by simp [ty1] at h
  places := fun fs h => by cases h
  eqs := fun h => absurd rfl h
theorem ok2 : TyOk Tryz.prog 2 ty2 where
  u := Tryz.underlying2
  agg := rfl
  info := ⟨Tryz.t2, .int .i64 0, by kernel_rfl, by kernel_rfl, by kernel_rfl, by kernel_rfl, rfl, fun G => .cons (.int _ _ (by decide)) (.nil _), by decide⟩
  fields := fun k o s g h => by simp [ty2] at h
  places := fun fs h => by cases h
  eqs := fun _ => ⟨by kernel_rfl, fun G cs ds vs us b w h1 h2 h3 h4 => eq2.eq (by decide) G cs ds vs us b w h1 h2 h3 h4⟩
theorem ok3 : TyOk Tryz.prog 3 ty3 where
  u := Tryz.underlying3
  agg := rfl
  info := ⟨Tryz.t3, .int .i64 0, by kernel_rfl, by kernel_rfl, by kernel_rfl, by kernel_rfl, rfl, fun G => .cons (.int _ _ (by decide)) (.nil _), by decide⟩
  fields := fun k o s g h => by simp [ty3] at h
  places := fun fs h => by cases h
  eqs := fun _ => ⟨by kernel_rfl, fun G cs ds vs us b w h1 h2 h3 h4 => eq3.eq (by decide) G cs ds vs us b w h1 h2 h3 h4⟩
theorem ok4 : TyOk Tryz.prog 4 ty4 where
  u := Tryz.underlying4
  agg := rfl
  info := ⟨Tryz.t4, .bool false, by kernel_rfl, by kernel_rfl, by kernel_rfl, by kernel_rfl, rfl, fun G => .cons (.bool _) (.nil _), by decide⟩
  fields := fun k o s g h => by simp [ty4] at h
  places := fun fs h => by cases h
  eqs := fun _ => ⟨by kernel_rfl, fun G cs ds vs us b w h1 h2 h3 h4 => eq4.eq (by decide) G cs ds vs us b w h1 h2 h3 h4⟩
theorem ok5 : TyOk Tryz.prog 5 ty5 where
  u := Tryz.underlying5
  agg := rfl
  info := ⟨Tryz.t5, .int .u8 0, by kernel_rfl, by kernel_rfl, by kernel_rfl, by kernel_rfl, rfl, fun G => .cons (.int _ _ (by decide)) (.nil _), by decide⟩
  fields := fun k o s g h => by simp [ty5] at h
  places := fun fs h => by cases h
  eqs := fun _ => ⟨by kernel_rfl, fun G cs ds vs us b w h1 h2 h3 h4 => eq5.eq (by decide) G cs ds vs us b w h1 h2 h3 h4⟩
theorem ok9 : TyOk Tryz.prog 9 ty9 where
  u := Tryz.underlying9
  agg := rfl
  info := ⟨Tryz.t9, .string ByteArray.empty, by kernel_rfl, by kernel_rfl, by kernel_rfl, by kernel_rfl, rfl, fun G => .cons (.str _ (by decide)) (.nil _), by decide⟩
  fields := fun k o s g h => by simp [ty9] at h
  places := fun fs h => by cases h
  eqs := fun _ => ⟨by kernel_rfl, fun G cs ds vs us b w h1 h2 h3 h4 => eq9.eq (by decide) G cs ds vs us b w h1 h2 h3 h4⟩
theorem ok12 : TyOk Tryz.prog 12 ty12 where
  u := Tryz.underlying12
  agg := rfl
  info := ⟨Tryz.t12, .int .u64 0, by kernel_rfl, by kernel_rfl, by kernel_rfl, by kernel_rfl, rfl, fun G => .cons (.int _ _ (by decide)) (.nil _), by decide⟩
  fields := fun k o s g h => by simp [ty12] at h
  places := fun fs h => by cases h
  eqs := fun _ => ⟨by kernel_rfl, fun G cs ds vs us b w h1 h2 h3 h4 => eq12.eq (by decide) G cs ds vs us b w h1 h2 h3 h4⟩
theorem ok16 : TyOk Tryz.prog 16 ty16 where
  u := Tryz.underlying16
  agg := rfl
  info := ⟨Tryz.t16, .pointer none, by kernel_rfl, by kernel_rfl, by kernel_rfl, by kernel_rfl, rfl, fun G => .cons .nilP (.nil _), by decide⟩
  fields := fun k o s g h => by simp [ty16] at h
  places := fun fs h => by cases h
  eqs := fun h => absurd rfl h
theorem ok21 : TyOk Tryz.prog 21 ty21 where
  u := Tryz.underlying21
  agg := rfl
  info := ⟨Tryz.t21, .int .i32 0, by kernel_rfl, by kernel_rfl, by kernel_rfl, by kernel_rfl, rfl, fun G => .cons (.int _ _ (by decide)) (.nil _), by decide⟩
  fields := fun k o s g h => by simp [ty21] at h
  places := fun fs h => by cases h
  eqs := fun _ => ⟨by kernel_rfl, fun G cs ds vs us b w h1 h2 h3 h4 => eq21.eq (by decide) G cs ds vs us b w h1 h2 h3 h4⟩
theorem ok22 : TyOk Tryz.prog 22 ty22 where
  u := Tryz.underlying22
  agg := rfl
  info := ⟨Tryz.t22, .agg #[.int .i64 0, .int .i64 0, .int .i64 0], by kernel_rfl, by kernel_rfl, by kernel_rfl, by kernel_rfl, rfl, fun G => .cons (.int _ _ (by decide)) (.cons (.int _ _ (by decide)) (.cons (.int _ _ (by decide)) (.nil _))), by decide⟩
  fields := by
    intro k o s g h
    match k, h with
    | 0, h => cases h; exact ⟨by decide, sf22, _, Tryz.t3, .int .i64, rfl, rfl, rfl, by kernel_rfl, rfl, Tryz.underlying3, rfl⟩
    | 1, h => cases h; exact ⟨by decide, sf22, _, Tryz.t3, .int .i64, rfl, rfl, rfl, by kernel_rfl, rfl, Tryz.underlying3, rfl⟩
    | 2, h => cases h; exact ⟨by decide, sf22, _, Tryz.t3, .int .i64, rfl, rfl, rfl, by kernel_rfl, rfl, Tryz.underlying3, rfl⟩
    | k + 3, h => simp [ty22] at h
  places := fun fs h => by cases h; kernel_rfl
  eqs := fun _ => ⟨by kernel_rfl, fun G cs ds vs us b w h1 h2 h3 h4 => eq22.eq (by decide) G cs ds vs us b w h1 h2 h3 h4⟩
theorem ok23 : TyOk Tryz.prog 23 ty23 where
  u := Tryz.underlying23
  agg := rfl
  info := ⟨Tryz.t23, .agg #[.int .i64 0, .int .i64 0, .int .i64 0], by kernel_rfl, by kernel_rfl, by kernel_rfl, by kernel_rfl, rfl, fun G => .cons (.int _ _ (by decide)) (.cons (.int _ _ (by decide)) (.cons (.int _ _ (by decide)) (.nil _))), by decide⟩
  fields := by
    intro k o s g h
    match k, h with
    | 0, h => cases h; exact ⟨by decide, sf22, _, Tryz.t3, .int .i64, rfl, rfl, rfl, by kernel_rfl, rfl, Tryz.underlying3, rfl⟩
    | 1, h => cases h; exact ⟨by decide, sf22, _, Tryz.t3, .int .i64, rfl, rfl, rfl, by kernel_rfl, rfl, Tryz.underlying3, rfl⟩
    | 2, h => cases h; exact ⟨by decide, sf22, _, Tryz.t3, .int .i64, rfl, rfl, rfl, by kernel_rfl, rfl, Tryz.underlying3, rfl⟩
    | k + 3, h => simp [ty23] at h
  places := fun fs h => by cases h; kernel_rfl
  eqs := fun _ => ⟨by kernel_rfl, fun G cs ds vs us b w h1 h2 h3 h4 => eq23.eq (by decide) G cs ds vs us b w h1 h2 h3 h4⟩
theorem ok24 : TyOk Tryz.prog 24 ty24 where
  u := Tryz.underlying24
  agg := rfl
  info := ⟨Tryz.t24, .slice none 0 0, by kernel_rfl, by kernel_rfl, by kernel_rfl, by kernel_rfl, rfl, fun G => .cons .nilS (.nil _), by decide⟩
  fields := fun k o s g h => by simp [ty24] at h
  places := fun fs h => by cases h
  eqs := fun h => absurd rfl h
theorem ok25 : TyOk Tryz.prog 25 ty25 where
  u := Tryz.underlying25
  agg := rfl
  info := ⟨Tryz.t25, .slice none 0 0, by kernel_rfl, by kernel_rfl, by kernel_rfl, by kernel_rfl, rfl, fun G => .cons .nilS (.nil _), by decide⟩
  fields := fun k o s g h => by simp [ty25] at h
  places := fun fs h => by cases h
  eqs := fun h => absurd rfl h
theorem ok26 : TyOk Tryz.prog 26 ty26 where
  u := Tryz.underlying26
  agg := rfl
  info := ⟨Tryz.t26, .agg #[.int .i64 0, .int .i64 0, .int .i64 0, .int .i64 0, .string ByteArray.empty, .slice none 0 0, .slice none 0 0, .slice none 0 0], by kernel_rfl, by kernel_rfl, by kernel_rfl, by kernel_rfl, rfl, fun G => .cons (.int _ _ (by decide)) (.cons (.int _ _ (by decide)) (.cons (.int _ _ (by decide)) (.cons (.int _ _ (by decide)) (.cons (.str _ (by decide)) (.cons .nilS (.cons .nilS (.cons .nilS (.nil _)))))))), by decide⟩
  fields := by
    intro k o s g h
    match k, h with
    | 0, h => cases h; exact ⟨by decide, sf26, _, Tryz.t23, .struct sf22, rfl, rfl, rfl, by kernel_rfl, rfl, Tryz.underlying23, rfl⟩
    | 1, h => cases h; exact ⟨by decide, sf26, _, Tryz.t3, .int .i64, rfl, rfl, rfl, by kernel_rfl, rfl, Tryz.underlying3, rfl⟩
    | 2, h => cases h; exact ⟨by decide, sf26, _, Tryz.t9, .string, rfl, rfl, rfl, by kernel_rfl, rfl, Tryz.underlying9, rfl⟩
    | 3, h => cases h; exact ⟨by decide, sf26, _, Tryz.t24, .slice 107, rfl, rfl, rfl, by kernel_rfl, rfl, Tryz.underlying24, rfl⟩
    | 4, h => cases h; exact ⟨by decide, sf26, _, Tryz.t24, .slice 107, rfl, rfl, rfl, by kernel_rfl, rfl, Tryz.underlying24, rfl⟩
    | 5, h => cases h; exact ⟨by decide, sf26, _, Tryz.t25, .slice 27, rfl, rfl, rfl, by kernel_rfl, rfl, Tryz.underlying25, rfl⟩
    | k + 6, h => simp [ty26] at h
  places := fun fs h => by cases h; kernel_rfl
  eqs := fun h => absurd rfl h
theorem ok27 : TyOk Tryz.prog 27 ty27 where
  u := Tryz.underlying27
  agg := rfl
  info := ⟨Tryz.t27, .agg #[.int .i64 0, .int .i64 0, .int .i64 0, .int .i64 0, .string ByteArray.empty, .slice none 0 0, .slice none 0 0, .slice none 0 0], by kernel_rfl, by kernel_rfl, by kernel_rfl, by kernel_rfl, rfl, fun G => .cons (.int _ _ (by decide)) (.cons (.int _ _ (by decide)) (.cons (.int _ _ (by decide)) (.cons (.int _ _ (by decide)) (.cons (.str _ (by decide)) (.cons .nilS (.cons .nilS (.cons .nilS (.nil _)))))))), by decide⟩
  fields := by
    intro k o s g h
    match k, h with
    | 0, h => cases h; exact ⟨by decide, sf26, _, Tryz.t23, .struct sf22, rfl, rfl, rfl, by kernel_rfl, rfl, Tryz.underlying23, rfl⟩
    | 1, h => cases h; exact ⟨by decide, sf26, _, Tryz.t3, .int .i64, rfl, rfl, rfl, by kernel_rfl, rfl, Tryz.underlying3, rfl⟩
    | 2, h => cases h; exact ⟨by decide, sf26, _, Tryz.t9, .string, rfl, rfl, rfl, by kernel_rfl, rfl, Tryz.underlying9, rfl⟩
    | 3, h => cases h; exact ⟨by decide, sf26, _, Tryz.t24, .slice 107, rfl, rfl, rfl, by kernel_rfl, rfl, Tryz.underlying24, rfl⟩
    | 4, h => cases h; exact ⟨by decide, sf26, _, Tryz.t24, .slice 107, rfl, rfl, rfl, by kernel_rfl, rfl, Tryz.underlying24, rfl⟩
    | 5, h => cases h; exact ⟨by decide, sf26, _, Tryz.t25, .slice 27, rfl, rfl, rfl, by kernel_rfl, rfl, Tryz.underlying25, rfl⟩
    | k + 6, h => simp [ty27] at h
  places := fun fs h => by cases h; kernel_rfl
  eqs := fun h => absurd rfl h
theorem ok28 : TyOk Tryz.prog 28 ty28 where
  u := Tryz.underlying28
  agg := rfl
  info := ⟨Tryz.t28, .slice none 0 0, by kernel_rfl, by kernel_rfl, by kernel_rfl, by kernel_rfl, rfl, fun G => .cons .nilS (.nil _), by decide⟩
  fields := fun k o s g h => by simp [ty28] at h
  places := fun fs h => by cases h
  eqs := fun h => absurd rfl h
theorem ok29 : TyOk Tryz.prog 29 ty29 where
  u := Tryz.underlying29
  agg := rfl
  info := ⟨Tryz.t29, .slice none 0 0, by kernel_rfl, by kernel_rfl, by kernel_rfl, by kernel_rfl, rfl, fun G => .cons .nilS (.nil _), by decide⟩
  fields := fun k o s g h => by simp [ty29] at h
  places := fun fs h => by cases h
  eqs := fun h => absurd rfl h
theorem ok30 : TyOk Tryz.prog 30 ty30 where
  u := Tryz.underlying30
  agg := rfl
  info := ⟨Tryz.t30, .agg #[.int .i64 0, .int .i64 0, .string ByteArray.empty], by kernel_rfl, by kernel_rfl, by kernel_rfl, by kernel_rfl, rfl, fun G => .cons (.int _ _ (by decide)) (.cons (.int _ _ (by decide)) (.cons (.str _ (by decide)) (.nil _))), by decide⟩
  fields := by
    intro k o s g h
    match k, h with
    | 0, h => cases h; exact ⟨by decide, sf30, _, Tryz.t3, .int .i64, rfl, rfl, rfl, by kernel_rfl, rfl, Tryz.underlying3, rfl⟩
    | 1, h => cases h; exact ⟨by decide, sf30, _, Tryz.t3, .int .i64, rfl, rfl, rfl, by kernel_rfl, rfl, Tryz.underlying3, rfl⟩
    | 2, h => cases h; exact ⟨by decide, sf30, _, Tryz.t9, .string, rfl, rfl, rfl, by kernel_rfl, rfl, Tryz.underlying9, rfl⟩
    | k + 3, h => simp [ty30] at h
  places := fun fs h => by cases h; kernel_rfl
  eqs := fun _ => ⟨by kernel_rfl, fun G cs ds vs us b w h1 h2 h3 h4 => eq30.eq (by decide) G cs ds vs us b w h1 h2 h3 h4⟩
theorem ok31 : TyOk Tryz.prog 31 ty31 where
  u := Tryz.underlying31
  agg := rfl
  info := ⟨Tryz.t31, .agg #[.int .i64 0, .int .i64 0, .string ByteArray.empty], by kernel_rfl, by kernel_rfl, by kernel_rfl, by kernel_rfl, rfl, fun G => .cons (.int _ _ (by decide)) (.cons (.int _ _ (by decide)) (.cons (.str _ (by decide)) (.nil _))), by decide⟩
  fields := by
    intro k o s g h
    match k, h with
    | 0, h => cases h; exact ⟨by decide, sf30, _, Tryz.t3, .int .i64, rfl, rfl, rfl, by kernel_rfl, rfl, Tryz.underlying3, rfl⟩
    | 1, h => cases h; exact ⟨by decide, sf30, _, Tryz.t3, .int .i64, rfl, rfl, rfl, by kernel_rfl, rfl, Tryz.underlying3, rfl⟩
    | 2, h => cases h; exact ⟨by decide, sf30, _, Tryz.t9, .string, rfl, rfl, rfl, by kernel_rfl, rfl, Tryz.underlying9, rfl⟩
    | k + 3, h => simp [ty31] at h
  places := fun fs h => by cases h; kernel_rfl
  eqs := fun _ => ⟨by kernel_rfl, fun G cs ds vs us b w h1 h2 h3 h4 => eq31.eq (by decide) G cs ds vs us b w h1 h2 h3 h4⟩
theorem ok32 : TyOk Tryz.prog 32 ty32 where
  u := Tryz.underlying32
  agg := rfl
  info := ⟨Tryz.t32, .slice none 0 0, by kernel_rfl, by kernel_rfl, by kernel_rfl, by kernel_rfl, rfl, fun G => .cons .nilS (.nil _), by decide⟩
  fields := fun k o s g h => by simp [ty32] at h
  places := fun fs h => by cases h
  eqs := fun h => absurd rfl h
theorem ok33 : TyOk Tryz.prog 33 ty33 where
  u := Tryz.underlying33
  agg := rfl
  info := ⟨Tryz.t33, .agg #[.int .i64 0, .slice none 0 0, .slice none 0 0, .int .i64 0, .int .i64 0, .int .i64 0, .int .i64 0, .int .i64 0, .int .i64 0, .string ByteArray.empty, .slice none 0 0, .slice none 0 0, .slice none 0 0, .slice none 0 0, .slice none 0 0, .string ByteArray.empty, .string ByteArray.empty, .int .i64 0, .int .i64 0, .string ByteArray.empty, .int .i64 0, .int .i64 0, .int .i64 0, .string ByteArray.empty, .slice none 0 0], by kernel_rfl, by kernel_rfl, by kernel_rfl, by kernel_rfl, rfl, fun G => .cons (.int _ _ (by decide)) (.cons .nilS (.cons .nilS (.cons (.int _ _ (by decide)) (.cons (.int _ _ (by decide)) (.cons (.int _ _ (by decide)) (.cons (.int _ _ (by decide)) (.cons (.int _ _ (by decide)) (.cons (.int _ _ (by decide)) (.cons (.str _ (by decide)) (.cons .nilS (.cons .nilS (.cons .nilS (.cons .nilS (.cons .nilS (.cons (.str _ (by decide)) (.cons (.str _ (by decide)) (.cons (.int _ _ (by decide)) (.cons (.int _ _ (by decide)) (.cons (.str _ (by decide)) (.cons (.int _ _ (by decide)) (.cons (.int _ _ (by decide)) (.cons (.int _ _ (by decide)) (.cons (.str _ (by decide)) (.cons .nilS (.nil _))))))))))))))))))))))))), by decide⟩
  fields := by
    intro k o s g h
    match k, h with
    | 0, h => cases h; exact ⟨by decide, sf33, _, Tryz.t3, .int .i64, rfl, rfl, rfl, by kernel_rfl, rfl, Tryz.underlying3, rfl⟩
    | 1, h => cases h; exact ⟨by decide, sf33, _, Tryz.t28, .slice 56, rfl, rfl, rfl, by kernel_rfl, rfl, Tryz.underlying28, rfl⟩
    | 2, h => cases h; exact ⟨by decide, sf33, _, Tryz.t28, .slice 56, rfl, rfl, rfl, by kernel_rfl, rfl, Tryz.underlying28, rfl⟩
    | 3, h => cases h; exact ⟨by decide, sf33, _, Tryz.t3, .int .i64, rfl, rfl, rfl, by kernel_rfl, rfl, Tryz.underlying3, rfl⟩
    | 4, h => cases h; exact ⟨by decide, sf33, _, Tryz.t3, .int .i64, rfl, rfl, rfl, by kernel_rfl, rfl, Tryz.underlying3, rfl⟩
    | 5, h => cases h; exact ⟨by decide, sf33, _, Tryz.t27, .struct sf26, rfl, rfl, rfl, by kernel_rfl, rfl, Tryz.underlying27, rfl⟩
    | 6, h => cases h; exact ⟨by decide, sf33, _, Tryz.t29, .slice 9, rfl, rfl, rfl, by kernel_rfl, rfl, Tryz.underlying29, rfl⟩
    | 7, h => cases h; exact ⟨by decide, sf33, _, Tryz.t29, .slice 9, rfl, rfl, rfl, by kernel_rfl, rfl, Tryz.underlying29, rfl⟩
    | 8, h => cases h; exact ⟨by decide, sf33, _, Tryz.t9, .string, rfl, rfl, rfl, by kernel_rfl, rfl, Tryz.underlying9, rfl⟩
    | 9, h => cases h; exact ⟨by decide, sf33, _, Tryz.t9, .string, rfl, rfl, rfl, by kernel_rfl, rfl, Tryz.underlying9, rfl⟩
    | 10, h => cases h; exact ⟨by decide, sf33, _, Tryz.t31, .struct sf30, rfl, rfl, rfl, by kernel_rfl, rfl, Tryz.underlying31, rfl⟩
    | 11, h => cases h; exact ⟨by decide, sf33, _, Tryz.t3, .int .i64, rfl, rfl, rfl, by kernel_rfl, rfl, Tryz.underlying3, rfl⟩
    | 12, h => cases h; exact ⟨by decide, sf33, _, Tryz.t3, .int .i64, rfl, rfl, rfl, by kernel_rfl, rfl, Tryz.underlying3, rfl⟩
    | 13, h => cases h; exact ⟨by decide, sf33, _, Tryz.t3, .int .i64, rfl, rfl, rfl, by kernel_rfl, rfl, Tryz.underlying3, rfl⟩
    | 14, h => cases h; exact ⟨by decide, sf33, _, Tryz.t9, .string, rfl, rfl, rfl, by kernel_rfl, rfl, Tryz.underlying9, rfl⟩
    | 15, h => cases h; exact ⟨by decide, sf33, _, Tryz.t32, .slice 34, rfl, rfl, rfl, by kernel_rfl, rfl, Tryz.underlying32, rfl⟩
    | k + 16, h => simp [ty33] at h
  places := fun fs h => by cases h; kernel_rfl
  eqs := fun h => absurd rfl h
theorem ok34 : TyOk Tryz.prog 34 ty34 where
  u := Tryz.underlying34
  agg := rfl
  info := ⟨Tryz.t34, .agg #[.int .i64 0, .slice none 0 0, .slice none 0 0, .int .i64 0, .int .i64 0, .int .i64 0, .int .i64 0, .int .i64 0, .int .i64 0, .string ByteArray.empty, .slice none 0 0, .slice none 0 0, .slice none 0 0, .slice none 0 0, .slice none 0 0, .string ByteArray.empty, .string ByteArray.empty, .int .i64 0, .int .i64 0, .string ByteArray.empty, .int .i64 0, .int .i64 0, .int .i64 0, .string ByteArray.empty, .slice none 0 0], by kernel_rfl, by kernel_rfl, by kernel_rfl, by kernel_rfl, rfl, fun G => .cons (.int _ _ (by decide)) (.cons .nilS (.cons .nilS (.cons (.int _ _ (by decide)) (.cons (.int _ _ (by decide)) (.cons (.int _ _ (by decide)) (.cons (.int _ _ (by decide)) (.cons (.int _ _ (by decide)) (.cons (.int _ _ (by decide)) (.cons (.str _ (by decide)) (.cons .nilS (.cons .nilS (.cons .nilS (.cons .nilS (.cons .nilS (.cons (.str _ (by decide)) (.cons (.str _ (by decide)) (.cons (.int _ _ (by decide)) (.cons (.int _ _ (by decide)) (.cons (.str _ (by decide)) (.cons (.int _ _ (by decide)) (.cons (.int _ _ (by decide)) (.cons (.int _ _ (by decide)) (.cons (.str _ (by decide)) (.cons .nilS (.nil _))))))))))))))))))))))))), by decide⟩
  fields := by
    intro k o s g h
    match k, h with
    | 0, h => cases h; exact ⟨by decide, sf33, _, Tryz.t3, .int .i64, rfl, rfl, rfl, by kernel_rfl, rfl, Tryz.underlying3, rfl⟩
    | 1, h => cases h; exact ⟨by decide, sf33, _, Tryz.t28, .slice 56, rfl, rfl, rfl, by kernel_rfl, rfl, Tryz.underlying28, rfl⟩
    | 2, h => cases h; exact ⟨by decide, sf33, _, Tryz.t28, .slice 56, rfl, rfl, rfl, by kernel_rfl, rfl, Tryz.underlying28, rfl⟩
    | 3, h => cases h; exact ⟨by decide, sf33, _, Tryz.t3, .int .i64, rfl, rfl, rfl, by kernel_rfl, rfl, Tryz.underlying3, rfl⟩
    | 4, h => cases h; exact ⟨by decide, sf33, _, Tryz.t3, .int .i64, rfl, rfl, rfl, by kernel_rfl, rfl, Tryz.underlying3, rfl⟩
    | 5, h => cases h; exact ⟨by decide, sf33, _, Tryz.t27, .struct sf26, rfl, rfl, rfl, by kernel_rfl, rfl, Tryz.underlying27, rfl⟩
    | 6, h => cases h; exact ⟨by decide, sf33, _, Tryz.t29, .slice 9, rfl, rfl, rfl, by kernel_rfl, rfl, Tryz.underlying29, rfl⟩
    | 7, h => cases h; exact ⟨by decide, sf33, _, Tryz.t29, .slice 9, rfl, rfl, rfl, by kernel_rfl, rfl, Tryz.underlying29, rfl⟩
    | 8, h => cases h; exact ⟨by decide, sf33, _, Tryz.t9, .string, rfl, rfl, rfl, by kernel_rfl, rfl, Tryz.underlying9, rfl⟩
    | 9, h => cases h; exact ⟨by decide, sf33, _, Tryz.t9, .string, rfl, rfl, rfl, by kernel_rfl, rfl, Tryz.underlying9, rfl⟩
    | 10, h => cases h; exact ⟨by decide, sf33, _, Tryz.t31, .struct sf30, rfl, rfl, rfl, by kernel_rfl, rfl, Tryz.underlying31, rfl⟩
    | 11, h => cases h; exact ⟨by decide, sf33, _, Tryz.t3, .int .i64, rfl, rfl, rfl, by kernel_rfl, rfl, Tryz.underlying3, rfl⟩
    | 12, h => cases h; exact ⟨by decide, sf33, _, Tryz.t3, .int .i64, rfl, rfl, rfl, by kernel_rfl, rfl, Tryz.underlying3, rfl⟩
    | 13, h => cases h; exact ⟨by decide, sf33, _, Tryz.t3, .int .i64, rfl, rfl, rfl, by kernel_rfl, rfl, Tryz.underlying3, rfl⟩
    | 14, h => cases h; exact ⟨by decide, sf33, _, Tryz.t9, .string, rfl, rfl, rfl, by kernel_rfl, rfl, Tryz.underlying9, rfl⟩
    | 15, h => cases h; exact ⟨by decide, sf33, _, Tryz.t32, .slice 34, rfl, rfl, rfl, by kernel_rfl, rfl, Tryz.underlying32, rfl⟩
    | k + 16, h => simp [ty34] at h
  places := fun fs h => by cases h; kernel_rfl
  eqs := fun h => absurd rfl h
theorem ok35 : TyOk Tryz.prog 35 ty35 where
  u := Tryz.underlying35
  agg := rfl
  info := ⟨Tryz.t35, .agg #[.int .i64 0, .int .i64 0, .int .i64 0, .int .i64 0, .slice none 0 0, .slice none 0 0, .int .i64 0, .int .i64 0, .int .i64 0, .int .i64 0, .int .i64 0, .int .i64 0, .string ByteArray.empty, .slice none 0 0, .slice none 0 0, .slice none 0 0, .slice none 0 0, .slice none 0 0, .string ByteArray.empty, .string ByteArray.empty, .int .i64 0, .int .i64 0, .string ByteArray.empty, .int .i64 0, .int .i64 0, .int .i64 0, .string ByteArray.empty, .slice none 0 0], by kernel_rfl, by kernel_rfl, by kernel_rfl, by kernel_rfl, rfl, fun G => .cons (.int _ _ (by decide)) (.cons (.int _ _ (by decide)) (.cons (.int _ _ (by decide)) (.cons (.int _ _ (by decide)) (.cons .nilS (.cons .nilS (.cons (.int _ _ (by decide)) (.cons (.int _ _ (by decide)) (.cons (.int _ _ (by decide)) (.cons (.int _ _ (by decide)) (.cons (.int _ _ (by decide)) (.cons (.int _ _ (by decide)) (.cons (.str _ (by decide)) (.cons .nilS (.cons .nilS (.cons .nilS (.cons .nilS (.cons .nilS (.cons (.str _ (by decide)) (.cons (.str _ (by decide)) (.cons (.int _ _ (by decide)) (.cons (.int _ _ (by decide)) (.cons (.str _ (by decide)) (.cons (.int _ _ (by decide)) (.cons (.int _ _ (by decide)) (.cons (.int _ _ (by decide)) (.cons (.str _ (by decide)) (.cons .nilS (.nil _)))))))))))))))))))))))))))), by decide⟩
  fields := by
    intro k o s g h
    match k, h with
    | 0, h => cases h; exact ⟨by decide, sf35, _, Tryz.t3, .int .i64, rfl, rfl, rfl, by kernel_rfl, rfl, Tryz.underlying3, rfl⟩
    | 1, h => cases h; exact ⟨by decide, sf35, _, Tryz.t3, .int .i64, rfl, rfl, rfl, by kernel_rfl, rfl, Tryz.underlying3, rfl⟩
    | 2, h => cases h; exact ⟨by decide, sf35, _, Tryz.t3, .int .i64, rfl, rfl, rfl, by kernel_rfl, rfl, Tryz.underlying3, rfl⟩
    | 3, h => cases h; exact ⟨by decide, sf35, _, Tryz.t34, .struct sf33, rfl, rfl, rfl, by kernel_rfl, rfl, Tryz.underlying34, rfl⟩
    | k + 4, h => simp [ty35] at h
  places := fun fs h => by cases h; kernel_rfl
  eqs := fun h => absurd rfl h
theorem ok36 : TyOk Tryz.prog 36 ty36 where
  u := Tryz.underlying36
  agg := rfl
  info := ⟨Tryz.t36, .agg #[.int .i64 0, .int .i64 0, .int .i64 0, .int .i64 0, .slice none 0 0, .slice none 0 0, .int .i64 0, .int .i64 0, .int .i64 0, .int .i64 0, .int .i64 0, .int .i64 0, .string ByteArray.empty, .slice none 0 0, .slice none 0 0, .slice none 0 0, .slice none 0 0, .slice none 0 0, .string ByteArray.empty, .string ByteArray.empty, .int .i64 0, .int .i64 0, .string ByteArray.empty, .int .i64 0, .int .i64 0, .int .i64 0, .string ByteArray.empty, .slice none 0 0], by kernel_rfl, by kernel_rfl, by kernel_rfl, by kernel_rfl, rfl, fun G => .cons (.int _ _ (by decide)) (.cons (.int _ _ (by decide)) (.cons (.int _ _ (by decide)) (.cons (.int _ _ (by decide)) (.cons .nilS (.cons .nilS (.cons (.int _ _ (by decide)) (.cons (.int _ _ (by decide)) (.cons (.int _ _ (by decide)) (.cons (.int _ _ (by decide)) (.cons (.int _ _ (by decide)) (.cons (.int _ _ (by decide)) (.cons (.str _ (by decide)) (.cons .nilS (.cons .nilS (.cons .nilS (.cons .nilS (.cons .nilS (.cons (.str _ (by decide)) (.cons (.str _ (by decide)) (.cons (.int _ _ (by decide)) (.cons (.int _ _ (by decide)) (.cons (.str _ (by decide)) (.cons (.int _ _ (by decide)) (.cons (.int _ _ (by decide)) (.cons (.int _ _ (by decide)) (.cons (.str _ (by decide)) (.cons .nilS (.nil _)))))))))))))))))))))))))))), by decide⟩
  fields := by
    intro k o s g h
    match k, h with
    | 0, h => cases h; exact ⟨by decide, sf35, _, Tryz.t3, .int .i64, rfl, rfl, rfl, by kernel_rfl, rfl, Tryz.underlying3, rfl⟩
    | 1, h => cases h; exact ⟨by decide, sf35, _, Tryz.t3, .int .i64, rfl, rfl, rfl, by kernel_rfl, rfl, Tryz.underlying3, rfl⟩
    | 2, h => cases h; exact ⟨by decide, sf35, _, Tryz.t3, .int .i64, rfl, rfl, rfl, by kernel_rfl, rfl, Tryz.underlying3, rfl⟩
    | 3, h => cases h; exact ⟨by decide, sf35, _, Tryz.t34, .struct sf33, rfl, rfl, rfl, by kernel_rfl, rfl, Tryz.underlying34, rfl⟩
    | k + 4, h => simp [ty36] at h
  places := fun fs h => by cases h; kernel_rfl
  eqs := fun h => absurd rfl h
theorem ok37 : TyOk Tryz.prog 37 ty37 where
  u := Tryz.underlying37
  agg := rfl
  info := ⟨Tryz.t37, .nilFunc, by kernel_rfl, by kernel_rfl, by kernel_rfl, by kernel_rfl, rfl, fun G => .cons .nilF (.nil _), by decide⟩
  fields := fun k o s g h => by simp [ty37] at h
  places := fun fs h => by cases h
  eqs := fun h => absurd rfl h
theorem ok38 : TyOk Tryz.prog 38 ty38 where
  u := Tryz.underlying38
  agg := rfl
  info := ⟨Tryz.t38, .nilFunc, by kernel_rfl, by kernel_rfl, by kernel_rfl, by kernel_rfl, rfl, fun G => .cons .nilF (.nil _), by decide⟩
  fields := fun k o s g h => by simp [ty38] at h
  places := fun fs h => by cases h
  eqs := fun h => absurd rfl h
theorem ok39 : TyOk Tryz.prog 39 ty39 where
  u := Tryz.underlying39
  agg := rfl
  info := ⟨Tryz.t39, .int .i64 0, by kernel_rfl, by kernel_rfl, by kernel_rfl, by kernel_rfl, rfl, fun G => .cons (.int _ _ (by decide)) (.nil _), by decide⟩
  fields := fun k o s g h => by simp [ty39] at h
  places := fun fs h => by cases h
  eqs := fun _ => ⟨by kernel_rfl, fun G cs ds vs us b w h1 h2 h3 h4 => eq39.eq (by decide) G cs ds vs us b w h1 h2 h3 h4⟩
theorem ok41 : TyOk Tryz.prog 41 ty41 where
  u := Tryz.underlying41
  agg := rfl
  info := ⟨Tryz.t41, .nilFunc, by kernel_rfl, by kernel_rfl, by kernel_rfl, by kernel_rfl, rfl, fun G => .cons .nilF (.nil _), by decide⟩
  fields := fun k o s g h => by simp [ty41] at h
  places := fun fs h => by cases h
  eqs := fun h => absurd rfl h
theorem ok43 : TyOk Tryz.prog 43 ty43 where
  u := Tryz.underlying43
  agg := rfl
  info := ⟨Tryz.t43, .nilFunc, by kernel_rfl, by kernel_rfl, by kernel_rfl, by kernel_rfl, rfl, fun G => .cons .nilF (.nil _), by decide⟩
  fields := fun k o s g h => by simp [ty43] at h
  places := fun fs h => by cases h
  eqs := fun h => absurd rfl h
theorem ok45 : TyOk Tryz.prog 45 ty45 where
  u := Tryz.underlying45
  agg := rfl
  info := ⟨Tryz.t45, .nilFunc, by kernel_rfl, by kernel_rfl, by kernel_rfl, by kernel_rfl, rfl, fun G => .cons .nilF (.nil _), by decide⟩
  fields := fun k o s g h => by simp [ty45] at h
  places := fun fs h => by cases h
  eqs := fun h => absurd rfl h
theorem ok47 : TyOk Tryz.prog 47 ty47 where
  u := Tryz.underlying47
  agg := rfl
  info := ⟨Tryz.t47, .nilFunc, by kernel_rfl, by kernel_rfl, by kernel_rfl, by kernel_rfl, rfl, fun G => .cons .nilF (.nil _), by decide⟩
  fields := fun k o s g h => by simp [ty47] at h
  places := fun fs h => by cases h
  eqs := fun h => absurd rfl h
theorem ok49 : TyOk Tryz.prog 49 ty49 where
  u := Tryz.underlying49
  agg := rfl
  info := ⟨Tryz.t49, .nilFunc, by kernel_rfl, by kernel_rfl, by kernel_rfl, by kernel_rfl, rfl, fun G => .cons .nilF (.nil _), by decide⟩
  fields := fun k o s g h => by simp [ty49] at h
  places := fun fs h => by cases h
  eqs := fun h => absurd rfl h
theorem ok51 : TyOk Tryz.prog 51 ty51 where
  u := Tryz.underlying51
  agg := rfl
  info := ⟨Tryz.t51, .nilFunc, by kernel_rfl, by kernel_rfl, by kernel_rfl, by kernel_rfl, rfl, fun G => .cons .nilF (.nil _), by decide⟩
  fields := fun k o s g h => by simp [ty51] at h
  places := fun fs h => by cases h
  eqs := fun h => absurd rfl h
theorem ok52 : TyOk Tryz.prog 52 ty52 where
  u := Tryz.underlying52
  agg := rfl
  info := ⟨Tryz.t52, .nilFunc, by kernel_rfl, by kernel_rfl, by kernel_rfl, by kernel_rfl, rfl, fun G => .cons .nilF (.nil _), by decide⟩
  fields := fun k o s g h => by simp [ty52] at h
  places := fun fs h => by cases h
  eqs := fun h => absurd rfl h
theorem ok53 : TyOk Tryz.prog 53 ty53 where
  u := Tryz.underlying53
  agg := rfl
  info := ⟨Tryz.t53, .nilFunc, by kernel_rfl, by kernel_rfl, by kernel_rfl, by kernel_rfl, rfl, fun G => .cons .nilF (.nil _), by decide⟩
  fields := fun k o s g h => by simp [ty53] at h
  places := fun fs h => by cases h
  eqs := fun h => absurd rfl h
theorem ok54 : TyOk Tryz.prog 54 ty54 where
  u := Tryz.underlying54
  agg := rfl
  info := ⟨Tryz.t54, .nilFunc, by kernel_rfl, by kernel_rfl, by kernel_rfl, by kernel_rfl, rfl, fun G => .cons .nilF (.nil _), by decide⟩
  fields := fun k o s g h => by simp [ty54] at h
  places := fun fs h => by cases h
  eqs := fun h => absurd rfl h
theorem ok55 : TyOk Tryz.prog 55 ty55 where
  u := Tryz.underlying55
  agg := rfl
  info := ⟨Tryz.t55, .agg #[.int .i64 0, .string ByteArray.empty], by kernel_rfl, by kernel_rfl, by kernel_rfl, by kernel_rfl, rfl, fun G => .cons (.int _ _ (by decide)) (.cons (.str _ (by decide)) (.nil _)), by decide⟩
  fields := by
    intro k o s g h
    match k, h with
    | 0, h => cases h; exact ⟨by decide, sf55, _, Tryz.t3, .int .i64, rfl, rfl, rfl, by kernel_rfl, rfl, Tryz.underlying3, rfl⟩
    | 1, h => cases h; exact ⟨by decide, sf55, _, Tryz.t9, .string, rfl, rfl, rfl, by kernel_rfl, rfl, Tryz.underlying9, rfl⟩
    | k + 2, h => simp [ty55] at h
  places := fun fs h => by cases h; kernel_rfl
  eqs := fun _ => ⟨by kernel_rfl, fun G cs ds vs us b w h1 h2 h3 h4 => eq55.eq (by decide) G cs ds vs us b w h1 h2 h3 h4⟩
theorem ok56 : TyOk Tryz.prog 56 ty56 where
  u := Tryz.underlying56
  agg := rfl
  info := ⟨Tryz.t56, .agg #[.int .i64 0, .string ByteArray.empty], by kernel_rfl, by kernel_rfl, by kernel_rfl, by kernel_rfl, rfl, fun G => .cons (.int _ _ (by decide)) (.cons (.str _ (by decide)) (.nil _)), by decide⟩
  fields := by
    intro k o s g h
    match k, h with
    | 0, h => cases h; exact ⟨by decide, sf55, _, Tryz.t3, .int .i64, rfl, rfl, rfl, by kernel_rfl, rfl, Tryz.underlying3, rfl⟩
    | 1, h => cases h; exact ⟨by decide, sf55, _, Tryz.t9, .string, rfl, rfl, rfl, by kernel_rfl, rfl, Tryz.underlying9, rfl⟩
    | k + 2, h => simp [ty56] at h
  places := fun fs h => by cases h; kernel_rfl
  eqs := fun _ => ⟨by kernel_rfl, fun G cs ds vs us b w h1 h2 h3 h4 => eq56.eq (by decide) G cs ds vs us b w h1 h2 h3 h4⟩
theorem ok57 : TyOk Tryz.prog 57 ty57 where
  u := Tryz.underlying57
  agg := rfl
  info := ⟨Tryz.t57, .nilFunc, by kernel_rfl, by kernel_rfl, by kernel_rfl, by kernel_rfl, rfl, fun G => .cons .nilF (.nil _), by decide⟩
  fields := fun k o s g h => by simp [ty57] at h
  places := fun fs h => by cases h
  eqs := fun h => absurd rfl h
theorem ok58 : TyOk Tryz.prog 58 ty58 where
  u := Tryz.underlying58
  agg := rfl
  info := ⟨Tryz.t58, .nilFunc, by kernel_rfl, by kernel_rfl, by kernel_rfl, by kernel_rfl, rfl, fun G => .cons .nilF (.nil _), by decide⟩
  fields := fun k o s g h => by simp [ty58] at h
  places := fun fs h => by cases h
  eqs := fun h => absurd rfl h
theorem ok59 : TyOk Tryz.prog 59 ty59 where
  u := Tryz.underlying59
  agg := rfl
  info := ⟨Tryz.t59, .nilFunc, by kernel_rfl, by kernel_rfl, by kernel_rfl, by kernel_rfl, rfl, fun G => .cons .nilF (.nil _), by decide⟩
  fields := fun k o s g h => by simp [ty59] at h
  places := fun fs h => by cases h
  eqs := fun h => absurd rfl h
theorem ok60 : TyOk Tryz.prog 60 ty60 where
  u := Tryz.underlying60
  agg := rfl
  info := ⟨Tryz.t60, .nilFunc, by kernel_rfl, by kernel_rfl, by kernel_rfl, by kernel_rfl, rfl, fun G => .cons .nilF (.nil _), by decide⟩
  fields := fun k o s g h => by simp [ty60] at h
  places := fun fs h => by cases h
  eqs := fun h => absurd rfl h
theorem ok61 : TyOk Tryz.prog 61 ty61 where
  u := Tryz.underlying61
  agg := rfl
  info := ⟨Tryz.t61, .nilFunc, by kernel_rfl, by kernel_rfl, by kernel_rfl, by kernel_rfl, rfl, fun G => .cons .nilF (.nil _), by decide⟩
  fields := fun k o s g h => by simp [ty61] at h
  places := fun fs h => by cases h
  eqs := fun h => absurd rfl h
theorem ok62 : TyOk Tryz.prog 62 ty62 where
  u := Tryz.underlying62
  agg := rfl
  info := ⟨Tryz.t62, .nilFunc, by kernel_rfl, by kernel_rfl, by kernel_rfl, by kernel_rfl, rfl, fun G => .cons .nilF (.nil _), by decide⟩
  fields := fun k o s g h => by simp [ty62] at h
  places := fun fs h => by cases h
  eqs := fun h => absurd rfl h
theorem ok64 : TyOk Tryz.prog 64 ty64 where
  u := Tryz.underlying64
  agg := rfl
  info := ⟨Tryz.t64, .nilFunc, by kernel_rfl, by kernel_rfl, by kernel_rfl, by kernel_rfl, rfl, fun G => .cons .nilF (.nil _), by decide⟩
  fields := fun k o s g h => by simp [ty64] at h
  places := fun fs h => by cases h
  eqs := fun h => absurd rfl h
theorem ok65 : TyOk Tryz.prog 65 ty65 where
  u := Tryz.underlying65
  agg := rfl
  info := ⟨Tryz.t65, .nilFunc, by kernel_rfl, by kernel_rfl, by kernel_rfl, by kernel_rfl, rfl, fun G => .cons .nilF (.nil _), by decide⟩
  fields := fun k o s g h => by simp [ty65] at h
  places := fun fs h => by cases h
  eqs := fun h => absurd rfl h
theorem ok66 : TyOk Tryz.prog 66 ty66 where
  u := Tryz.underlying66
  agg := rfl
  info := ⟨Tryz.t66, .nilFunc, by kernel_rfl, by kernel_rfl, by kernel_rfl, by kernel_rfl, rfl, fun G => .cons .nilF (.nil _), by decide⟩
  fields := fun k o s g h => by simp [ty66] at h
  places := fun fs h => by cases h
  eqs := fun h => absurd rfl h
theorem ok67 : TyOk Tryz.prog 67 ty67 where
  u := Tryz.underlying67
  agg := rfl
  info := ⟨Tryz.t67, .nilFunc, by kernel_rfl, by kernel_rfl, by kernel_rfl, by kernel_rfl, rfl, fun G => .cons .nilF (.nil _), by decide⟩
  fields := fun k o s g h => by simp [ty67] at h
  places := fun fs h => by cases h
  eqs := fun h => absurd rfl h
theorem ok68 : TyOk Tryz.prog 68 ty68 where
  u := Tryz.underlying68
  agg := rfl
  info := ⟨Tryz.t68, .nilFunc, by kernel_rfl, by kernel_rfl, by kernel_rfl, by kernel_rfl, rfl, fun G => .cons .nilF (.nil _), by decide⟩
  fields := fun k o s g h => by simp [ty68] at h
  places := fun fs h => by cases h
  eqs := fun h => absurd rfl h
theorem ok70 : TyOk Tryz.prog 70 ty70 where
  u := Tryz.underlying70
  agg := rfl
  info := ⟨Tryz.t70, .nilFunc, by kernel_rfl, by kernel_rfl, by kernel_rfl, by kernel_rfl, rfl, fun G => .cons .nilF (.nil _), by decide⟩
  fields := fun k o s g h => by simp [ty70] at h
  places := fun fs h => by cases h
  eqs := fun h => absurd rfl h
theorem ok72 : TyOk Tryz.prog 72 ty72 where
  u := Tryz.underlying72
  agg := rfl
  info := ⟨Tryz.t72, .nilFunc, by kernel_rfl, by kernel_rfl, by kernel_rfl, by kernel_rfl, rfl, fun G => .cons .nilF (.nil _), by decide⟩
  fields := fun k o s g h => by simp [ty72] at h
  places := fun fs h => by cases h
  eqs := fun h => absurd rfl h
theorem ok73 : TyOk Tryz.prog 73 ty73 where
  u := Tryz.underlying73
  agg := rfl
  info := ⟨Tryz.t73, .nilFunc, by kernel_rfl, by kernel_rfl, by kernel_rfl, by kernel_rfl, rfl, fun G => .cons .nilF (.nil _), by decide⟩
  fields := fun k o s g h => by simp [ty73] at h
  places := fun fs h => by cases h
  eqs := fun h => absurd rfl h
theorem ok74 : TyOk Tryz.prog 74 ty74 where
  u := Tryz.underlying74
  agg := rfl
  info := ⟨Tryz.t74, .nilFunc, by kernel_rfl, by kernel_rfl, by kernel_rfl, by kernel_rfl, rfl, fun G => .cons .nilF (.nil _), by decide⟩
  fields := fun k o s g h => by simp [ty74] at h
  places := fun fs h => by cases h
  eqs := fun h => absurd rfl h
theorem ok76 : TyOk Tryz.prog 76 ty76 where
  u := Tryz.underlying76
  agg := rfl
  info := ⟨Tryz.t76, .nilFunc, by kernel_rfl, by kernel_rfl, by kernel_rfl, by kernel_rfl, rfl, fun G => .cons .nilF (.nil _), by decide⟩
  fields := fun k o s g h => by simp [ty76] at h
  places := fun fs h => by cases h
  eqs := fun h => absurd rfl h
theorem ok77 : TyOk Tryz.prog 77 ty77 where
  u := Tryz.underlying77
  agg := rfl
  info := ⟨Tryz.t77, .nilFunc, by kernel_rfl, by kernel_rfl, by kernel_rfl, by kernel_rfl, rfl, fun G => .cons .nilF (.nil _), by decide⟩
  fields := fun k o s g h => by simp [ty77] at h
  places := fun fs h => by cases h
  eqs := fun h => absurd rfl h
theorem ok78 : TyOk Tryz.prog 78 ty78 where
  u := Tryz.underlying78
  agg := rfl
  info := ⟨Tryz.t78, .nilFunc, by kernel_rfl, by kernel_rfl, by kernel_rfl, by kernel_rfl, rfl, fun G => .cons .nilF (.nil _), by decide⟩
  fields := fun k o s g h => by simp [ty78] at h
  places := fun fs h => by cases h
  eqs := fun h => absurd rfl h
theorem ok79 : TyOk Tryz.prog 79 ty79 where
  u := Tryz.underlying79
  agg := rfl
  info := ⟨Tryz.t79, .nilFunc, by kernel_rfl, by kernel_rfl, by kernel_rfl, by kernel_rfl, rfl, fun G => .cons .nilF (.nil _), by decide⟩
  fields := fun k o s g h => by simp [ty79] at h
  places := fun fs h => by cases h
  eqs := fun h => absurd rfl h
theorem ok80 : TyOk Tryz.prog 80 ty80 where
  u := Tryz.underlying80
  agg := rfl
  info := ⟨Tryz.t80, .nilFunc, by kernel_rfl, by kernel_rfl, by kernel_rfl, by kernel_rfl, rfl, fun G => .cons .nilF (.nil _), by decide⟩
  fields := fun k o s g h => by simp [ty80] at h
  places := fun fs h => by cases h
  eqs := fun h => absurd rfl h
theorem ok81 : TyOk Tryz.prog 81 ty81 where
  u := Tryz.underlying81
  agg := rfl
  info := ⟨Tryz.t81, .agg #[.int .i64 0, .int .i64 0, .int .i64 0, .int .i64 0], by kernel_rfl, by kernel_rfl, by kernel_rfl, by kernel_rfl, rfl, fun G => .cons (.int _ _ (by decide)) (.cons (.int _ _ (by decide)) (.cons (.int _ _ (by decide)) (.cons (.int _ _ (by decide)) (.nil _)))), by decide⟩
  fields := by
    intro k o s g h
    match k, h with
    | 0, h => cases h; exact ⟨by decide, sf81, _, Tryz.t23, .struct sf22, rfl, rfl, rfl, by kernel_rfl, rfl, Tryz.underlying23, rfl⟩
    | 1, h => cases h; exact ⟨by decide, sf81, _, Tryz.t3, .int .i64, rfl, rfl, rfl, by kernel_rfl, rfl, Tryz.underlying3, rfl⟩
    | k + 2, h => simp [ty81] at h
  places := fun fs h => by cases h; kernel_rfl
  eqs := fun _ => ⟨by kernel_rfl, fun G cs ds vs us b w h1 h2 h3 h4 => eq81.eq (by decide) G cs ds vs us b w h1 h2 h3 h4⟩
theorem ok82 : TyOk Tryz.prog 82 ty82 where
  u := Tryz.underlying82
  agg := rfl
  info := ⟨Tryz.t82, .agg #[.int .i64 0, .int .i64 0, .int .i64 0, .int .i64 0], by kernel_rfl, by kernel_rfl, by kernel_rfl, by kernel_rfl, rfl, fun G => .cons (.int _ _ (by decide)) (.cons (.int _ _ (by decide)) (.cons (.int _ _ (by decide)) (.cons (.int _ _ (by decide)) (.nil _)))), by decide⟩
  fields := by
    intro k o s g h
    match k, h with
    | 0, h => cases h; exact ⟨by decide, sf81, _, Tryz.t23, .struct sf22, rfl, rfl, rfl, by kernel_rfl, rfl, Tryz.underlying23, rfl⟩
    | 1, h => cases h; exact ⟨by decide, sf81, _, Tryz.t3, .int .i64, rfl, rfl, rfl, by kernel_rfl, rfl, Tryz.underlying3, rfl⟩
    | k + 2, h => simp [ty82] at h
  places := fun fs h => by cases h; kernel_rfl
  eqs := fun _ => ⟨by kernel_rfl, fun G cs ds vs us b w h1 h2 h3 h4 => eq82.eq (by decide) G cs ds vs us b w h1 h2 h3 h4⟩
theorem ok84 : TyOk Tryz.prog 84 ty84 where
  u := Tryz.underlying84
  agg := rfl
  info := ⟨Tryz.t84, .nilFunc, by kernel_rfl, by kernel_rfl, by kernel_rfl, by kernel_rfl, rfl, fun G => .cons .nilF (.nil _), by decide⟩
  fields := fun k o s g h => by simp [ty84] at h
  places := fun fs h => by cases h
  eqs := fun h => absurd rfl h
theorem ok85 : TyOk Tryz.prog 85 ty85 where
  u := Tryz.underlying85
  agg := rfl
  info := ⟨Tryz.t85, .nilFunc, by kernel_rfl, by kernel_rfl, by kernel_rfl, by kernel_rfl, rfl, fun G => .cons .nilF (.nil _), by decide⟩
  fields := fun k o s g h => by simp [ty85] at h
  places := fun fs h => by cases h
  eqs := fun h => absurd rfl h
theorem ok86 : TyOk Tryz.prog 86 ty86 where
  u := Tryz.underlying86
  agg := rfl
  info := ⟨Tryz.t86, .nilFunc, by kernel_rfl, by kernel_rfl, by kernel_rfl, by kernel_rfl, rfl, fun G => .cons .nilF (.nil _), by decide⟩
  fields := fun k o s g h => by simp [ty86] at h
  places := fun fs h => by cases h
  eqs := fun h => absurd rfl h
theorem ok87 : TyOk Tryz.prog 87 ty87 where
  u := Tryz.underlying87
  agg := rfl
  info := ⟨Tryz.t87, .nilFunc, by kernel_rfl, by kernel_rfl, by kernel_rfl, by kernel_rfl, rfl, fun G => .cons .nilF (.nil _), by decide⟩
  fields := fun k o s g h => by simp [ty87] at h
  places := fun fs h => by cases h
  eqs := fun h => absurd rfl h
theorem ok88 : TyOk Tryz.prog 88 ty88 where
  u := Tryz.underlying88
  agg := rfl
  info := ⟨Tryz.t88, .nilFunc, by kernel_rfl, by kernel_rfl, by kernel_rfl, by kernel_rfl, rfl, fun G => .cons .nilF (.nil _), by decide⟩
  fields := fun k o s g h => by simp [ty88] at h
  places := fun fs h => by cases h
  eqs := fun h => absurd rfl h
theorem ok89 : TyOk Tryz.prog 89 ty89 where
  u := Tryz.underlying89
  agg := rfl
  info := ⟨Tryz.t89, .nilFunc, by kernel_rfl, by kernel_rfl, by kernel_rfl, by kernel_rfl, rfl, fun G => .cons .nilF (.nil _), by decide⟩
  fields := fun k o s g h => by simp [ty89] at h
  places := fun fs h => by cases h
  eqs := fun h => absurd rfl h
theorem ok90 : TyOk Tryz.prog 90 ty90 where
  u := Tryz.underlying90
  agg := rfl
  info := ⟨Tryz.t90, .nilFunc, by kernel_rfl, by kernel_rfl, by kernel_rfl, by kernel_rfl, rfl, fun G => .cons .nilF (.nil _), by decide⟩
  fields := fun k o s g h => by simp [ty90] at h
  places := fun fs h => by cases h
  eqs := fun h => absurd rfl h
theorem ok91 : TyOk Tryz.prog 91 ty91 where
  u := Tryz.underlying91
  agg := rfl
  info := ⟨Tryz.t91, .nilFunc, by kernel_rfl, by kernel_rfl, by kernel_rfl, by kernel_rfl, rfl, fun G => .cons .nilF (.nil _), by decide⟩
  fields := fun k o s g h => by simp [ty91] at h
  places := fun fs h => by cases h
  eqs := fun h => absurd rfl h
theorem ok92 : TyOk Tryz.prog 92 ty92 where
  u := Tryz.underlying92
  agg := rfl
  info := ⟨Tryz.t92, .nilFunc, by kernel_rfl, by kernel_rfl, by kernel_rfl, by kernel_rfl, rfl, fun G => .cons .nilF (.nil _), by decide⟩
  fields := fun k o s g h => by simp [ty92] at h
  places := fun fs h => by cases h
  eqs := fun h => absurd rfl h
theorem ok93 : TyOk Tryz.prog 93 ty93 where
  u := Tryz.underlying93
  agg := rfl
  info := ⟨Tryz.t93, .nilFunc, by kernel_rfl, by kernel_rfl, by kernel_rfl, by kernel_rfl, rfl, fun G => .cons .nilF (.nil _), by decide⟩
  fields := fun k o s g h => by simp [ty93] at h
  places := fun fs h => by cases h
  eqs := fun h => absurd rfl h
theorem ok94 : TyOk Tryz.prog 94 ty94 where
  u := Tryz.underlying94
  agg := rfl
  info := ⟨Tryz.t94, .nilFunc, by kernel_rfl, by kernel_rfl, by kernel_rfl, by kernel_rfl, rfl, fun G => .cons .nilF (.nil _), by decide⟩
  fields := fun k o s g h => by simp [ty94] at h
  places := fun fs h => by cases h
  eqs := fun h => absurd rfl h
theorem ok95 : TyOk Tryz.prog 95 ty95 where
  u := Tryz.underlying95
  agg := rfl
  info := ⟨Tryz.t95, .slice none 0 0, by kernel_rfl, by kernel_rfl, by kernel_rfl, by kernel_rfl, rfl, fun G => .cons .nilS (.nil _), by decide⟩
  fields := fun k o s g h => by simp [ty95] at h
  places := fun fs h => by cases h
  eqs := fun h => absurd rfl h
theorem ok96 : TyOk Tryz.prog 96 ty96 where
  u := Tryz.underlying96
  agg := rfl
  info := ⟨Tryz.t96, .nilFunc, by kernel_rfl, by kernel_rfl, by kernel_rfl, by kernel_rfl, rfl, fun G => .cons .nilF (.nil _), by decide⟩
  fields := fun k o s g h => by simp [ty96] at h
  places := fun fs h => by cases h
  eqs := fun h => absurd rfl h
theorem ok97 : TyOk Tryz.prog 97 ty97 where
  u := Tryz.underlying97
  agg := rfl
  info := ⟨Tryz.t97, .nilFunc, by kernel_rfl, by kernel_rfl, by kernel_rfl, by kernel_rfl, rfl, fun G => .cons .nilF (.nil _), by decide⟩
  fields := fun k o s g h => by simp [ty97] at h
  places := fun fs h => by cases h
  eqs := fun h => absurd rfl h
theorem ok98 : TyOk Tryz.prog 98 ty98 where
  u := Tryz.underlying98
  agg := rfl
  info := ⟨Tryz.t98, .nilFunc, by kernel_rfl, by kernel_rfl, by kernel_rfl, by kernel_rfl, rfl, fun G => .cons .nilF (.nil _), by decide⟩
  fields := fun k o s g h => by simp [ty98] at h
  places := fun fs h => by cases h
  eqs := fun h => absurd rfl h
theorem ok99 : TyOk Tryz.prog 99 ty99 where
  u := Tryz.underlying99
  agg := rfl
  info := ⟨Tryz.t99, .nilFunc, by kernel_rfl, by kernel_rfl, by kernel_rfl, by kernel_rfl, rfl, fun G => .cons .nilF (.nil _), by decide⟩
  fields := fun k o s g h => by simp [ty99] at h
  places := fun fs h => by cases h
  eqs := fun h => absurd rfl h
theorem ok100 : TyOk Tryz.prog 100 ty100 where
  u := Tryz.underlying100
  agg := rfl
  info := ⟨Tryz.t100, .nilFunc, by kernel_rfl, by kernel_rfl, by kernel_rfl, by kernel_rfl, rfl, fun G => .cons .nilF (.nil _), by decide⟩
  fields := fun k o s g h => by simp [ty100] at h
  places := fun fs h => by cases h
  eqs := fun h => absurd rfl h
theorem ok101 : TyOk Tryz.prog 101 ty101 where
  u := Tryz.underlying101
  agg := rfl
  info := ⟨Tryz.t101, .nilFunc, by kernel_rfl, by kernel_rfl, by kernel_rfl, by kernel_rfl, rfl, fun G => .cons .nilF (.nil _), by decide⟩
  fields := fun k o s g h => by simp [ty101] at h
  places := fun fs h => by cases h
  eqs := fun h => absurd rfl h
theorem ok102 : TyOk Tryz.prog 102 ty102 where
  u := Tryz.underlying102
  agg := rfl
  info := ⟨Tryz.t102, .slice none 0 0, by kernel_rfl, by kernel_rfl, by kernel_rfl, by kernel_rfl, rfl, fun G => .cons .nilS (.nil _), by decide⟩
  fields := fun k o s g h => by simp [ty102] at h
  places := fun fs h => by cases h
  eqs := fun h => absurd rfl h
theorem ok103 : TyOk Tryz.prog 103 ty103 where
  u := Tryz.underlying103
  agg := rfl
  info := ⟨Tryz.t103, .nilFunc, by kernel_rfl, by kernel_rfl, by kernel_rfl, by kernel_rfl, rfl, fun G => .cons .nilF (.nil _), by decide⟩
  fields := fun k o s g h => by simp [ty103] at h
  places := fun fs h => by cases h
  eqs := fun h => absurd rfl h
theorem ok104 : TyOk Tryz.prog 104 ty104 where
  u := Tryz.underlying104
  agg := rfl
  info := ⟨Tryz.t104, .agg #[.int .i64 0, .int .i64 0, .int .i64 0], by kernel_rfl, by kernel_rfl, by kernel_rfl, by kernel_rfl, rfl, fun G => .cons (.int _ _ (by decide)) (.cons (.int _ _ (by decide)) (.cons (.int _ _ (by decide)) (.nil _))), by decide⟩
  fields := by
    intro k o s g h
    match k, h with
    | 0, h => cases h; exact ⟨by decide, sf104, _, Tryz.t3, .int .i64, rfl, rfl, rfl, by kernel_rfl, rfl, Tryz.underlying3, rfl⟩
    | 1, h => cases h; exact ⟨by decide, sf104, _, Tryz.t3, .int .i64, rfl, rfl, rfl, by kernel_rfl, rfl, Tryz.underlying3, rfl⟩
    | 2, h => cases h; exact ⟨by decide, sf104, _, Tryz.t3, .int .i64, rfl, rfl, rfl, by kernel_rfl, rfl, Tryz.underlying3, rfl⟩
    | k + 3, h => simp [ty104] at h
  places := fun fs h => by cases h; kernel_rfl
  eqs := fun _ => ⟨by kernel_rfl, fun G cs ds vs us b w h1 h2 h3 h4 => eq104.eq (by decide) G cs ds vs us b w h1 h2 h3 h4⟩
theorem ok105 : TyOk Tryz.prog 105 ty105 where
  u := Tryz.underlying105
  agg := rfl
  info := ⟨Tryz.t105, .agg #[.int .i64 0, .int .i64 0, .int .i64 0], by kernel_rfl, by kernel_rfl, by kernel_rfl, by kernel_rfl, rfl, fun G => .cons (.int _ _ (by decide)) (.cons (.int _ _ (by decide)) (.cons (.int _ _ (by decide)) (.nil _))), by decide⟩
  fields := by
    intro k o s g h
    match k, h with
    | 0, h => cases h; exact ⟨by decide, sf104, _, Tryz.t3, .int .i64, rfl, rfl, rfl, by kernel_rfl, rfl, Tryz.underlying3, rfl⟩
    | 1, h => cases h; exact ⟨by decide, sf104, _, Tryz.t3, .int .i64, rfl, rfl, rfl, by kernel_rfl, rfl, Tryz.underlying3, rfl⟩
    | 2, h => cases h; exact ⟨by decide, sf104, _, Tryz.t3, .int .i64, rfl, rfl, rfl, by kernel_rfl, rfl, Tryz.underlying3, rfl⟩
    | k + 3, h => simp [ty105] at h
  places := fun fs h => by cases h; kernel_rfl
  eqs := fun _ => ⟨by kernel_rfl, fun G cs ds vs us b w h1 h2 h3 h4 => eq105.eq (by decide) G cs ds vs us b w h1 h2 h3 h4⟩
theorem ok106 : TyOk Tryz.prog 106 ty106 where
  u := Tryz.underlying106
  agg := rfl
  info := ⟨Tryz.t106, .agg #[.string ByteArray.empty, .int .i64 0, .int .i64 0, .int .i64 0], by kernel_rfl, by kernel_rfl, by kernel_rfl, by kernel_rfl, rfl, fun G => .cons (.str _ (by decide)) (.cons (.int _ _ (by decide)) (.cons (.int _ _ (by decide)) (.cons (.int _ _ (by decide)) (.nil _)))), by decide⟩
  fields := by
    intro k o s g h
    match k, h with
    | 0, h => cases h; exact ⟨by decide, sf106, _, Tryz.t9, .string, rfl, rfl, rfl, by kernel_rfl, rfl, Tryz.underlying9, rfl⟩
    | 1, h => cases h; exact ⟨by decide, sf106, _, Tryz.t105, .struct sf104, rfl, rfl, rfl, by kernel_rfl, rfl, Tryz.underlying105, rfl⟩
    | k + 2, h => simp [ty106] at h
  places := fun fs h => by cases h; kernel_rfl
  eqs := fun _ => ⟨by kernel_rfl, fun G cs ds vs us b w h1 h2 h3 h4 => eq106.eq (by decide) G cs ds vs us b w h1 h2 h3 h4⟩
theorem ok107 : TyOk Tryz.prog 107 ty107 where
  u := Tryz.underlying107
  agg := rfl
  info := ⟨Tryz.t107, .agg #[.string ByteArray.empty, .int .i64 0, .int .i64 0, .int .i64 0], by kernel_rfl, by kernel_rfl, by kernel_rfl, by kernel_rfl, rfl, fun G => .cons (.str _ (by decide)) (.cons (.int _ _ (by decide)) (.cons (.int _ _ (by decide)) (.cons (.int _ _ (by decide)) (.nil _)))), by decide⟩
  fields := by
    intro k o s g h
    match k, h with
    | 0, h => cases h; exact ⟨by decide, sf106, _, Tryz.t9, .string, rfl, rfl, rfl, by kernel_rfl, rfl, Tryz.underlying9, rfl⟩
    | 1, h => cases h; exact ⟨by decide, sf106, _, Tryz.t105, .struct sf104, rfl, rfl, rfl, by kernel_rfl, rfl, Tryz.underlying105, rfl⟩
    | k + 2, h => simp [ty107] at h
  places := fun fs h => by cases h; kernel_rfl
  eqs := fun _ => ⟨by kernel_rfl, fun G cs ds vs us b w h1 h2 h3 h4 => eq107.eq (by decide) G cs ds vs us b w h1 h2 h3 h4⟩
theorem ok108 : TyOk Tryz.prog 108 ty108 where
  u := Tryz.underlying108
  agg := rfl
  info := ⟨Tryz.t108, .nilFunc, by kernel_rfl, by kernel_rfl, by kernel_rfl, by kernel_rfl, rfl, fun G => .cons .nilF (.nil _), by decide⟩
  fields := fun k o s g h => by simp [ty108] at h
  places := fun fs h => by cases h
  eqs := fun h => absurd rfl h
theorem ok109 : TyOk Tryz.prog 109 ty109 where
  u := Tryz.underlying109
  agg := rfl
  info := ⟨Tryz.t109, .nilFunc, by kernel_rfl, by kernel_rfl, by kernel_rfl, by kernel_rfl, rfl, fun G => .cons .nilF (.nil _), by decide⟩
  fields := fun k o s g h => by simp [ty109] at h
  places := fun fs h => by cases h
  eqs := fun h => absurd rfl h
theorem ok110 : TyOk Tryz.prog 110 ty110 where
  u := Tryz.underlying110
  agg := rfl
  info := ⟨Tryz.t110, .agg #[.nilFunc, .nilFunc, .nilFunc, .nilFunc], by kernel_rfl, by kernel_rfl, by kernel_rfl, by kernel_rfl, rfl, fun G => .cons .nilF (.cons .nilF (.cons .nilF (.cons .nilF (.nil _)))), by decide⟩
  fields := fun k o s g h => by simp [ty110] at h
  places := fun fs h => by cases h
  eqs := fun h => absurd rfl h
theorem ok111 : TyOk Tryz.prog 111 ty111 where
  u := Tryz.underlying111
  agg := rfl
  info := ⟨Tryz.t111, .nilFunc, by kernel_rfl, by kernel_rfl, by kernel_rfl, by kernel_rfl, rfl, fun G => .cons .nilF (.nil _), by decide⟩
  fields := fun k o s g h => by simp [ty111] at h
  places := fun fs h => by cases h
  eqs := fun h => absurd rfl h
theorem ok112 : TyOk Tryz.prog 112 ty112 where
  u := Tryz.underlying112
  agg := rfl
  info := ⟨Tryz.t112, .nilFunc, by kernel_rfl, by kernel_rfl, by kernel_rfl, by kernel_rfl, rfl, fun G => .cons .nilF (.nil _), by decide⟩
  fields := fun k o s g h => by simp [ty112] at h
  places := fun fs h => by cases h
  eqs := fun h => absurd rfl h
theorem ok113 : TyOk Tryz.prog 113 ty113 where
  u := Tryz.underlying113
  agg := rfl
  info := ⟨Tryz.t113, .nilFunc, by kernel_rfl, by kernel_rfl, by kernel_rfl, by kernel_rfl, rfl, fun G => .cons .nilF (.nil _), by decide⟩
  fields := fun k o s g h => by simp [ty113] at h
  places := fun fs h => by cases h
  eqs := fun h => absurd rfl h
theorem ok114 : TyOk Tryz.prog 114 ty114 where
  u := Tryz.underlying114
  agg := rfl
  info := ⟨Tryz.t114, .nilFunc, by kernel_rfl, by kernel_rfl, by kernel_rfl, by kernel_rfl, rfl, fun G => .cons .nilF (.nil _), by decide⟩
  fields := fun k o s g h => by simp [ty114] at h
  places := fun fs h => by cases h
  eqs := fun h => absurd rfl h
theorem ok115 : TyOk Tryz.prog 115 ty115 where
  u := Tryz.underlying115
  agg := rfl
  info := ⟨Tryz.t115, .nilFunc, by kernel_rfl, by kernel_rfl, by kernel_rfl, by kernel_rfl, rfl, fun G => .cons .nilF (.nil _), by decide⟩
  fields := fun k o s g h => by simp [ty115] at h
  places := fun fs h => by cases h
  eqs := fun h => absurd rfl h
theorem ok116 : TyOk Tryz.prog 116 ty116 where
  u := Tryz.underlying116
  agg := rfl
  info := ⟨Tryz.t116, .nilFunc, by kernel_rfl, by kernel_rfl, by kernel_rfl, by kernel_rfl, rfl, fun G => .cons .nilF (.nil _), by decide⟩
  fields := fun k o s g h => by simp [ty116] at h
  places := fun fs h => by cases h
  eqs := fun h => absurd rfl h
theorem ok117 : TyOk Tryz.prog 117 ty117 where
  u := Tryz.underlying117
  agg := rfl
  info := ⟨Tryz.t117, .nilFunc, by kernel_rfl, by kernel_rfl, by kernel_rfl, by kernel_rfl, rfl, fun G => .cons .nilF (.nil _), by decide⟩
  fields := fun k o s g h => by simp [ty117] at h
  places := fun fs h => by cases h
  eqs := fun h => absurd rfl h
theorem ok118 : TyOk Tryz.prog 118 ty118 where
  u := Tryz.underlying118
  agg := rfl
  info := ⟨Tryz.t118, .nilFunc, by kernel_rfl, by kernel_rfl, by kernel_rfl, by kernel_rfl, rfl, fun G => .cons .nilF (.nil _), by decide⟩
  fields := fun k o s g h => by simp [ty118] at h
  places := fun fs h => by cases h
  eqs := fun h => absurd rfl h
theorem ok119 : TyOk Tryz.prog 119 ty119 where
  u := Tryz.underlying119
  agg := rfl
  info := ⟨Tryz.t119, .nilFunc, by kernel_rfl, by kernel_rfl, by kernel_rfl, by kernel_rfl, rfl, fun G => .cons .nilF (.nil _), by decide⟩
  fields := fun k o s g h => by simp [ty119] at h
  places := fun fs h => by cases h
  eqs := fun h => absurd rfl h
theorem ok120 : TyOk Tryz.prog 120 ty120 where
  u := Tryz.underlying120
  agg := rfl
  info := ⟨Tryz.t120, .nilFunc, by kernel_rfl, by kernel_rfl, by kernel_rfl, by kernel_rfl, rfl, fun G => .cons .nilF (.nil _), by decide⟩
  fields := fun k o s g h => by simp [ty120] at h
  places := fun fs h => by cases h
  eqs := fun h => absurd rfl h
theorem ok121 : TyOk Tryz.prog 121 ty121 where
  u := Tryz.underlying121
  agg := rfl
  info := ⟨Tryz.t121, .nilFunc, by kernel_rfl, by kernel_rfl, by kernel_rfl, by kernel_rfl, rfl, fun G => .cons .nilF (.nil _), by decide⟩
  fields := fun k o s g h => by simp [ty121] at h
  places := fun fs h => by cases h
  eqs := fun h => absurd rfl h
theorem ok122 : TyOk Tryz.prog 122 ty122 where
  u := Tryz.underlying122
  agg := rfl
  info := ⟨Tryz.t122, .nilFunc, by kernel_rfl, by kernel_rfl, by kernel_rfl, by kernel_rfl, rfl, fun G => .cons .nilF (.nil _), by decide⟩
  fields := fun k o s g h => by simp [ty122] at h
  places := fun fs h => by cases h
  eqs := fun h => absurd rfl h
theorem ok123 : TyOk Tryz.prog 123 ty123 where
  u := Tryz.underlying123
  agg := rfl
  info := ⟨Tryz.t123, .nilFunc, by kernel_rfl, by kernel_rfl, by kernel_rfl, by kernel_rfl, rfl, fun G => .cons .nilF (.nil _), by decide⟩
  fields := fun k o s g h => by simp [ty123] at h
  places := fun fs h => by cases h
  eqs := fun h => absurd rfl h
theorem ok124 : TyOk Tryz.prog 124 ty124 where
  u := Tryz.underlying124
  agg := rfl
  info := ⟨Tryz.t124, .nilFunc, by kernel_rfl, by kernel_rfl, by kernel_rfl, by kernel_rfl, rfl, fun G => .cons .nilF (.nil _), by decide⟩
  fields := fun k o s g h => by simp [ty124] at h
  places := fun fs h => by cases h
  eqs := fun h => absurd rfl h
theorem ok125 : TyOk Tryz.prog 125 ty125 where
  u := Tryz.underlying125
  agg := rfl
  info := ⟨Tryz.t125, .nilFunc, by kernel_rfl, by kernel_rfl, by kernel_rfl, by kernel_rfl, rfl, fun G => .cons .nilF (.nil _), by decide⟩
  fields := fun k o s g h => by simp [ty125] at h
  places := fun fs h => by cases h
  eqs := fun h => absurd rfl h
theorem ok126 : TyOk Tryz.prog 126 ty126 where
  u := Tryz.underlying126
  agg := rfl
  info := ⟨Tryz.t126, .nilFunc, by kernel_rfl, by kernel_rfl, by kernel_rfl, by kernel_rfl, rfl, fun G => .cons .nilF (.nil _), by decide⟩
  fields := fun k o s g h => by simp [ty126] at h
  places := fun fs h => by cases h
  eqs := fun h => absurd rfl h
theorem ok127 : TyOk Tryz.prog 127 ty127 where
  u := Tryz.underlying127
  agg := rfl
  info := ⟨Tryz.t127, .nilFunc, by kernel_rfl, by kernel_rfl, by kernel_rfl, by kernel_rfl, rfl, fun G => .cons .nilF (.nil _), by decide⟩
  fields := fun k o s g h => by simp [ty127] at h
  places := fun fs h => by cases h
  eqs := fun h => absurd rfl h
theorem ok128 : TyOk Tryz.prog 128 ty128 where
  u := Tryz.underlying128
  agg := rfl
  info := ⟨Tryz.t128, .nilFunc, by kernel_rfl, by kernel_rfl, by kernel_rfl, by kernel_rfl, rfl, fun G => .cons .nilF (.nil _), by decide⟩
  fields := fun k o s g h => by simp [ty128] at h
  places := fun fs h => by cases h
  eqs := fun h => absurd rfl h
theorem ok129 : TyOk Tryz.prog 129 ty129 where
  u := Tryz.underlying129
  agg := rfl
  info := ⟨Tryz.t129, .nilFunc, by kernel_rfl, by kernel_rfl, by kernel_rfl, by kernel_rfl, rfl, fun G => .cons .nilF (.nil _), by decide⟩
  fields := fun k o s g h => by simp [ty129] at h
  places := fun fs h => by cases h
  eqs := fun h => absurd rfl h
theorem ok130 : TyOk Tryz.prog 130 ty130 where
  u := Tryz.underlying130
  agg := rfl
  info := ⟨Tryz.t130, .nilFunc, by kernel_rfl, by kernel_rfl, by kernel_rfl, by kernel_rfl, rfl, fun G => .cons .nilF (.nil _), by decide⟩
  fields := fun k o s g h => by simp [ty130] at h
  places := fun fs h => by cases h
  eqs := fun h => absurd rfl h
theorem ok131 : TyOk Tryz.prog 131 ty131 where
  u := Tryz.underlying131
  agg := rfl
  info := ⟨Tryz.t131, .nilFunc, by kernel_rfl, by kernel_rfl, by kernel_rfl, by kernel_rfl, rfl, fun G => .cons .nilF (.nil _), by decide⟩
  fields := fun k o s g h => by simp [ty131] at h
  places := fun fs h => by cases h
  eqs := fun h => absurd rfl h
theorem ok132 : TyOk Tryz.prog 132 ty132 where
  u := Tryz.underlying132
  agg := rfl
  info := ⟨Tryz.t132, .nilFunc, by kernel_rfl, by kernel_rfl, by kernel_rfl, by kernel_rfl, rfl, fun G => .cons .nilF (.nil _), by decide⟩
  fields := fun k o s g h => by simp [ty132] at h
  places := fun fs h => by cases h
  eqs := fun h => absurd rfl h
theorem ok133 : TyOk Tryz.prog 133 ty133 where
  u := Tryz.underlying133
  agg := rfl
  info := ⟨Tryz.t133, .nilFunc, by kernel_rfl, by kernel_rfl, by kernel_rfl, by kernel_rfl, rfl, fun G => .cons .nilF (.nil _), by decide⟩
  fields := fun k o s g h => by simp [ty133] at h
  places := fun fs h => by cases h
  eqs := fun h => absurd rfl h
theorem ok134 : TyOk Tryz.prog 134 ty134 where
  u := Tryz.underlying134
  agg := rfl
  info := ⟨Tryz.t134, .nilFunc, by kernel_rfl, by kernel_rfl, by kernel_rfl, by kernel_rfl, rfl, fun G => .cons .nilF (.nil _), by decide⟩
  fields := fun k o s g h => by simp [ty134] at h
  places := fun fs h => by cases h
  eqs := fun h => absurd rfl h
theorem ok136 : TyOk Tryz.prog 136 ty136 where
  u := Tryz.underlying136
  agg := rfl
  info := ⟨Tryz.t136, .nilFunc, by kernel_rfl, by kernel_rfl, by kernel_rfl, by kernel_rfl, rfl, fun G => .cons .nilF (.nil _), by decide⟩
  fields := fun k o s g h => by simp [ty136] at h
  places := fun fs h => by cases h
  eqs := fun h => absurd rfl h
theorem ok137 : TyOk Tryz.prog 137 ty137 where
  u := Tryz.underlying137
  agg := rfl
  info := ⟨Tryz.t137, .nilFunc, by kernel_rfl, by kernel_rfl, by kernel_rfl, by kernel_rfl, rfl, fun G => .cons .nilF (.nil _), by decide⟩
  fields := fun k o s g h => by simp [ty137] at h
  places := fun fs h => by cases h
  eqs := fun h => absurd rfl h
theorem ok138 : TyOk Tryz.prog 138 ty138 where
  u := Tryz.underlying138
  agg := rfl
  info := ⟨Tryz.t138, .nilFunc, by kernel_rfl, by kernel_rfl, by kernel_rfl, by kernel_rfl, rfl, fun G => .cons .nilF (.nil _), by decide⟩
  fields := fun k o s g h => by simp [ty138] at h
  places := fun fs h => by cases h
  eqs := fun h => absurd rfl h
theorem ok139 : TyOk Tryz.prog 139 ty139 where
  u := Tryz.underlying139
  agg := rfl
  info := ⟨Tryz.t139, .nilFunc, by kernel_rfl, by kernel_rfl, by kernel_rfl, by kernel_rfl, rfl, fun G => .cons .nilF (.nil _), by decide⟩
  fields := fun k o s g h => by simp [ty139] at h
  places := fun fs h => by cases h
  eqs := fun h => absurd rfl h
theorem ok140 : TyOk Tryz.prog 140 ty140 where
  u := Tryz.underlying140
  agg := rfl
  info := ⟨Tryz.t140, .nilFunc, by kernel_rfl, by kernel_rfl, by kernel_rfl, by kernel_rfl, rfl, fun G => .cons .nilF (.nil _), by decide⟩
  fields := fun k o s g h => by simp [ty140] at h
  places := fun fs h => by cases h
  eqs := fun h => absurd rfl h
theorem ok141 : TyOk Tryz.prog 141 ty141 where
  u := Tryz.underlying141
  agg := rfl
  info := ⟨Tryz.t141, .nilFunc, by kernel_rfl, by kernel_rfl, by kernel_rfl, by kernel_rfl, rfl, fun G => .cons .nilF (.nil _), by decide⟩
  fields := fun k o s g h => by simp [ty141] at h
  places := fun fs h => by cases h
  eqs := fun h => absurd rfl h
theorem ok144 : TyOk Tryz.prog 144 ty144 where
  u := Tryz.underlying144
  agg := rfl
  info := ⟨Tryz.t144, .agg #[], by kernel_rfl, by kernel_rfl, by kernel_rfl, by kernel_rfl, rfl, fun G => .nil _, by decide⟩
  fields := fun k o s g h => by simp [ty144] at h
  places := fun fs h => by cases h
  eqs := fun h => absurd rfl h
theorem ok147 : TyOk Tryz.prog 147 ty147 where
  u := Tryz.underlying147
  agg := rfl
  info := ⟨Tryz.t147, .nilFunc, by kernel_rfl, by kernel_rfl, by kernel_rfl, by kernel_rfl, rfl, fun G => .cons .nilF (.nil _), by decide⟩
  fields := fun k o s g h => by simp [ty147] at h
  places := fun fs h => by cases h
  eqs := fun h => absurd rfl h
theorem ok148 : TyOk Tryz.prog 148 ty148 where
  u := Tryz.underlying148
  agg := rfl
  info := ⟨Tryz.t148, .int .u32 0, by kernel_rfl, by kernel_rfl, by kernel_rfl, by kernel_rfl, rfl, fun G => .cons (.int _ _ (by decide)) (.nil _), by decide⟩
  fields := fun k o s g h => by simp [ty148] at h
  places := fun fs h => by cases h
  eqs := fun _ => ⟨by kernel_rfl, fun G cs ds vs us b w h1 h2 h3 h4 => eq148.eq (by decide) G cs ds vs us b w h1 h2 h3 h4⟩
theorem ok151 : TyOk Tryz.prog 151 ty151 where
  u := Tryz.underlying151
  agg := rfl
  info := ⟨Tryz.t151, .nilFunc, by kernel_rfl, by kernel_rfl, by kernel_rfl, by kernel_rfl, rfl, fun G => .cons .nilF (.nil _), by decide⟩
  fields := fun k o s g h => by simp [ty151] at h
  places := fun fs h => by cases h
  eqs := fun h => absurd rfl h
theorem ok152 : TyOk Tryz.prog 152 ty152 where
  u := Tryz.underlying152
  agg := rfl
  info := ⟨Tryz.t152, .pointer none, by kernel_rfl, by kernel_rfl, by kernel_rfl, by kernel_rfl, rfl, fun G => .cons .nilP (.nil _), by decide⟩
  fields := fun k o s g h => by simp [ty152] at h
  places := fun fs h => by cases h
  eqs := fun h => absurd rfl h
theorem ttOk : TtOk Tryz.prog tt := by
  intro t i h
  unfold tt at h
  split at h
  · cases h; exact ok1
  · cases h; exact ok2
  · cases h; exact ok3
  · cases h; exact ok4
  · cases h; exact ok5
  · cases h; exact ok9
  · cases h; exact ok12
  · cases h; exact ok16
  · cases h; exact ok21
  · cases h; exact ok22
  · cases h; exact ok23
  · cases h; exact ok24
  · cases h; exact ok25
  · cases h; exact ok26
  · cases h; exact ok27
  · cases h; exact ok28
  · cases h; exact ok29
  · cases h; exact ok30
  · cases h; exact ok31
  · cases h; exact ok32
  · cases h; exact ok33
  · cases h; exact ok34
  · cases h; exact ok35
  · cases h; exact ok36
  · cases h; exact ok37
  · cases h; exact ok38
  · cases h; exact ok39
  · cases h; exact ok41
  · cases h; exact ok43
  · cases h; exact ok45
  · cases h; exact ok47
  · cases h; exact ok49
  · cases h; exact ok51
  · cases h; exact ok52
  · cases h; exact ok53
  · cases h; exact ok54
  · cases h; exact ok55
  · cases h; exact ok56
  · cases h; exact ok57
  · cases h; exact ok58
  · cases h; exact ok59
  · cases h; exact ok60
  · cases h; exact ok61
  · cases h; exact ok62
  · cases h; exact ok64
  · cases h; exact ok65
  · cases h; exact ok66
  · cases h; exact ok67
  · cases h; exact ok68
  · cases h; exact ok70
  · cases h; exact ok72
  · cases h; exact ok73
  · cases h; exact ok74
  · cases h; exact ok76
  · cases h; exact ok77
  · cases h; exact ok78
  · cases h; exact ok79
  · cases h; exact ok80
  · cases h; exact ok81
  · cases h; exact ok82
  · cases h; exact ok84
  · cases h; exact ok85
  · cases h; exact ok86
  · cases h; exact ok87
  · cases h; exact ok88
  · cases h; exact ok89
  · cases h; exact ok90
  · cases h; exact ok91
  · cases h; exact ok92
  · cases h; exact ok93
  · cases h; exact ok94
  · cases h; exact ok95
  · cases h; exact ok96
  · cases h; exact ok97
  · cases h; exact ok98
  · cases h; exact ok99
  · cases h; exact ok100
  · cases h; exact ok101
  · cases h; exact ok102
  · cases h; exact ok103
  · cases h; exact ok104
  · cases h; exact ok105
  · cases h; exact ok106
  · cases h; exact ok107
  · cases h; exact ok108
  · cases h; exact ok109
  · cases h; exact ok110
  · cases h; exact ok111
  · cases h; exact ok112
  · cases h; exact ok113
  · cases h; exact ok114
  · cases h; exact ok115
  · cases h; exact ok116
  · cases h; exact ok117
  · cases h; exact ok118
  · cases h; exact ok119
  · cases h; exact ok120
  · cases h; exact ok121
  · cases h; exact ok122
  · cases h; exact ok123
  · cases h; exact ok124
  · cases h; exact ok125
  · cases h; exact ok126
  · cases h; exact ok127
  · cases h; exact ok128
  · cases h; exact ok129
  · cases h; exact ok130
  · cases h; exact ok131
  · cases h; exact ok132
  · cases h; exact ok133
  · cases h; exact ok134
  · cases h; exact ok136
  · cases h; exact ok137
  · cases h; exact ok138
  · cases h; exact ok139
  · cases h; exact ok140
  · cases h; exact ok141
  · cases h; exact ok144
  · cases h; exact ok147
  · cases h; exact ok148
  · cases h; exact ok151
  · cases h; exact ok152
  · cases h
theorem mixed : Tryz.prog.follows .mixedOrders = true := by kernel_rfl
end Go.Ai.Tryz
