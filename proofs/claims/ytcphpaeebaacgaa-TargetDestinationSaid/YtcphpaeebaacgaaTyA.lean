/- A part of the proof: no statement of the seat is proved in this text. -/
import Derived.Test.YtcphpaeebaacgaaAi19
import Derived.Test.YtcphpaeebaacgaaProg
import Derived.KernelRfl
set_option linter.unusedVariables false
set_option linter.unusedSimpArgs false
set_option maxRecDepth 20000
namespace Go.Ai.Try
open Go Go.Ai Go.Proofs

def sf22 : Array Field := #[{ name := "Act", type := 3, offset := 0, embedded := false, tag := "", pkgPath := "", byteOffset := 0 }, { name := "Item", type := 3, offset := 1, embedded := false, tag := "", pkgPath := "", byteOffset := 8 }, { name := "N", type := 3, offset := 2, embedded := false, tag := "", pkgPath := "", byteOffset := 16 }]
def sf26 : Array Field := #[{ name := "Id", type := 23, offset := 0, embedded := false, tag := "", pkgPath := "", byteOffset := 0 }, { name := "Kind", type := 3, offset := 3, embedded := false, tag := "", pkgPath := "", byteOffset := 24 }, { name := "Label", type := 9, offset := 4, embedded := false, tag := "", pkgPath := "", byteOffset := 32 }, { name := "Head", type := 24, offset := 5, embedded := false, tag := "", pkgPath := "", byteOffset := 48 }, { name := "Words", type := 24, offset := 6, embedded := false, tag := "", pkgPath := "", byteOffset := 72 }, { name := "Kids", type := 25, offset := 7, embedded := false, tag := "", pkgPath := "", byteOffset := 96 }]
def sf33 : Array Field := #[{ name := "Kind", type := 3, offset := 0, embedded := false, tag := "", pkgPath := "", byteOffset := 0 }, { name := "Day", type := 3, offset := 1, embedded := false, tag := "", pkgPath := "", byteOffset := 8 }, { name := "Event", type := 9, offset := 2, embedded := false, tag := "", pkgPath := "", byteOffset := 16 }]
def sf36 : Array Field := #[{ name := "Kind", type := 3, offset := 0, embedded := false, tag := "", pkgPath := "", byteOffset := 0 }, { name := "At", type := 28, offset := 1, embedded := false, tag := "", pkgPath := "", byteOffset := 8 }, { name := "To", type := 28, offset := 2, embedded := false, tag := "", pkgPath := "", byteOffset := 32 }, { name := "Where", type := 3, offset := 3, embedded := false, tag := "", pkgPath := "", byteOffset := 56 }, { name := "Nth", type := 3, offset := 4, embedded := false, tag := "", pkgPath := "", byteOffset := 64 }, { name := "Unit", type := 27, offset := 5, embedded := false, tag := "", pkgPath := "", byteOffset := 72 }, { name := "Old", type := 32, offset := 13, embedded := false, tag := "", pkgPath := "", byteOffset := 192 }, { name := "New", type := 32, offset := 14, embedded := false, tag := "", pkgPath := "", byteOffset := 216 }, { name := "Label", type := 9, offset := 15, embedded := false, tag := "", pkgPath := "", byteOffset := 240 }, { name := "For", type := 9, offset := 16, embedded := false, tag := "", pkgPath := "", byteOffset := 256 }, { name := "Start", type := 34, offset := 17, embedded := false, tag := "", pkgPath := "", byteOffset := 272 }, { name := "Act", type := 3, offset := 20, embedded := false, tag := "", pkgPath := "", byteOffset := 304 }, { name := "Item", type := 3, offset := 21, embedded := false, tag := "", pkgPath := "", byteOffset := 312 }, { name := "Day", type := 3, offset := 22, embedded := false, tag := "", pkgPath := "", byteOffset := 320 }, { name := "Event", type := 9, offset := 23, embedded := false, tag := "", pkgPath := "", byteOffset := 328 }, { name := "By", type := 35, offset := 24, embedded := false, tag := "", pkgPath := "", byteOffset := 344 }]
def sf51 : Array Field := #[{ name := "Kind", type := 3, offset := 0, embedded := false, tag := "", pkgPath := "", byteOffset := 0 }, { name := "Label", type := 9, offset := 1, embedded := false, tag := "", pkgPath := "", byteOffset := 8 }]
def sf56 : Array Field := #[{ name := "parent", type := 23, offset := 0, embedded := false, tag := "", pkgPath := "pandect/target", byteOffset := 0 }, { name := "at", type := 3, offset := 3, embedded := false, tag := "", pkgPath := "pandect/target", byteOffset := 24 }]
def sf87 : Array Field := #[{ name := "Act", type := 3, offset := 0, embedded := false, tag := "", pkgPath := "", byteOffset := 0 }, { name := "Item", type := 3, offset := 1, embedded := false, tag := "", pkgPath := "", byteOffset := 8 }, { name := "At", type := 3, offset := 2, embedded := false, tag := "", pkgPath := "", byteOffset := 16 }]
def sf89 : Array Field := #[{ name := "Text", type := 9, offset := 0, embedded := false, tag := "", pkgPath := "", byteOffset := 0 }, { name := "By", type := 88, offset := 1, embedded := false, tag := "", pkgPath := "", byteOffset := 16 }]
-- func()
@[go_sem] def ty1 : TyI := ⟨.func #[] #[] false, 1, 8, false, [.nilF], [], []⟩
-- int64
@[go_sem] def ty2 : TyI := ⟨.int .i64, 1, 8, false, [.int .i64 0], [], [.int .i64]⟩
-- int
@[go_sem] def ty3 : TyI := ⟨.int .i64, 1, 8, false, [.int .i64 0], [], [.int .i64]⟩
-- bool
@[go_sem] def ty4 : TyI := ⟨.bool, 1, 1, false, [.bool false], [], [.bool]⟩
-- uint8
@[go_sem] def ty5 : TyI := ⟨.int .u8, 1, 1, false, [.int .u8 0], [], [.int .u8]⟩
-- string
@[go_sem] def ty9 : TyI := ⟨.string, 1, 16, false, [.str ByteArray.empty], [], [.str]⟩
-- uintptr
@[go_sem] def ty12 : TyI := ⟨.int .u64, 1, 8, false, [.int .u64 0], [], [.int .u64]⟩
-- *runtime.PanicNilError
@[go_sem] def ty16 : TyI := ⟨.pointer 109, 1, 8, false, [.nilP], [], []⟩
-- int32
@[go_sem] def ty21 : TyI := ⟨.int .i32, 1, 4, false, [.int .i32 0], [], [.int .i32]⟩
-- struct { Act int; Item int; N int }
@[go_sem] def ty22 : TyI := ⟨.struct sf22, 3, 24, true, [.int .i64 0, .int .i64 0, .int .i64 0], [(0, 1, false), (1, 1, false), (2, 1, false)], [.int .i64, .int .i64, .int .i64]⟩
-- api.Id
@[go_sem] def ty23 : TyI := ⟨.struct sf22, 3, 24, true, [.int .i64 0, .int .i64 0, .int .i64 0], [(0, 1, false), (1, 1, false), (2, 1, false)], [.int .i64, .int .i64, .int .i64]⟩
-- []api.Word
@[go_sem] def ty24 : TyI := ⟨.slice 90, 1, 24, false, [.nilS], [], []⟩
-- []api.Unit
@[go_sem] def ty25 : TyI := ⟨.slice 27, 1, 24, false, [.nilS], [], []⟩
-- struct { Id api.Id; Kind int; Label string; Head []api.Word; Words []api.Word; K
@[go_sem] def ty26 : TyI := ⟨.struct sf26, 8, 120, true, [.int .i64 0, .int .i64 0, .int .i64 0, .int .i64 0, .str ByteArray.empty, .nilS, .nilS, .nilS], [(0, 3, true), (3, 1, false), (4, 1, false), (5, 1, false), (6, 1, false), (7, 1, false)], []⟩
-- api.Unit
@[go_sem] def ty27 : TyI := ⟨.struct sf26, 8, 120, true, [.int .i64 0, .int .i64 0, .int .i64 0, .int .i64 0, .str ByteArray.empty, .nilS, .nilS, .nilS], [(0, 3, true), (3, 1, false), (4, 1, false), (5, 1, false), (6, 1, false), (7, 1, false)], []⟩
-- []api.Step
@[go_sem] def ty28 : TyI := ⟨.slice 52, 1, 24, false, [.nilS], [], []⟩
-- func() bool
@[go_sem] def ty29 : TyI := ⟨.func #[] #[4] false, 1, 8, false, [.nilF], [], []⟩
-- func(api.Unit) bool
@[go_sem] def ty30 : TyI := ⟨.func #[27] #[4] false, 1, 8, false, [.nilF], [], []⟩
-- func(api.Item) bool
@[go_sem] def ty31 : TyI := ⟨.func #[37] #[4] false, 1, 8, false, [.nilF], [], []⟩
-- []string
@[go_sem] def ty32 : TyI := ⟨.slice 9, 1, 24, false, [.nilS], [], []⟩
-- struct { Kind int; Day int; Event string }
@[go_sem] def ty33 : TyI := ⟨.struct sf33, 3, 32, true, [.int .i64 0, .int .i64 0, .str ByteArray.empty], [(0, 1, false), (1, 1, false), (2, 1, false)], [.int .i64, .int .i64, .str]⟩
-- api.Start
@[go_sem] def ty34 : TyI := ⟨.struct sf33, 3, 32, true, [.int .i64 0, .int .i64 0, .str ByteArray.empty], [(0, 1, false), (1, 1, false), (2, 1, false)], [.int .i64, .int .i64, .str]⟩
-- []api.Item
@[go_sem] def ty35 : TyI := ⟨.slice 37, 1, 24, false, [.nilS], [], []⟩
-- struct { Kind int; At []api.Step; To []api.Step; Where int; Nth int; Unit api.Un
@[go_sem] def ty36 : TyI := ⟨.struct sf36, 25, 368, true, [.int .i64 0, .nilS, .nilS, .int .i64 0, .int .i64 0, .int .i64 0, .int .i64 0, .int .i64 0, .int .i64 0, .str ByteArray.empty, .nilS, .nilS, .nilS, .nilS, .nilS, .str ByteArray.empty, .str ByteArray.empty, .int .i64 0, .int .i64 0, .str ByteArray.empty, .int .i64 0, .int .i64 0, .int .i64 0, .str ByteArray.empty, .nilS], [(0, 1, false), (1, 1, false), (2, 1, false), (3, 1, false), (4, 1, false), (5, 8, true), (13, 1, false), (14, 1, false), (15, 1, false), (16, 1, false), (17, 3, true), (20, 1, false), (21, 1, false), (22, 1, false), (23, 1, false), (24, 1, false)], []⟩
-- api.Item
@[go_sem] def ty37 : TyI := ⟨.struct sf36, 25, 368, true, [.int .i64 0, .nilS, .nilS, .int .i64 0, .int .i64 0, .int .i64 0, .int .i64 0, .int .i64 0, .int .i64 0, .str ByteArray.empty, .nilS, .nilS, .nilS, .nilS, .nilS, .str ByteArray.empty, .str ByteArray.empty, .int .i64 0, .int .i64 0, .str ByteArray.empty, .int .i64 0, .int .i64 0, .int .i64 0, .str ByteArray.empty, .nilS], [(0, 1, false), (1, 1, false), (2, 1, false), (3, 1, false), (4, 1, false), (5, 8, true), (13, 1, false), (14, 1, false), (15, 1, false), (16, 1, false), (17, 3, true), (20, 1, false), (21, 1, false), (22, 1, false), (23, 1, false), (24, 1, false)], []⟩
-- api.Errno
@[go_sem] def ty38 : TyI := ⟨.int .i64, 1, 8, false, [.int .i64 0], [], [.int .i64]⟩
-- func(api.Unit, []api.Step, int) (api.Id, int, api.Errno)
@[go_sem] def ty40 : TyI := ⟨.func #[27, 28, 3] #[23, 3, 38] false, 1, 8, false, [.nilF], [], []⟩
-- func(api.Unit, []api.Step, int) bool
@[go_sem] def ty41 : TyI := ⟨.func #[27, 28, 3] #[4] false, 1, 8, false, [.nilF], [], []⟩
-- func(api.Unit, api.Item) (api.Id, api.Errno)
@[go_sem] def ty43 : TyI := ⟨.func #[27, 37] #[23, 38] false, 1, 8, false, [.nilF], [], []⟩
-- func(api.Unit, []api.Step) (api.Id, api.Errno)
@[go_sem] def ty44 : TyI := ⟨.func #[27, 28] #[23, 38] false, 1, 8, false, [.nilF], [], []⟩
-- func([]api.Id, []api.Id) bool
@[go_sem] def ty45 : TyI := ⟨.func #[46, 46] #[4] false, 1, 8, false, [.nilF], [], []⟩
-- []api.Id
@[go_sem] def ty46 : TyI := ⟨.slice 23, 1, 24, false, [.nilS], [], []⟩
-- func(api.Unit, ...api.Step) []api.Id
@[go_sem] def ty47 : TyI := ⟨.func #[27, 28] #[46] true, 1, 8, false, [.nilF], [], []⟩
-- func(api.Unit, []api.Step) []api.Id
@[go_sem] def ty48 : TyI := ⟨.func #[27, 28] #[46] false, 1, 8, false, [.nilF], [], []⟩
-- func(api.Unit, api.Item) bool
@[go_sem] def ty49 : TyI := ⟨.func #[27, 37] #[4] false, 1, 8, false, [.nilF], [], []⟩
-- func(api.Unit, api.Item) (api.Id, int, api.Errno)
@[go_sem] def ty50 : TyI := ⟨.func #[27, 37] #[23, 3, 38] false, 1, 8, false, [.nilF], [], []⟩
-- struct { Kind int; Label string }
@[go_sem] def ty51 : TyI := ⟨.struct sf51, 2, 24, true, [.int .i64 0, .str ByteArray.empty], [(0, 1, false), (1, 1, false)], [.int .i64, .str]⟩
-- api.Step
@[go_sem] def ty52 : TyI := ⟨.struct sf51, 2, 24, true, [.int .i64 0, .str ByteArray.empty], [(0, 1, false), (1, 1, false)], [.int .i64, .str]⟩
-- func(api.Unit, int) bool
@[go_sem] def ty53 : TyI := ⟨.func #[27, 3] #[4] false, 1, 8, false, [.nilF], [], []⟩
-- func(int) bool
@[go_sem] def ty54 : TyI := ⟨.func #[3] #[4] false, 1, 8, false, [.nilF], [], []⟩
-- func(api.Unit, ...api.Step) (api.Id, api.Errno)
@[go_sem] def ty55 : TyI := ⟨.func #[27, 28] #[23, 38] true, 1, 8, false, [.nilF], [], []⟩
-- struct { parent api.Id; at int }
@[go_sem] def ty56 : TyI := ⟨.struct sf56, 4, 32, true, [.int .i64 0, .int .i64 0, .int .i64 0, .int .i64 0], [(0, 3, true), (3, 1, false)], [.int .i64, .int .i64, .int .i64, .int .i64]⟩
-- target.spot
@[go_sem] def ty57 : TyI := ⟨.struct sf56, 4, 32, true, [.int .i64 0, .int .i64 0, .int .i64 0, .int .i64 0], [(0, 3, true), (3, 1, false)], [.int .i64, .int .i64, .int .i64, .int .i64]⟩
-- func(api.Unit, api.Id) (target.spot, api.Errno)
@[go_sem] def ty59 : TyI := ⟨.func #[27, 23] #[57, 38] false, 1, 8, false, [.nilF], [], []⟩
-- [4]func(api.Unit, api.Id) (target.spot, api.Errno)
@[go_sem] def ty60 : TyI := ⟨.array 4 59, 4, 32, true, [.nilF, .nilF, .nilF, .nilF], [], []⟩
-- func() [4]func(api.Unit, api.Id) (target.spot, api.Errno)
@[go_sem] def ty61 : TyI := ⟨.func #[] #[60] false, 1, 8, false, [.nilF], [], []⟩
-- func(api.Unit, api.Id) (api.Unit, bool)
@[go_sem] def ty63 : TyI := ⟨.func #[27, 23] #[27, 4] false, 1, 8, false, [.nilF], [], []⟩
-- func(api.Unit, api.Id) (api.Id, int, bool)
@[go_sem] def ty65 : TyI := ⟨.func #[27, 23] #[23, 3, 4] false, 1, 8, false, [.nilF], [], []⟩
-- func(api.Unit, []api.Step) []api.Unit
@[go_sem] def ty66 : TyI := ⟨.func #[27, 28] #[25] false, 1, 8, false, [.nilF], [], []⟩
-- func(api.Unit, api.Id, api.Id, int) (target.spot, api.Errno)
@[go_sem] def ty67 : TyI := ⟨.func #[27, 23, 23, 3] #[57, 38] false, 1, 8, false, [.nilF], [], []⟩
-- func(api.Unit, int, int) int
@[go_sem] def ty68 : TyI := ⟨.func #[27, 3, 3] #[3] false, 1, 8, false, [.nilF], [], []⟩
-- func(api.Unit, api.Id, func(int) int) (target.spot, api.Errno)
@[go_sem] def ty69 : TyI := ⟨.func #[27, 23, 70] #[57, 38] false, 1, 8, false, [.nilF], [], []⟩
-- func(int) int
@[go_sem] def ty70 : TyI := ⟨.func #[3] #[3] false, 1, 8, false, [.nilF], [], []⟩
-- func(api.Unit, api.Id, int) (target.spot, api.Errno)
@[go_sem] def ty71 : TyI := ⟨.func #[27, 23, 3] #[57, 38] false, 1, 8, false, [.nilF], [], []⟩
-- func([]api.Step) bool
@[go_sem] def ty72 : TyI := ⟨.func #[28] #[4] false, 1, 8, false, [.nilF], [], []⟩
-- func(api.Step) bool
@[go_sem] def ty73 : TyI := ⟨.func #[52] #[4] false, 1, 8, false, [.nilF], [], []⟩
-- func(api.Unit) []api.Unit
@[go_sem] def ty74 : TyI := ⟨.func #[27] #[25] false, 1, 8, false, [.nilF], [], []⟩
-- func(api.Unit, api.Step) bool
@[go_sem] def ty75 : TyI := ⟨.func #[27, 52] #[4] false, 1, 8, false, [.nilF], [], []⟩
-- func([]api.Id, api.Id) bool
@[go_sem] def ty76 : TyI := ⟨.func #[46, 23] #[4] false, 1, 8, false, [.nilF], [], []⟩
-- func(api.Unit, api.Id) []api.Id
@[go_sem] def ty77 : TyI := ⟨.func #[27, 23] #[46] false, 1, 8, false, [.nilF], [], []⟩
-- func([]api.Word) bool
@[go_sem] def ty78 : TyI := ⟨.func #[24] #[4] false, 1, 8, false, [.nilF], [], []⟩
-- func(api.Unit) int
@[go_sem] def ty79 : TyI := ⟨.func #[27] #[3] false, 1, 8, false, [.nilF], [], []⟩
-- func(...api.Step) bool
@[go_sem] def ty80 : TyI := ⟨.func #[28] #[4] true, 1, 8, false, [.nilF], [], []⟩
-- func(api.Unit, func(api.Unit))
@[go_sem] def ty81 : TyI := ⟨.func #[27, 82] #[] false, 1, 8, false, [.nilF], [], []⟩
-- func(api.Unit)
@[go_sem] def ty82 : TyI := ⟨.func #[27] #[] false, 1, 8, false, [.nilF], [], []⟩
-- func(string) bool
@[go_sem] def ty83 : TyI := ⟨.func #[9] #[4] false, 1, 8, false, [.nilF], [], []⟩
-- func(api.Unit, api.Id) []api.Unit
@[go_sem] def ty84 : TyI := ⟨.func #[27, 23] #[25] false, 1, 8, false, [.nilF], [], []⟩
-- func([]api.Unit, func(api.Unit) bool) int
@[go_sem] def ty85 : TyI := ⟨.func #[25, 30] #[3] false, 1, 8, false, [.nilF], [], []⟩
-- func([]api.Id, api.Id) int
@[go_sem] def ty86 : TyI := ⟨.func #[46, 23] #[3] false, 1, 8, false, [.nilF], [], []⟩
-- struct { Act int; Item int; At int }
@[go_sem] def ty87 : TyI := ⟨.struct sf87, 3, 24, true, [.int .i64 0, .int .i64 0, .int .i64 0], [(0, 1, false), (1, 1, false), (2, 1, false)], [.int .i64, .int .i64, .int .i64]⟩
-- api.Mark
@[go_sem] def ty88 : TyI := ⟨.struct sf87, 3, 24, true, [.int .i64 0, .int .i64 0, .int .i64 0], [(0, 1, false), (1, 1, false), (2, 1, false)], [.int .i64, .int .i64, .int .i64]⟩
-- struct { Text string; By api.Mark }
@[go_sem] def ty89 : TyI := ⟨.struct sf89, 4, 40, true, [.str ByteArray.empty, .int .i64 0, .int .i64 0, .int .i64 0], [(0, 1, false), (1, 3, true)], [.str, .int .i64, .int .i64, .int .i64]⟩
-- api.Word
@[go_sem] def ty90 : TyI := ⟨.struct sf89, 4, 40, true, [.str ByteArray.empty, .int .i64 0, .int .i64 0, .int .i64 0], [(0, 1, false), (1, 3, true)], [.str, .int .i64, .int .i64, .int .i64]⟩
-- func(int, int) bool
@[go_sem] def ty91 : TyI := ⟨.func #[3, 3] #[4] false, 1, 8, false, [.nilF], [], []⟩
-- func(api.Unit) []api.Id
@[go_sem] def ty92 : TyI := ⟨.func #[27] #[46] false, 1, 8, false, [.nilF], [], []⟩
-- func(api.Unit) api.Unit
@[go_sem] def ty93 : TyI := ⟨.func #[27] #[27] false, 1, 8, false, [.nilF], [], []⟩
-- func(string) int
@[go_sem] def ty94 : TyI := ⟨.func #[9] #[3] false, 1, 8, false, [.nilF], [], []⟩
-- func([]api.Word) []api.Word
@[go_sem] def ty95 : TyI := ⟨.func #[24] #[24] false, 1, 8, false, [.nilF], [], []⟩
-- func(string) (string, string)
@[go_sem] def ty97 : TyI := ⟨.func #[9] #[9, 9] false, 1, 8, false, [.nilF], [], []⟩
-- func(int32) bool
@[go_sem] def ty98 : TyI := ⟨.func #[21] #[4] false, 1, 8, false, [.nilF], [], []⟩
-- func(string, func(int32) bool) bool
@[go_sem] def ty99 : TyI := ⟨.func #[9, 98] #[4] false, 1, 8, false, [.nilF], [], []⟩
-- func([]string) bool
@[go_sem] def ty100 : TyI := ⟨.func #[32] #[4] false, 1, 8, false, [.nilF], [], []⟩
-- func([]api.Word) []string
@[go_sem] def ty101 : TyI := ⟨.func #[24] #[32] false, 1, 8, false, [.nilF], [], []⟩
-- func(string, func(int32) bool) int
@[go_sem] def ty102 : TyI := ⟨.func #[9, 98] #[3] false, 1, 8, false, [.nilF], [], []⟩
-- func(string, func(int32) bool, bool) int
@[go_sem] def ty103 : TyI := ⟨.func #[9, 98, 4] #[3] false, 1, 8, false, [.nilF], [], []⟩
-- func() string
@[go_sem] def ty104 : TyI := ⟨.func #[] #[9] false, 1, 8, false, [.nilF], [], []⟩
-- [0]*runtime.PanicNilError
@[go_sem] def ty107 : TyI := ⟨.array 0 16, 0, 0, true, [], [], []⟩
-- func() int
@[go_sem] def ty110 : TyI := ⟨.func #[] #[3] false, 1, 8, false, [.nilF], [], []⟩
-- uint32
@[go_sem] def ty111 : TyI := ⟨.int .u32, 1, 4, false, [.int .u32 0], [], [.int .u32]⟩
-- func(unsafe.Pointer, unsafe.Pointer) bool
@[go_sem] def ty114 : TyI := ⟨.func #[120, 120] #[4] false, 1, 8, false, [.nilF], [], []⟩
-- *uint8
@[go_sem] def ty115 : TyI := ⟨.pointer 5, 1, 8, false, [.nilP], [], []⟩
def tt : TT := fun t => match t with
  | 1 => some ty1
  | 2 => some ty2
  | 3 => some ty3
  | 4 => some ty4
  | 5 => some ty5
  | 9 => some ty9
  | 12 => some ty12
  | 16 => some ty16
  | 21 => some ty21
  | 22 => some ty22
  | 23 => some ty23
  | 24 => some ty24
  | 25 => some ty25
  | 26 => some ty26
  | 27 => some ty27
  | 28 => some ty28
  | 29 => some ty29
  | 30 => some ty30
  | 31 => some ty31
  | 32 => some ty32
  | 33 => some ty33
  | 34 => some ty34
  | 35 => some ty35
  | 36 => some ty36
  | 37 => some ty37
  | 38 => some ty38
  | 40 => some ty40
  | 41 => some ty41
  | 43 => some ty43
  | 44 => some ty44
  | 45 => some ty45
  | 46 => some ty46
  | 47 => some ty47
  | 48 => some ty48
  | 49 => some ty49
  | 50 => some ty50
  | 51 => some ty51
  | 52 => some ty52
  | 53 => some ty53
  | 54 => some ty54
  | 55 => some ty55
  | 56 => some ty56
  | 57 => some ty57
  | 59 => some ty59
  | 60 => some ty60
  | 61 => some ty61
  | 63 => some ty63
  | 65 => some ty65
  | 66 => some ty66
  | 67 => some ty67
  | 68 => some ty68
  | 69 => some ty69
  | 70 => some ty70
  | 71 => some ty71
  | 72 => some ty72
  | 73 => some ty73
  | 74 => some ty74
  | 75 => some ty75
  | 76 => some ty76
  | 77 => some ty77
  | 78 => some ty78
  | 79 => some ty79
  | 80 => some ty80
  | 81 => some ty81
  | 82 => some ty82
  | 83 => some ty83
  | 84 => some ty84
  | 85 => some ty85
  | 86 => some ty86
  | 87 => some ty87
  | 88 => some ty88
  | 89 => some ty89
  | 90 => some ty90
  | 91 => some ty91
  | 92 => some ty92
  | 93 => some ty93
  | 94 => some ty94
  | 95 => some ty95
  | 97 => some ty97
  | 98 => some ty98
  | 99 => some ty99
  | 100 => some ty100
  | 101 => some ty101
  | 102 => some ty102
  | 103 => some ty103
  | 104 => some ty104
  | 107 => some ty107
  | 110 => some ty110
  | 111 => some ty111
  | 114 => some ty114
  | 115 => some ty115
  | _ => none
@[go_sem] theorem tt_1 : tt 1 = some ty1 := rfl
@[go_sem] theorem tt_2 : tt 2 = some ty2 := rfl
@[go_sem] theorem tt_3 : tt 3 = some ty3 := rfl
@[go_sem] theorem tt_4 : tt 4 = some ty4 := rfl
@[go_sem] theorem tt_5 : tt 5 = some ty5 := rfl
@[go_sem] theorem tt_9 : tt 9 = some ty9 := rfl
@[go_sem] theorem tt_12 : tt 12 = some ty12 := rfl
@[go_sem] theorem tt_16 : tt 16 = some ty16 := rfl
@[go_sem] theorem tt_21 : tt 21 = some ty21 := rfl
@[go_sem] theorem tt_22 : tt 22 = some ty22 := rfl
@[go_sem] theorem tt_23 : tt 23 = some ty23 := rfl
@[go_sem] theorem tt_24 : tt 24 = some ty24 := rfl
@[go_sem] theorem tt_25 : tt 25 = some ty25 := rfl
@[go_sem] theorem tt_26 : tt 26 = some ty26 := rfl
@[go_sem] theorem tt_27 : tt 27 = some ty27 := rfl
@[go_sem] theorem tt_28 : tt 28 = some ty28 := rfl
@[go_sem] theorem tt_29 : tt 29 = some ty29 := rfl
@[go_sem] theorem tt_30 : tt 30 = some ty30 := rfl
@[go_sem] theorem tt_31 : tt 31 = some ty31 := rfl
@[go_sem] theorem tt_32 : tt 32 = some ty32 := rfl
@[go_sem] theorem tt_33 : tt 33 = some ty33 := rfl
@[go_sem] theorem tt_34 : tt 34 = some ty34 := rfl
@[go_sem] theorem tt_35 : tt 35 = some ty35 := rfl
@[go_sem] theorem tt_36 : tt 36 = some ty36 := rfl
@[go_sem] theorem tt_37 : tt 37 = some ty37 := rfl
@[go_sem] theorem tt_38 : tt 38 = some ty38 := rfl
@[go_sem] theorem tt_40 : tt 40 = some ty40 := rfl
@[go_sem] theorem tt_41 : tt 41 = some ty41 := rfl
@[go_sem] theorem tt_43 : tt 43 = some ty43 := rfl
@[go_sem] theorem tt_44 : tt 44 = some ty44 := rfl
@[go_sem] theorem tt_45 : tt 45 = some ty45 := rfl
@[go_sem] theorem tt_46 : tt 46 = some ty46 := rfl
@[go_sem] theorem tt_47 : tt 47 = some ty47 := rfl
@[go_sem] theorem tt_48 : tt 48 = some ty48 := rfl
@[go_sem] theorem tt_49 : tt 49 = some ty49 := rfl
@[go_sem] theorem tt_50 : tt 50 = some ty50 := rfl
@[go_sem] theorem tt_51 : tt 51 = some ty51 := rfl
@[go_sem] theorem tt_52 : tt 52 = some ty52 := rfl
@[go_sem] theorem tt_53 : tt 53 = some ty53 := rfl
@[go_sem] theorem tt_54 : tt 54 = some ty54 := rfl
@[go_sem] theorem tt_55 : tt 55 = some ty55 := rfl
@[go_sem] theorem tt_56 : tt 56 = some ty56 := rfl
@[go_sem] theorem tt_57 : tt 57 = some ty57 := rfl
@[go_sem] theorem tt_59 : tt 59 = some ty59 := rfl
@[go_sem] theorem tt_60 : tt 60 = some ty60 := rfl
@[go_sem] theorem tt_61 : tt 61 = some ty61 := rfl
@[go_sem] theorem tt_63 : tt 63 = some ty63 := rfl
@[go_sem] theorem tt_65 : tt 65 = some ty65 := rfl
@[go_sem] theorem tt_66 : tt 66 = some ty66 := rfl
@[go_sem] theorem tt_67 : tt 67 = some ty67 := rfl
@[go_sem] theorem tt_68 : tt 68 = some ty68 := rfl
@[go_sem] theorem tt_69 : tt 69 = some ty69 := rfl
@[go_sem] theorem tt_70 : tt 70 = some ty70 := rfl
@[go_sem] theorem tt_71 : tt 71 = some ty71 := rfl
@[go_sem] theorem tt_72 : tt 72 = some ty72 := rfl
@[go_sem] theorem tt_73 : tt 73 = some ty73 := rfl
@[go_sem] theorem tt_74 : tt 74 = some ty74 := rfl
@[go_sem] theorem tt_75 : tt 75 = some ty75 := rfl
@[go_sem] theorem tt_76 : tt 76 = some ty76 := rfl
@[go_sem] theorem tt_77 : tt 77 = some ty77 := rfl
@[go_sem] theorem tt_78 : tt 78 = some ty78 := rfl
@[go_sem] theorem tt_79 : tt 79 = some ty79 := rfl
@[go_sem] theorem tt_80 : tt 80 = some ty80 := rfl
@[go_sem] theorem tt_81 : tt 81 = some ty81 := rfl
@[go_sem] theorem tt_82 : tt 82 = some ty82 := rfl
@[go_sem] theorem tt_83 : tt 83 = some ty83 := rfl
@[go_sem] theorem tt_84 : tt 84 = some ty84 := rfl
@[go_sem] theorem tt_85 : tt 85 = some ty85 := rfl
@[go_sem] theorem tt_86 : tt 86 = some ty86 := rfl
@[go_sem] theorem tt_87 : tt 87 = some ty87 := rfl
@[go_sem] theorem tt_88 : tt 88 = some ty88 := rfl
@[go_sem] theorem tt_89 : tt 89 = some ty89 := rfl
@[go_sem] theorem tt_90 : tt 90 = some ty90 := rfl
@[go_sem] theorem tt_91 : tt 91 = some ty91 := rfl
@[go_sem] theorem tt_92 : tt 92 = some ty92 := rfl
@[go_sem] theorem tt_93 : tt 93 = some ty93 := rfl
@[go_sem] theorem tt_94 : tt 94 = some ty94 := rfl
@[go_sem] theorem tt_95 : tt 95 = some ty95 := rfl
@[go_sem] theorem tt_97 : tt 97 = some ty97 := rfl
@[go_sem] theorem tt_98 : tt 98 = some ty98 := rfl
@[go_sem] theorem tt_99 : tt 99 = some ty99 := rfl
@[go_sem] theorem tt_100 : tt 100 = some ty100 := rfl
@[go_sem] theorem tt_101 : tt 101 = some ty101 := rfl
@[go_sem] theorem tt_102 : tt 102 = some ty102 := rfl
@[go_sem] theorem tt_103 : tt 103 = some ty103 := rfl
@[go_sem] theorem tt_104 : tt 104 = some ty104 := rfl
@[go_sem] theorem tt_107 : tt 107 = some ty107 := rfl
@[go_sem] theorem tt_110 : tt 110 = some ty110 := rfl
@[go_sem] theorem tt_111 : tt 111 = some ty111 := rfl
@[go_sem] theorem tt_114 : tt 114 = some ty114 := rfl
@[go_sem] theorem tt_115 : tt 115 = some ty115 := rfl
theorem eq2 : EqAt Try.prog 1 2 false [.int .i64] := eqAt_int Try.underlying2
theorem eq3 : EqAt Try.prog 1 3 false [.int .i64] := eqAt_int Try.underlying3
theorem eq4 : EqAt Try.prog 1 4 false [.bool] := eqAt_bool Try.underlying4
theorem eq5 : EqAt Try.prog 1 5 false [.int .u8] := eqAt_int Try.underlying5
theorem eq9 : EqAt Try.prog 1 9 false [.str] := eqAt_str Try.underlying9
theorem eq12 : EqAt Try.prog 1 12 false [.int .u64] := eqAt_int Try.underlying12
theorem eq21 : EqAt Try.prog 1 21 false [.int .i32] := eqAt_int Try.underlying21
theorem eq38 : EqAt Try.prog 1 38 false [.int .i64] := eqAt_int Try.underlying38
theorem eq111 : EqAt Try.prog 1 111 false [.int .u32] := eqAt_int Try.underlying111
theorem fl22 : FlatF Try.prog 1 0 sf22.toList 3 ([.int .i64] ++ ([.int .i64] ++ ([.int .i64] ++ []))) := .cons _ _ 0 3 false Try.t3 (.int .i64) [.int .i64] ([.int .i64] ++ ([.int .i64] ++ [])) (by decide) rfl (by kernel_rfl) rfl (by decide) rfl Try.underlying3 (eq3.mono (by decide)) (.cons _ _ 1 3 false Try.t3 (.int .i64) [.int .i64] ([.int .i64] ++ []) (by decide) rfl (by kernel_rfl) rfl (by decide) rfl Try.underlying3 (eq3.mono (by decide)) (.cons _ _ 2 3 false Try.t3 (.int .i64) [.int .i64] [] (by decide) rfl (by kernel_rfl) rfl (by decide) rfl Try.underlying3 (eq3.mono (by decide)) (.nil 3)))
theorem eq22 : EqAt Try.prog 2 22 true [.int .i64, .int .i64, .int .i64] := eqAt_struct (fs := sf22) Try.underlying22 (by kernel_rfl) fl22
theorem fl23 : FlatF Try.prog 1 0 sf22.toList 3 ([.int .i64] ++ ([.int .i64] ++ ([.int .i64] ++ []))) := .cons _ _ 0 3 false Try.t3 (.int .i64) [.int .i64] ([.int .i64] ++ ([.int .i64] ++ [])) (by decide) rfl (by kernel_rfl) rfl (by decide) rfl Try.underlying3 (eq3.mono (by decide)) (.cons _ _ 1 3 false Try.t3 (.int .i64) [.int .i64] ([.int .i64] ++ []) (by decide) rfl (by kernel_rfl) rfl (by decide) rfl Try.underlying3 (eq3.mono (by decide)) (.cons _ _ 2 3 false Try.t3 (.int .i64) [.int .i64] [] (by decide) rfl (by kernel_rfl) rfl (by decide) rfl Try.underlying3 (eq3.mono (by decide)) (.nil 3)))
theorem eq23 : EqAt Try.prog 2 23 true [.int .i64, .int .i64, .int .i64] := eqAt_struct (fs := sf22) Try.underlying23 (by kernel_rfl) fl23
theorem fl33 : FlatF Try.prog 1 0 sf33.toList 3 ([.int .i64] ++ ([.int .i64] ++ ([.str] ++ []))) := .cons _ _ 0 3 false Try.t3 (.int .i64) [.int .i64] ([.int .i64] ++ ([.str] ++ [])) (by decide) rfl (by kernel_rfl) rfl (by decide) rfl Try.underlying3 (eq3.mono (by decide)) (.cons _ _ 1 3 false Try.t3 (.int .i64) [.int .i64] ([.str] ++ []) (by decide) rfl (by kernel_rfl) rfl (by decide) rfl Try.underlying3 (eq3.mono (by decide)) (.cons _ _ 2 3 false Try.t9 (.string) [.str] [] (by decide) rfl (by kernel_rfl) rfl (by decide) rfl Try.underlying9 (eq9.mono (by decide)) (.nil 3)))
theorem eq33 : EqAt Try.prog 2 33 true [.int .i64, .int .i64, .str] := eqAt_struct (fs := sf33) Try.underlying33 (by kernel_rfl) fl33
theorem fl34 : FlatF Try.prog 1 0 sf33.toList 3 ([.int .i64] ++ ([.int .i64] ++ ([.str] ++ []))) := .cons _ _ 0 3 false Try.t3 (.int .i64) [.int .i64] ([.int .i64] ++ ([.str] ++ [])) (by decide) rfl (by kernel_rfl) rfl (by decide) rfl Try.underlying3 (eq3.mono (by decide)) (.cons _ _ 1 3 false Try.t3 (.int .i64) [.int .i64] ([.str] ++ []) (by decide) rfl (by kernel_rfl) rfl (by decide) rfl Try.underlying3 (eq3.mono (by decide)) (.cons _ _ 2 3 false Try.t9 (.string) [.str] [] (by decide) rfl (by kernel_rfl) rfl (by decide) rfl Try.underlying9 (eq9.mono (by decide)) (.nil 3)))
theorem eq34 : EqAt Try.prog 2 34 true [.int .i64, .int .i64, .str] := eqAt_struct (fs := sf33) Try.underlying34 (by kernel_rfl) fl34
theorem fl51 : FlatF Try.prog 1 0 sf51.toList 2 ([.int .i64] ++ ([.str] ++ [])) := .cons _ _ 0 2 false Try.t3 (.int .i64) [.int .i64] ([.str] ++ []) (by decide) rfl (by kernel_rfl) rfl (by decide) rfl Try.underlying3 (eq3.mono (by decide)) (.cons _ _ 1 2 false Try.t9 (.string) [.str] [] (by decide) rfl (by kernel_rfl) rfl (by decide) rfl Try.underlying9 (eq9.mono (by decide)) (.nil 2))
theorem eq51 : EqAt Try.prog 2 51 true [.int .i64, .str] := eqAt_struct (fs := sf51) Try.underlying51 (by kernel_rfl) fl51
theorem fl52 : FlatF Try.prog 1 0 sf51.toList 2 ([.int .i64] ++ ([.str] ++ [])) := .cons _ _ 0 2 false Try.t3 (.int .i64) [.int .i64] ([.str] ++ []) (by decide) rfl (by kernel_rfl) rfl (by decide) rfl Try.underlying3 (eq3.mono (by decide)) (.cons _ _ 1 2 false Try.t9 (.string) [.str] [] (by decide) rfl (by kernel_rfl) rfl (by decide) rfl Try.underlying9 (eq9.mono (by decide)) (.nil 2))
theorem eq52 : EqAt Try.prog 2 52 true [.int .i64, .str] := eqAt_struct (fs := sf51) Try.underlying52 (by kernel_rfl) fl52
theorem fl87 : FlatF Try.prog 1 0 sf87.toList 3 ([.int .i64] ++ ([.int .i64] ++ ([.int .i64] ++ []))) := .cons _ _ 0 3 false Try.t3 (.int .i64) [.int .i64] ([.int .i64] ++ ([.int .i64] ++ [])) (by decide) rfl (by kernel_rfl) rfl (by decide) rfl Try.underlying3 (eq3.mono (by decide)) (.cons _ _ 1 3 false Try.t3 (.int .i64) [.int .i64] ([.int .i64] ++ []) (by decide) rfl (by kernel_rfl) rfl (by decide) rfl Try.underlying3 (eq3.mono (by decide)) (.cons _ _ 2 3 false Try.t3 (.int .i64) [.int .i64] [] (by decide) rfl (by kernel_rfl) rfl (by decide) rfl Try.underlying3 (eq3.mono (by decide)) (.nil 3)))
theorem eq87 : EqAt Try.prog 2 87 true [.int .i64, .int .i64, .int .i64] := eqAt_struct (fs := sf87) Try.underlying87 (by kernel_rfl) fl87
theorem fl88 : FlatF Try.prog 1 0 sf87.toList 3 ([.int .i64] ++ ([.int .i64] ++ ([.int .i64] ++ []))) := .cons _ _ 0 3 false Try.t3 (.int .i64) [.int .i64] ([.int .i64] ++ ([.int .i64] ++ [])) (by decide) rfl (by kernel_rfl) rfl (by decide) rfl Try.underlying3 (eq3.mono (by decide)) (.cons _ _ 1 3 false Try.t3 (.int .i64) [.int .i64] ([.int .i64] ++ []) (by decide) rfl (by kernel_rfl) rfl (by decide) rfl Try.underlying3 (eq3.mono (by decide)) (.cons _ _ 2 3 false Try.t3 (.int .i64) [.int .i64] [] (by decide) rfl (by kernel_rfl) rfl (by decide) rfl Try.underlying3 (eq3.mono (by decide)) (.nil 3)))
theorem eq88 : EqAt Try.prog 2 88 true [.int .i64, .int .i64, .int .i64] := eqAt_struct (fs := sf87) Try.underlying88 (by kernel_rfl) fl88
theorem fl56 : FlatF Try.prog 2 0 sf56.toList 4 ([.int .i64, .int .i64, .int .i64] ++ ([.int .i64] ++ [])) := .cons _ _ 0 4 true Try.t23 (.struct sf22) [.int .i64, .int .i64, .int .i64] ([.int .i64] ++ []) (by decide) rfl (by kernel_rfl) rfl (by decide) rfl Try.underlying23 (eq23.mono (by decide)) (.cons _ _ 3 4 false Try.t3 (.int .i64) [.int .i64] [] (by decide) rfl (by kernel_rfl) rfl (by decide) rfl Try.underlying3 (eq3.mono (by decide)) (.nil 4))
theorem eq56 : EqAt Try.prog 3 56 true [.int .i64, .int .i64, .int .i64, .int .i64] := eqAt_struct (fs := sf56) Try.underlying56 (by kernel_rfl) fl56
theorem fl57 : FlatF Try.prog 2 0 sf56.toList 4 ([.int .i64, .int .i64, .int .i64] ++ ([.int .i64] ++ [])) := .cons _ _ 0 4 true Try.t23 (.struct sf22) [.int .i64, .int .i64, .int .i64] ([.int .i64] ++ []) (by decide) rfl (by kernel_rfl) rfl (by decide) rfl Try.underlying23 (eq23.mono (by decide)) (.cons _ _ 3 4 false Try.t3 (.int .i64) [.int .i64] [] (by decide) rfl (by kernel_rfl) rfl (by decide) rfl Try.underlying3 (eq3.mono (by decide)) (.nil 4))
theorem eq57 : EqAt Try.prog 3 57 true [.int .i64, .int .i64, .int .i64, .int .i64] := eqAt_struct (fs := sf56) Try.underlying57 (by kernel_rfl) fl57
theorem fl89 : FlatF Try.prog 2 0 sf89.toList 4 ([.str] ++ ([.int .i64, .int .i64, .int .i64] ++ [])) := .cons _ _ 0 4 false Try.t9 (.string) [.str] ([.int .i64, .int .i64, .int .i64] ++ []) (by decide) rfl (by kernel_rfl) rfl (by decide) rfl Try.underlying9 (eq9.mono (by decide)) (.cons _ _ 1 4 true Try.t88 (.struct sf87) [.int .i64, .int .i64, .int .i64] [] (by decide) rfl (by kernel_rfl) rfl (by decide) rfl Try.underlying88 (eq88.mono (by decide)) (.nil 4))
theorem eq89 : EqAt Try.prog 3 89 true [.str, .int .i64, .int .i64, .int .i64] := eqAt_struct (fs := sf89) Try.underlying89 (by kernel_rfl) fl89
theorem fl90 : FlatF Try.prog 2 0 sf89.toList 4 ([.str] ++ ([.int .i64, .int .i64, .int .i64] ++ [])) := .cons _ _ 0 4 false Try.t9 (.string) [.str] ([.int .i64, .int .i64, .int .i64] ++ []) (by decide) rfl (by kernel_rfl) rfl (by decide) rfl Try.underlying9 (eq9.mono (by decide)) (.cons _ _ 1 4 true Try.t88 (.struct sf87) [.int .i64, .int .i64, .int .i64] [] (by decide) rfl (by kernel_rfl) rfl (by decide) rfl Try.underlying88 (eq88.mono (by decide)) (.nil 4))
theorem eq90 : EqAt Try.prog 3 90 true [.str, .int .i64, .int .i64, .int .i64] := eqAt_struct (fs := sf89) Try.underlying90 (by kernel_rfl) fl90
theorem ok1 : TyOk Try.prog 1 ty1 where
  u := Try.underlying1
  agg := rfl
  info := ⟨Try.t1, .nilFunc, by kernel_rfl, by kernel_rfl, by kernel_rfl, by kernel_rfl, rfl, fun G => .cons .nilF (.nil _), by decide⟩
  fields := fun k o s g h => by simp [ty1] at h
  places := fun fs h => by cases h
  eqs := fun h => absurd rfl h
theorem ok2 : TyOk Try.prog 2 ty2 where
  u := Try.underlying2
  agg := rfl
  info := ⟨Try.t2, .int .i64 0, by kernel_rfl, by kernel_rfl, by kernel_rfl, by kernel_rfl, rfl, fun G => .cons (.int _ _ (by decide)) (.nil _), by decide⟩
  fields := fun k o s g h => by simp [ty2] at h
  places := fun fs h => by cases h
  eqs := fun _ => ⟨by kernel_rfl, fun G cs ds vs us b w h1 h2 h3 h4 => eq2.eq (by decide) G cs ds vs us b w h1 h2 h3 h4⟩
theorem ok3 : TyOk Try.prog 3 ty3 where
  u := Try.underlying3
  agg := rfl
  info := ⟨Try.t3, .int .i64 0, by kernel_rfl, by kernel_rfl, by kernel_rfl, by kernel_rfl, rfl, fun G => .cons (.int _ _ (by decide)) (.nil _), by decide⟩
  fields := fun k o s g h => by simp [ty3] at h
  places := fun fs h => by cases h
  eqs := fun _ => ⟨by kernel_rfl, fun G cs ds vs us b w h1 h2 h3 h4 => eq3.eq (by decide) G cs ds vs us b w h1 h2 h3 h4⟩
theorem ok4 : TyOk Try.prog 4 ty4 where
  u := Try.underlying4
  agg := rfl
  info := ⟨Try.t4, .bool false, by kernel_rfl, by kernel_rfl, by kernel_rfl, by kernel_rfl, rfl, fun G => .cons (.bool _) (.nil _), by decide⟩
  fields := fun k o s g h => by simp [ty4] at h
  places := fun fs h => by cases h
  eqs := fun _ => ⟨by kernel_rfl, fun G cs ds vs us b w h1 h2 h3 h4 => eq4.eq (by decide) G cs ds vs us b w h1 h2 h3 h4⟩
theorem ok5 : TyOk Try.prog 5 ty5 where
  u := Try.underlying5
  agg := rfl
  info := ⟨Try.t5, .int .u8 0, by kernel_rfl, by kernel_rfl, by kernel_rfl, by kernel_rfl, rfl, fun G => .cons (.int _ _ (by decide)) (.nil _), by decide⟩
  fields := fun k o s g h => by simp [ty5] at h
  places := fun fs h => by cases h
  eqs := fun _ => ⟨by kernel_rfl, fun G cs ds vs us b w h1 h2 h3 h4 => eq5.eq (by decide) G cs ds vs us b w h1 h2 h3 h4⟩
theorem ok9 : TyOk Try.prog 9 ty9 where
  u := Try.underlying9
  agg := rfl
  info := ⟨Try.t9, .string ByteArray.empty, by kernel_rfl, by kernel_rfl, by kernel_rfl, by kernel_rfl, rfl, fun G => .cons (.str _ (by decide)) (.nil _), by decide⟩
  fields := fun k o s g h => by simp [ty9] at h
  places := fun fs h => by cases h
  eqs := fun _ => ⟨by kernel_rfl, fun G cs ds vs us b w h1 h2 h3 h4 => eq9.eq (by decide) G cs ds vs us b w h1 h2 h3 h4⟩
theorem ok12 : TyOk Try.prog 12 ty12 where
  u := Try.underlying12
  agg := rfl
  info := ⟨Try.t12, .int .u64 0, by kernel_rfl, by kernel_rfl, by kernel_rfl, by kernel_rfl, rfl, fun G => .cons (.int _ _ (by decide)) (.nil _), by decide⟩
  fields := fun k o s g h => by simp [ty12] at h
  places := fun fs h => by cases h
  eqs := fun _ => ⟨by kernel_rfl, fun G cs ds vs us b w h1 h2 h3 h4 => eq12.eq (by decide) G cs ds vs us b w h1 h2 h3 h4⟩
theorem ok16 : TyOk Try.prog 16 ty16 where
  u := Try.underlying16
  agg := rfl
  info := ⟨Try.t16, .pointer none, by kernel_rfl, by kernel_rfl, by kernel_rfl, by kernel_rfl, rfl, fun G => .cons .nilP (.nil _), by decide⟩
  fields := fun k o s g h => by simp [ty16] at h
  places := fun fs h => by cases h
  eqs := fun h => absurd rfl h
theorem ok21 : TyOk Try.prog 21 ty21 where
  u := Try.underlying21
  agg := rfl
  info := ⟨Try.t21, .int .i32 0, by kernel_rfl, by kernel_rfl, by kernel_rfl, by kernel_rfl, rfl, fun G => .cons (.int _ _ (by decide)) (.nil _), by decide⟩
  fields := fun k o s g h => by simp [ty21] at h
  places := fun fs h => by cases h
  eqs := fun _ => ⟨by kernel_rfl, fun G cs ds vs us b w h1 h2 h3 h4 => eq21.eq (by decide) G cs ds vs us b w h1 h2 h3 h4⟩
theorem ok22 : TyOk Try.prog 22 ty22 where
  u := Try.underlying22
  agg := rfl
  info := ⟨Try.t22, .agg #[.int .i64 0, .int .i64 0, .int .i64 0], by kernel_rfl, by kernel_rfl, by kernel_rfl, by kernel_rfl, rfl, fun G => .cons (.int _ _ (by decide)) (.cons (.int _ _ (by decide)) (.cons (.int _ _ (by decide)) (.nil _))), by decide⟩
  fields := by
    intro k o s g h
    match k, h with
    | 0, h => cases h; exact ⟨by decide, sf22, _, Try.t3, .int .i64, rfl, rfl, rfl, by kernel_rfl, rfl, Try.underlying3, rfl⟩
    | 1, h => cases h; exact ⟨by decide, sf22, _, Try.t3, .int .i64, rfl, rfl, rfl, by kernel_rfl, rfl, Try.underlying3, rfl⟩
    | 2, h => cases h; exact ⟨by decide, sf22, _, Try.t3, .int .i64, rfl, rfl, rfl, by kernel_rfl, rfl, Try.underlying3, rfl⟩
    | k + 3, h => simp [ty22] at h
  places := fun fs h => by cases h; kernel_rfl
  eqs := fun _ => ⟨by kernel_rfl, fun G cs ds vs us b w h1 h2 h3 h4 => eq22.eq (by decide) G cs ds vs us b w h1 h2 h3 h4⟩
theorem ok23 : TyOk Try.prog 23 ty23 where
  u := Try.underlying23
  agg := rfl
  info := ⟨Try.t23, .agg #[.int .i64 0, .int .i64 0, .int .i64 0], by kernel_rfl, by kernel_rfl, by kernel_rfl, by kernel_rfl, rfl, fun G => .cons (.int _ _ (by decide)) (.cons (.int _ _ (by decide)) (.cons (.int _ _ (by decide)) (.nil _))), by decide⟩
  fields := by
    intro k o s g h
    match k, h with
    | 0, h => cases h; exact ⟨by decide, sf22, _, Try.t3, .int .i64, rfl, rfl, rfl, by kernel_rfl, rfl, Try.underlying3, rfl⟩
    | 1, h => cases h; exact ⟨by decide, sf22, _, Try.t3, .int .i64, rfl, rfl, rfl, by kernel_rfl, rfl, Try.underlying3, rfl⟩
    | 2, h => cases h; exact ⟨by decide, sf22, _, Try.t3, .int .i64, rfl, rfl, rfl, by kernel_rfl, rfl, Try.underlying3, rfl⟩
    | k + 3, h => simp [ty23] at h
  places := fun fs h => by cases h; kernel_rfl
  eqs := fun _ => ⟨by kernel_rfl, fun G cs ds vs us b w h1 h2 h3 h4 => eq23.eq (by decide) G cs ds vs us b w h1 h2 h3 h4⟩
theorem ok24 : TyOk Try.prog 24 ty24 where
  u := Try.underlying24
  agg := rfl
  info := ⟨Try.t24, .slice none 0 0, by kernel_rfl, by kernel_rfl, by kernel_rfl, by kernel_rfl, rfl, fun G => .cons .nilS (.nil _), by decide⟩
  fields := fun k o s g h => by simp [ty24] at h
  places := fun fs h => by cases h
  eqs := fun h => absurd rfl h
theorem ok25 : TyOk Try.prog 25 ty25 where
  u := Try.underlying25
  agg := rfl
  info := ⟨Try.t25, .slice none 0 0, by kernel_rfl, by kernel_rfl, by kernel_rfl, by kernel_rfl, rfl, fun G => .cons .nilS (.nil _), by decide⟩
  fields := fun k o s g h => by simp [ty25] at h
  places := fun fs h => by cases h
  eqs := fun h => absurd rfl h
theorem ok26 : TyOk Try.prog 26 ty26 where
  u := Try.underlying26
  agg := rfl
  info := ⟨Try.t26, .agg #[.int .i64 0, .int .i64 0, .int .i64 0, .int .i64 0, .string ByteArray.empty, .slice none 0 0, .slice none 0 0, .slice none 0 0], by kernel_rfl, by kernel_rfl, by kernel_rfl, by kernel_rfl, rfl, fun G => .cons (.int _ _ (by decide)) (.cons (.int _ _ (by decide)) (.cons (.int _ _ (by decide)) (.cons (.int _ _ (by decide)) (.cons (.str _ (by decide)) (.cons .nilS (.cons .nilS (.cons .nilS (.nil _)))))))), by decide⟩
  fields := by
    intro k o s g h
    match k, h with
    | 0, h => cases h; exact ⟨by decide, sf26, _, Try.t23, .struct sf22, rfl, rfl, rfl, by kernel_rfl, rfl, Try.underlying23, rfl⟩
    | 1, h => cases h; exact ⟨by decide, sf26, _, Try.t3, .int .i64, rfl, rfl, rfl, by kernel_rfl, rfl, Try.underlying3, rfl⟩
    | 2, h => cases h; exact ⟨by decide, sf26, _, Try.t9, .string, rfl, rfl, rfl, by kernel_rfl, rfl, Try.underlying9, rfl⟩
    | 3, h => cases h; exact ⟨by decide, sf26, _, Try.t24, .slice 90, rfl, rfl, rfl, by kernel_rfl, rfl, Try.underlying24, rfl⟩
    | 4, h => cases h; exact ⟨by decide, sf26, _, Try.t24, .slice 90, rfl, rfl, rfl, by kernel_rfl, rfl, Try.underlying24, rfl⟩
    | 5, h => cases h; exact ⟨by decide, sf26, _, Try.t25, .slice 27, rfl, rfl, rfl, by kernel_rfl, rfl, Try.underlying25, rfl⟩
    | k + 6, h => simp [ty26] at h
  places := fun fs h => by cases h; kernel_rfl
  eqs := fun h => absurd rfl h
theorem ok27 : TyOk Try.prog 27 ty27 where
  u := Try.underlying27
  agg := rfl
  info := ⟨Try.t27, .agg #[.int .i64 0, .int .i64 0, .int .i64 0, .int .i64 0, .string ByteArray.empty, .slice none 0 0, .slice none 0 0, .slice none 0 0], by kernel_rfl, by kernel_rfl, by kernel_rfl, by kernel_rfl, rfl, fun G => .cons (.int _ _ (by decide)) (.cons (.int _ _ (by decide)) (.cons (.int _ _ (by decide)) (.cons (.int _ _ (by decide)) (.cons (.str _ (by decide)) (.cons .nilS (.cons .nilS (.cons .nilS (.nil _)))))))), by decide⟩
  fields := by
    intro k o s g h
    match k, h with
    | 0, h => cases h; exact ⟨by decide, sf26, _, Try.t23, .struct sf22, rfl, rfl, rfl, by kernel_rfl, rfl, Try.underlying23, rfl⟩
    | 1, h => cases h; exact ⟨by decide, sf26, _, Try.t3, .int .i64, rfl, rfl, rfl, by kernel_rfl, rfl, Try.underlying3, rfl⟩
    | 2, h => cases h; exact ⟨by decide, sf26, _, Try.t9, .string, rfl, rfl, rfl, by kernel_rfl, rfl, Try.underlying9, rfl⟩
    | 3, h => cases h; exact ⟨by decide, sf26, _, Try.t24, .slice 90, rfl, rfl, rfl, by kernel_rfl, rfl, Try.underlying24, rfl⟩
    | 4, h => cases h; exact ⟨by decide, sf26, _, Try.t24, .slice 90, rfl, rfl, rfl, by kernel_rfl, rfl, Try.underlying24, rfl⟩
    | 5, h => cases h; exact ⟨by decide, sf26, _, Try.t25, .slice 27, rfl, rfl, rfl, by kernel_rfl, rfl, Try.underlying25, rfl⟩
    | k + 6, h => simp [ty27] at h
  places := fun fs h => by cases h; kernel_rfl
  eqs := fun h => absurd rfl h
theorem ok28 : TyOk Try.prog 28 ty28 where
  u := Try.underlying28
  agg := rfl
  info := ⟨Try.t28, .slice none 0 0, by kernel_rfl, by kernel_rfl, by kernel_rfl, by kernel_rfl, rfl, fun G => .cons .nilS (.nil _), by decide⟩
  fields := fun k o s g h => by simp [ty28] at h
  places := fun fs h => by cases h
  eqs := fun h => absurd rfl h
theorem ok29 : TyOk Try.prog 29 ty29 where
  u := Try.underlying29
  agg := rfl
  info := ⟨Try.t29, .nilFunc, by kernel_rfl, by kernel_rfl, by kernel_rfl, by kernel_rfl, rfl, fun G => .cons .nilF (.nil _), by decide⟩
  fields := fun k o s g h => by simp [ty29] at h
  places := fun fs h => by cases h
  eqs := fun h => absurd rfl h
theorem ok30 : TyOk Try.prog 30 ty30 where
  u := Try.underlying30
  agg := rfl
  info := ⟨Try.t30, .nilFunc, by kernel_rfl, by kernel_rfl, by kernel_rfl, by kernel_rfl, rfl, fun G => .cons .nilF (.nil _), by decide⟩
  fields := fun k o s g h => by simp [ty30] at h
  places := fun fs h => by cases h
  eqs := fun h => absurd rfl h
theorem ok31 : TyOk Try.prog 31 ty31 where
  u := Try.underlying31
  agg := rfl
  info := ⟨Try.t31, .nilFunc, by kernel_rfl, by kernel_rfl, by kernel_rfl, by kernel_rfl, rfl, fun G => .cons .nilF (.nil _), by decide⟩
  fields := fun k o s g h => by simp [ty31] at h
  places := fun fs h => by cases h
  eqs := fun h => absurd rfl h
theorem ok32 : TyOk Try.prog 32 ty32 where
  u := Try.underlying32
  agg := rfl
  info := ⟨Try.t32, .slice none 0 0, by kernel_rfl, by kernel_rfl, by kernel_rfl, by kernel_rfl, rfl, fun G => .cons .nilS (.nil _), by decide⟩
  fields := fun k o s g h => by simp [ty32] at h
  places := fun fs h => by cases h
  eqs := fun h => absurd rfl h
theorem ok33 : TyOk Try.prog 33 ty33 where
  u := Try.underlying33
  agg := rfl
  info := ⟨Try.t33, .agg #[.int .i64 0, .int .i64 0, .string ByteArray.empty], by kernel_rfl, by kernel_rfl, by kernel_rfl, by kernel_rfl, rfl, fun G => .cons (.int _ _ (by decide)) (.cons (.int _ _ (by decide)) (.cons (.str _ (by decide)) (.nil _))), by decide⟩
  fields := by
    intro k o s g h
    match k, h with
    | 0, h => cases h; exact ⟨by decide, sf33, _, Try.t3, .int .i64, rfl, rfl, rfl, by kernel_rfl, rfl, Try.underlying3, rfl⟩
    | 1, h => cases h; exact ⟨by decide, sf33, _, Try.t3, .int .i64, rfl, rfl, rfl, by kernel_rfl, rfl, Try.underlying3, rfl⟩
    | 2, h => cases h; exact ⟨by decide, sf33, _, Try.t9, .string, rfl, rfl, rfl, by kernel_rfl, rfl, Try.underlying9, rfl⟩
    | k + 3, h => simp [ty33] at h
  places := fun fs h => by cases h; kernel_rfl
  eqs := fun _ => ⟨by kernel_rfl, fun G cs ds vs us b w h1 h2 h3 h4 => eq33.eq (by decide) G cs ds vs us b w h1 h2 h3 h4⟩
theorem ok34 : TyOk Try.prog 34 ty34 where
  u := Try.underlying34
  agg := rfl
  info := ⟨Try.t34, .agg #[.int .i64 0, .int .i64 0, .string ByteArray.empty], by kernel_rfl, by kernel_rfl, by kernel_rfl, by kernel_rfl, rfl, fun G => .cons (.int _ _ (by decide)) (.cons (.int _ _ (by decide)) (.cons (.str _ (by decide)) (.nil _))), by decide⟩
  fields := by
    intro k o s g h
    match k, h with
    | 0, h => cases h; exact ⟨by decide, sf33, _, Try.t3, .int .i64, rfl, rfl, rfl, by kernel_rfl, rfl, Try.underlying3, rfl⟩
    | 1, h => cases h; exact ⟨by decide, sf33, _, Try.t3, .int .i64, rfl, rfl, rfl, by kernel_rfl, rfl, Try.underlying3, rfl⟩
    | 2, h => cases h; exact ⟨by decide, sf33, _, Try.t9, .string, rfl, rfl, rfl, by kernel_rfl, rfl, Try.underlying9, rfl⟩
    | k + 3, h => simp [ty34] at h
  places := fun fs h => by cases h; kernel_rfl
  eqs := fun _ => ⟨by kernel_rfl, fun G cs ds vs us b w h1 h2 h3 h4 => eq34.eq (by decide) G cs ds vs us b w h1 h2 h3 h4⟩
theorem ok35 : TyOk Try.prog 35 ty35 where
  u := Try.underlying35
  agg := rfl
  info := ⟨Try.t35, .slice none 0 0, by kernel_rfl, by kernel_rfl, by kernel_rfl, by kernel_rfl, rfl, fun G => .cons .nilS (.nil _), by decide⟩
  fields := fun k o s g h => by simp [ty35] at h
  places := fun fs h => by cases h
  eqs := fun h => absurd rfl h
theorem ok36 : TyOk Try.prog 36 ty36 where
  u := Try.underlying36
  agg := rfl
  info := ⟨Try.t36, .agg #[.int .i64 0, .slice none 0 0, .slice none 0 0, .int .i64 0, .int .i64 0, .int .i64 0, .int .i64 0, .int .i64 0, .int .i64 0, .string ByteArray.empty, .slice none 0 0, .slice none 0 0, .slice none 0 0, .slice none 0 0, .slice none 0 0, .string ByteArray.empty, .string ByteArray.empty, .int .i64 0, .int .i64 0, .string ByteArray.empty, .int .i64 0, .int .i64 0, .int .i64 0, .string ByteArray.empty, .slice none 0 0], by kernel_rfl, by kernel_rfl, by kernel_rfl, by kernel_rfl, rfl, fun G => .cons (.int _ _ (by decide)) (.cons .nilS (.cons .nilS (.cons (.int _ _ (by decide)) (.cons (.int _ _ (by decide)) (.cons (.int _ _ (by decide)) (.cons (.int _ _ (by decide)) (.cons (.int _ _ (by decide)) (.cons (.int _ _ (by decide)) (.cons (.str _ (by decide)) (.cons .nilS (.cons .nilS (.cons .nilS (.cons .nilS (.cons .nilS (.cons (.str _ (by decide)) (.cons (.str _ (by decide)) (.cons (.int _ _ (by decide)) (.cons (.int _ _ (by decide)) (.cons (.str _ (by decide)) (.cons (.int _ _ (by decide)) (.cons (.int _ _ (by decide)) (.cons (.int _ _ (by decide)) (.cons (.str _ (by decide)) (.cons .nilS (.nil _))))))))))))))))))))))))), by decide⟩
  fields := by
    intro k o s g h
    match k, h with
    | 0, h => cases h; exact ⟨by decide, sf36, _, Try.t3, .int .i64, rfl, rfl, rfl, by kernel_rfl, rfl, Try.underlying3, rfl⟩
    | 1, h => cases h; exact ⟨by decide, sf36, _, Try.t28, .slice 52, rfl, rfl, rfl, by kernel_rfl, rfl, Try.underlying28, rfl⟩
    | 2, h => cases h; exact ⟨by decide, sf36, _, Try.t28, .slice 52, rfl, rfl, rfl, by kernel_rfl, rfl, Try.underlying28, rfl⟩
    | 3, h => cases h; exact ⟨by decide, sf36, _, Try.t3, .int .i64, rfl, rfl, rfl, by kernel_rfl, rfl, Try.underlying3, rfl⟩
    | 4, h => cases h; exact ⟨by decide, sf36, _, Try.t3, .int .i64, rfl, rfl, rfl, by kernel_rfl, rfl, Try.underlying3, rfl⟩
    | 5, h => cases h; exact ⟨by decide, sf36, _, Try.t27, .struct sf26, rfl, rfl, rfl, by kernel_rfl, rfl, Try.underlying27, rfl⟩
    | 6, h => cases h; exact ⟨by decide, sf36, _, Try.t32, .slice 9, rfl, rfl, rfl, by kernel_rfl, rfl, Try.underlying32, rfl⟩
    | 7, h => cases h; exact ⟨by decide, sf36, _, Try.t32, .slice 9, rfl, rfl, rfl, by kernel_rfl, rfl, Try.underlying32, rfl⟩
    | 8, h => cases h; exact ⟨by decide, sf36, _, Try.t9, .string, rfl, rfl, rfl, by kernel_rfl, rfl, Try.underlying9, rfl⟩
    | 9, h => cases h; exact ⟨by decide, sf36, _, Try.t9, .string, rfl, rfl, rfl, by kernel_rfl, rfl, Try.underlying9, rfl⟩
    | 10, h => cases h; exact ⟨by decide, sf36, _, Try.t34, .struct sf33, rfl, rfl, rfl, by kernel_rfl, rfl, Try.underlying34, rfl⟩
    | 11, h => cases h; exact ⟨by decide, sf36, _, Try.t3, .int .i64, rfl, rfl, rfl, by kernel_rfl, rfl, Try.underlying3, rfl⟩
    | 12, h => cases h; exact ⟨by decide, sf36, _, Try.t3, .int .i64, rfl, rfl, rfl, by kernel_rfl, rfl, Try.underlying3, rfl⟩
    | 13, h => cases h; exact ⟨by decide, sf36, _, Try.t3, .int .i64, rfl, rfl, rfl, by kernel_rfl, rfl, Try.underlying3, rfl⟩
    | 14, h => cases h; exact ⟨by decide, sf36, _, Try.t9, .string, rfl, rfl, rfl, by kernel_rfl, rfl, Try.underlying9, rfl⟩
    | 15, h => cases h; exact ⟨by decide, sf36, _, Try.t35, .slice 37, rfl, rfl, rfl, by kernel_rfl, rfl, Try.underlying35, rfl⟩
    | k + 16, h => simp [ty36] at h
  places := fun fs h => by cases h; kernel_rfl
  eqs := fun h => absurd rfl h
theorem ok37 : TyOk Try.prog 37 ty37 where
  u := Try.underlying37
  agg := rfl
  info := ⟨Try.t37, .agg #[.int .i64 0, .slice none 0 0, .slice none 0 0, .int .i64 0, .int .i64 0, .int .i64 0, .int .i64 0, .int .i64 0, .int .i64 0, .string ByteArray.empty, .slice none 0 0, .slice none 0 0, .slice none 0 0, .slice none 0 0, .slice none 0 0, .string ByteArray.empty, .string ByteArray.empty, .int .i64 0, .int .i64 0, .string ByteArray.empty, .int .i64 0, .int .i64 0, .int .i64 0, .string ByteArray.empty, .slice none 0 0], by kernel_rfl, by kernel_rfl, by kernel_rfl, by kernel_rfl, rfl, fun G => .cons (.int _ _ (by decide)) (.cons .nilS (.cons .nilS (.cons (.int _ _ (by decide)) (.cons (.int _ _ (by decide)) (.cons (.int _ _ (by decide)) (.cons (.int _ _ (by decide)) (.cons (.int _ _ (by decide)) (.cons (.int _ _ (by decide)) (.cons (.str _ (by decide)) (.cons .nilS (.cons .nilS (.cons .nilS (.cons .nilS (.cons .nilS (.cons (.str _ (by decide)) (.cons (.str _ (by decide)) (.cons (.int _ _ (by decide)) (.cons (.int _ _ (by decide)) (.cons (.str _ (by decide)) (.cons (.int _ _ (by decide)) (.cons (.int _ _ (by decide)) (.cons (.int _ _ (by decide)) (.cons (.str _ (by decide)) (.cons .nilS (.nil _))))))))))))))))))))))))), by decide⟩
  fields := by
    intro k o s g h
    match k, h with
    | 0, h => cases h; exact ⟨by decide, sf36, _, Try.t3, .int .i64, rfl, rfl, rfl, by kernel_rfl, rfl, Try.underlying3, rfl⟩
    | 1, h => cases h; exact ⟨by decide, sf36, _, Try.t28, .slice 52, rfl, rfl, rfl, by kernel_rfl, rfl, Try.underlying28, rfl⟩
    | 2, h => cases h; exact ⟨by decide, sf36, _, Try.t28, .slice 52, rfl, rfl, rfl, by kernel_rfl, rfl, Try.underlying28, rfl⟩
    | 3, h => cases h; exact ⟨by decide, sf36, _, Try.t3, .int .i64, rfl, rfl, rfl, by kernel_rfl, rfl, Try.underlying3, rfl⟩
    | 4, h => cases h; exact ⟨by decide, sf36, _, Try.t3, .int .i64, rfl, rfl, rfl, by kernel_rfl, rfl, Try.underlying3, rfl⟩
    | 5, h => cases h; exact ⟨by decide, sf36, _, Try.t27, .struct sf26, rfl, rfl, rfl, by kernel_rfl, rfl, Try.underlying27, rfl⟩
    | 6, h => cases h; exact ⟨by decide, sf36, _, Try.t32, .slice 9, rfl, rfl, rfl, by kernel_rfl, rfl, Try.underlying32, rfl⟩
    | 7, h => cases h; exact ⟨by decide, sf36, _, Try.t32, .slice 9, rfl, rfl, rfl, by kernel_rfl, rfl, Try.underlying32, rfl⟩
    | 8, h => cases h; exact ⟨by decide, sf36, _, Try.t9, .string, rfl, rfl, rfl, by kernel_rfl, rfl, Try.underlying9, rfl⟩
    | 9, h => cases h; exact ⟨by decide, sf36, _, Try.t9, .string, rfl, rfl, rfl, by kernel_rfl, rfl, Try.underlying9, rfl⟩
    | 10, h => cases h; exact ⟨by decide, sf36, _, Try.t34, .struct sf33, rfl, rfl, rfl, by kernel_rfl, rfl, Try.underlying34, rfl⟩
    | 11, h => cases h; exact ⟨by decide, sf36, _, Try.t3, .int .i64, rfl, rfl, rfl, by kernel_rfl, rfl, Try.underlying3, rfl⟩
    | 12, h => cases h; exact ⟨by decide, sf36, _, Try.t3, .int .i64, rfl, rfl, rfl, by kernel_rfl, rfl, Try.underlying3, rfl⟩
    | 13, h => cases h; exact ⟨by decide, sf36, _, Try.t3, .int .i64, rfl, rfl, rfl, by kernel_rfl, rfl, Try.underlying3, rfl⟩
    | 14, h => cases h; exact ⟨by decide, sf36, _, Try.t9, .string, rfl, rfl, rfl, by kernel_rfl, rfl, Try.underlying9, rfl⟩
    | 15, h => cases h; exact ⟨by decide, sf36, _, Try.t35, .slice 37, rfl, rfl, rfl, by kernel_rfl, rfl, Try.underlying35, rfl⟩
    | k + 16, h => simp [ty37] at h
  places := fun fs h => by cases h; kernel_rfl
  eqs := fun h => absurd rfl h
theorem ok38 : TyOk Try.prog 38 ty38 where
  u := Try.underlying38
  agg := rfl
  info := ⟨Try.t38, .int .i64 0, by kernel_rfl, by kernel_rfl, by kernel_rfl, by kernel_rfl, rfl, fun G => .cons (.int _ _ (by decide)) (.nil _), by decide⟩
  fields := fun k o s g h => by simp [ty38] at h
  places := fun fs h => by cases h
  eqs := fun _ => ⟨by kernel_rfl, fun G cs ds vs us b w h1 h2 h3 h4 => eq38.eq (by decide) G cs ds vs us b w h1 h2 h3 h4⟩
theorem ok40 : TyOk Try.prog 40 ty40 where
  u := Try.underlying40
  agg := rfl
  info := ⟨Try.t40, .nilFunc, by kernel_rfl, by kernel_rfl, by kernel_rfl, by kernel_rfl, rfl, fun G => .cons .nilF (.nil _), by decide⟩
  fields := fun k o s g h => by simp [ty40] at h
  places := fun fs h => by cases h
  eqs := fun h => absurd rfl h
theorem ok41 : TyOk Try.prog 41 ty41 where
  u := Try.underlying41
  agg := rfl
  info := ⟨Try.t41, .nilFunc, by kernel_rfl, by kernel_rfl, by kernel_rfl, by kernel_rfl, rfl, fun G => .cons .nilF (.nil _), by decide⟩
  fields := fun k o s g h => by simp [ty41] at h
  places := fun fs h => by cases h
  eqs := fun h => absurd rfl h
theorem ok43 : TyOk Try.prog 43 ty43 where
  u := Try.underlying43
  agg := rfl
  info := ⟨Try.t43, .nilFunc, by kernel_rfl, by kernel_rfl, by kernel_rfl, by kernel_rfl, rfl, fun G => .cons .nilF (.nil _), by decide⟩
  fields := fun k o s g h => by simp [ty43] at h
  places := fun fs h => by cases h
  eqs := fun h => absurd rfl h
theorem ok44 : TyOk Try.prog 44 ty44 where
  u := Try.underlying44
  agg := rfl
  info := ⟨Try.t44, .nilFunc, by kernel_rfl, by kernel_rfl, by kernel_rfl, by kernel_rfl, rfl, fun G => .cons .nilF (.nil _), by decide⟩
  fields := fun k o s g h => by simp [ty44] at h
  places := fun fs h => by cases h
  eqs := fun h => absurd rfl h
theorem ok45 : TyOk Try.prog 45 ty45 where
  u := Try.underlying45
  agg := rfl
  info := ⟨Try.t45, .nilFunc, by kernel_rfl, by kernel_rfl, by kernel_rfl, by kernel_rfl, rfl, fun G => .cons .nilF (.nil _), by decide⟩
  fields := fun k o s g h => by simp [ty45] at h
  places := fun fs h => by cases h
  eqs := fun h => absurd rfl h
theorem ok46 : TyOk Try.prog 46 ty46 where
  u := Try.underlying46
  agg := rfl
  info := ⟨Try.t46, .slice none 0 0, by kernel_rfl, by kernel_rfl, by kernel_rfl, by kernel_rfl, rfl, fun G => .cons .nilS (.nil _), by decide⟩
  fields := fun k o s g h => by simp [ty46] at h
  places := fun fs h => by cases h
  eqs := fun h => absurd rfl h
theorem ok47 : TyOk Try.prog 47 ty47 where
  u := Try.underlying47
  agg := rfl
  info := ⟨Try.t47, .nilFunc, by kernel_rfl, by kernel_rfl, by kernel_rfl, by kernel_rfl, rfl, fun G => .cons .nilF (.nil _), by decide⟩
  fields := fun k o s g h => by simp [ty47] at h
  places := fun fs h => by cases h
  eqs := fun h => absurd rfl h
theorem ok48 : TyOk Try.prog 48 ty48 where
  u := Try.underlying48
  agg := rfl
  info := ⟨Try.t48, .nilFunc, by kernel_rfl, by kernel_rfl, by kernel_rfl, by kernel_rfl, rfl, fun G => .cons .nilF (.nil _), by decide⟩
  fields := fun k o s g h => by simp [ty48] at h
  places := fun fs h => by cases h
  eqs := fun h => absurd rfl h
theorem ok49 : TyOk Try.prog 49 ty49 where
  u := Try.underlying49
  agg := rfl
  info := ⟨Try.t49, .nilFunc, by kernel_rfl, by kernel_rfl, by kernel_rfl, by kernel_rfl, rfl, fun G => .cons .nilF (.nil _), by decide⟩
  fields := fun k o s g h => by simp [ty49] at h
  places := fun fs h => by cases h
  eqs := fun h => absurd rfl h
theorem ok50 : TyOk Try.prog 50 ty50 where
  u := Try.underlying50
  agg := rfl
  info := ⟨Try.t50, .nilFunc, by kernel_rfl, by kernel_rfl, by kernel_rfl, by kernel_rfl, rfl, fun G => .cons .nilF (.nil _), by decide⟩
  fields := fun k o s g h => by simp [ty50] at h
  places := fun fs h => by cases h
  eqs := fun h => absurd rfl h
theorem ok51 : TyOk Try.prog 51 ty51 where
  u := Try.underlying51
  agg := rfl
  info := ⟨Try.t51, .agg #[.int .i64 0, .string ByteArray.empty], by kernel_rfl, by kernel_rfl, by kernel_rfl, by kernel_rfl, rfl, fun G => .cons (.int _ _ (by decide)) (.cons (.str _ (by decide)) (.nil _)), by decide⟩
  fields := by
    intro k o s g h
    match k, h with
    | 0, h => cases h; exact ⟨by decide, sf51, _, Try.t3, .int .i64, rfl, rfl, rfl, by kernel_rfl, rfl, Try.underlying3, rfl⟩
    | 1, h => cases h; exact ⟨by decide, sf51, _, Try.t9, .string, rfl, rfl, rfl, by kernel_rfl, rfl, Try.underlying9, rfl⟩
    | k + 2, h => simp [ty51] at h
  places := fun fs h => by cases h; kernel_rfl
  eqs := fun _ => ⟨by kernel_rfl, fun G cs ds vs us b w h1 h2 h3 h4 => eq51.eq (by decide) G cs ds vs us b w h1 h2 h3 h4⟩
theorem ok52 : TyOk Try.prog 52 ty52 where
  u := Try.underlying52
  agg := rfl
  info := ⟨Try.t52, .agg #[.int .i64 0, .string ByteArray.empty], by kernel_rfl, by kernel_rfl, by kernel_rfl, by kernel_rfl, rfl, fun G => .cons (.int _ _ (by decide)) (.cons (.str _ (by decide)) (.nil _)), by decide⟩
  fields := by
    intro k o s g h
    match k, h with
    | 0, h => cases h; exact ⟨by decide, sf51, _, Try.t3, .int .i64, rfl, rfl, rfl, by kernel_rfl, rfl, Try.underlying3, rfl⟩
    | 1, h => cases h; exact ⟨by decide, sf51, _, Try.t9, .string, rfl, rfl, rfl, by kernel_rfl, rfl, Try.underlying9, rfl⟩
    | k + 2, h => simp [ty52] at h
  places := fun fs h => by cases h; kernel_rfl
  eqs := fun _ => ⟨by kernel_rfl, fun G cs ds vs us b w h1 h2 h3 h4 => eq52.eq (by decide) G cs ds vs us b w h1 h2 h3 h4⟩
theorem ok53 : TyOk Try.prog 53 ty53 where
  u := Try.underlying53
  agg := rfl
  info := ⟨Try.t53, .nilFunc, by kernel_rfl, by kernel_rfl, by kernel_rfl, by kernel_rfl, rfl, fun G => .cons .nilF (.nil _), by decide⟩
  fields := fun k o s g h => by simp [ty53] at h
  places := fun fs h => by cases h
  eqs := fun h => absurd rfl h
theorem ok54 : TyOk Try.prog 54 ty54 where
  u := Try.underlying54
  agg := rfl
  info := ⟨Try.t54, .nilFunc, by kernel_rfl, by kernel_rfl, by kernel_rfl, by kernel_rfl, rfl, fun G => .cons .nilF (.nil _), by decide⟩
  fields := fun k o s g h => by simp [ty54] at h
  places := fun fs h => by cases h
  eqs := fun h => absurd rfl h
theorem ok55 : TyOk Try.prog 55 ty55 where
  u := Try.underlying55
  agg := rfl
  info := ⟨Try.t55, .nilFunc, by kernel_rfl, by kernel_rfl, by kernel_rfl, by kernel_rfl, rfl, fun G => .cons .nilF (.nil _), by decide⟩
  fields := fun k o s g h => by simp [ty55] at h
  places := fun fs h => by cases h
  eqs := fun h => absurd rfl h
theorem ok56 : TyOk Try.prog 56 ty56 where
  u := Try.underlying56
  agg := rfl
  info := ⟨Try.t56, .agg #[.int .i64 0, .int .i64 0, .int .i64 0, .int .i64 0], by kernel_rfl, by kernel_rfl, by kernel_rfl, by kernel_rfl, rfl, fun G => .cons (.int _ _ (by decide)) (.cons (.int _ _ (by decide)) (.cons (.int _ _ (by decide)) (.cons (.int _ _ (by decide)) (.nil _)))), by decide⟩
  fields := by
    intro k o s g h
    match k, h with
    | 0, h => cases h; exact ⟨by decide, sf56, _, Try.t23, .struct sf22, rfl, rfl, rfl, by kernel_rfl, rfl, Try.underlying23, rfl⟩
    | 1, h => cases h; exact ⟨by decide, sf56, _, Try.t3, .int .i64, rfl, rfl, rfl, by kernel_rfl, rfl, Try.underlying3, rfl⟩
    | k + 2, h => simp [ty56] at h
  places := fun fs h => by cases h; kernel_rfl
  eqs := fun _ => ⟨by kernel_rfl, fun G cs ds vs us b w h1 h2 h3 h4 => eq56.eq (by decide) G cs ds vs us b w h1 h2 h3 h4⟩
theorem ok57 : TyOk Try.prog 57 ty57 where
  u := Try.underlying57
  agg := rfl
  info := ⟨Try.t57, .agg #[.int .i64 0, .int .i64 0, .int .i64 0, .int .i64 0], by kernel_rfl, by kernel_rfl, by kernel_rfl, by kernel_rfl, rfl, fun G => .cons (.int _ _ (by decide)) (.cons (.int _ _ (by decide)) (.cons (.int _ _ (by decide)) (.cons (.int _ _ (by decide)) (.nil _)))), by decide⟩
  fields := by
    intro k o s g h
    match k, h with
    | 0, h => cases h; exact ⟨by decide, sf56, _, Try.t23, .struct sf22, rfl, rfl, rfl, by kernel_rfl, rfl, Try.underlying23, rfl⟩
    | 1, h => cases h; exact ⟨by decide, sf56, _, Try.t3, .int .i64, rfl, rfl, rfl, by kernel_rfl, rfl, Try.underlying3, rfl⟩
    | k + 2, h => simp [ty57] at h
  places := fun fs h => by cases h; kernel_rfl
  eqs := fun _ => ⟨by kernel_rfl, fun G cs ds vs us b w h1 h2 h3 h4 => eq57.eq (by decide) G cs ds vs us b w h1 h2 h3 h4⟩
theorem ok59 : TyOk Try.prog 59 ty59 where
  u := Try.underlying59
  agg := rfl
  info := ⟨Try.t59, .nilFunc, by kernel_rfl, by kernel_rfl, by kernel_rfl, by kernel_rfl, rfl, fun G => .cons .nilF (.nil _), by decide⟩
  fields := fun k o s g h => by simp [ty59] at h
  places := fun fs h => by cases h
  eqs := fun h => absurd rfl h
theorem ok60 : TyOk Try.prog 60 ty60 where
  u := Try.underlying60
  agg := rfl
  info := ⟨Try.t60, .agg #[.nilFunc, .nilFunc, .nilFunc, .nilFunc], by kernel_rfl, by kernel_rfl, by kernel_rfl, by kernel_rfl, rfl, fun G => .cons .nilF (.cons .nilF (.cons .nilF (.cons .nilF (.nil _)))), by decide⟩
  fields := fun k o s g h => by simp [ty60] at h
  places := fun fs h => by cases h
  eqs := fun h => absurd rfl h
theorem ok61 : TyOk Try.prog 61 ty61 where
  u := Try.underlying61
  agg := rfl
  info := ⟨Try.t61, .nilFunc, by kernel_rfl, by kernel_rfl, by kernel_rfl, by kernel_rfl, rfl, fun G => .cons .nilF (.nil _), by decide⟩
  fields := fun k o s g h => by simp [ty61] at h
  places := fun fs h => by cases h
  eqs := fun h => absurd rfl h
theorem ok63 : TyOk Try.prog 63 ty63 where
  u := Try.underlying63
  agg := rfl
  info := ⟨Try.t63, .nilFunc, by kernel_rfl, by kernel_rfl, by kernel_rfl, by kernel_rfl, rfl, fun G => .cons .nilF (.nil _), by decide⟩
  fields := fun k o s g h => by simp [ty63] at h
  places := fun fs h => by cases h
  eqs := fun h => absurd rfl h
theorem ok65 : TyOk Try.prog 65 ty65 where
  u := Try.underlying65
  agg := rfl
  info := ⟨Try.t65, .nilFunc, by kernel_rfl, by kernel_rfl, by kernel_rfl, by kernel_rfl, rfl, fun G => .cons .nilF (.nil _), by decide⟩
  fields := fun k o s g h => by simp [ty65] at h
  places := fun fs h => by cases h
  eqs := fun h => absurd rfl h
theorem ok66 : TyOk Try.prog 66 ty66 where
  u := Try.underlying66
  agg := rfl
  info := ⟨Try.t66, .nilFunc, by kernel_rfl, by kernel_rfl, by kernel_rfl, by kernel_rfl, rfl, fun G => .cons .nilF (.nil _), by decide⟩
  fields := fun k o s g h => by simp [ty66] at h
  places := fun fs h => by cases h
  eqs := fun h => absurd rfl h
theorem ok67 : TyOk Try.prog 67 ty67 where
  u := Try.underlying67
  agg := rfl
  info := ⟨Try.t67, .nilFunc, by kernel_rfl, by kernel_rfl, by kernel_rfl, by kernel_rfl, rfl, fun G => .cons .nilF (.nil _), by decide⟩
  fields := fun k o s g h => by simp [ty67] at h
  places := fun fs h => by cases h
  eqs := fun h => absurd rfl h
theorem ok68 : TyOk Try.prog 68 ty68 where
  u := Try.underlying68
  agg := rfl
  info := ⟨Try.t68, .nilFunc, by kernel_rfl, by kernel_rfl, by kernel_rfl, by kernel_rfl, rfl, fun G => .cons .nilF (.nil _), by decide⟩
  fields := fun k o s g h => by simp [ty68] at h
  places := fun fs h => by cases h
  eqs := fun h => absurd rfl h
theorem ok69 : TyOk Try.prog 69 ty69 where
  u := Try.underlying69
  agg := rfl
  info := ⟨Try.t69, .nilFunc, by kernel_rfl, by kernel_rfl, by kernel_rfl, by kernel_rfl, rfl, fun G => .cons .nilF (.nil _), by decide⟩
  fields := fun k o s g h => by simp [ty69] at h
  places := fun fs h => by cases h
  eqs := fun h => absurd rfl h
theorem ok70 : TyOk Try.prog 70 ty70 where
  u := Try.underlying70
  agg := rfl
  info := ⟨Try.t70, .nilFunc, by kernel_rfl, by kernel_rfl, by kernel_rfl, by kernel_rfl, rfl, fun G => .cons .nilF (.nil _), by decide⟩
  fields := fun k o s g h => by simp [ty70] at h
  places := fun fs h => by cases h
  eqs := fun h => absurd rfl h
theorem ok71 : TyOk Try.prog 71 ty71 where
  u := Try.underlying71
  agg := rfl
  info := ⟨Try.t71, .nilFunc, by kernel_rfl, by kernel_rfl, by kernel_rfl, by kernel_rfl, rfl, fun G => .cons .nilF (.nil _), by decide⟩
  fields := fun k o s g h => by simp [ty71] at h
  places := fun fs h => by cases h
  eqs := fun h => absurd rfl h
theorem ok72 : TyOk Try.prog 72 ty72 where
  u := Try.underlying72
  agg := rfl
  info := ⟨Try.t72, .nilFunc, by kernel_rfl, by kernel_rfl, by kernel_rfl, by kernel_rfl, rfl, fun G => .cons .nilF (.nil _), by decide⟩
  fields := fun k o s g h => by simp [ty72] at h
  places := fun fs h => by cases h
  eqs := fun h => absurd rfl h
theorem ok73 : TyOk Try.prog 73 ty73 where
  u := Try.underlying73
  agg := rfl
  info := ⟨Try.t73, .nilFunc, by kernel_rfl, by kernel_rfl, by kernel_rfl, by kernel_rfl, rfl, fun G => .cons .nilF (.nil _), by decide⟩
  fields := fun k o s g h => by simp [ty73] at h
  places := fun fs h => by cases h
  eqs := fun h => absurd rfl h
theorem ok74 : TyOk Try.prog 74 ty74 where
  u := Try.underlying74
  agg := rfl
  info := ⟨Try.t74, .nilFunc, by kernel_rfl, by kernel_rfl, by kernel_rfl, by kernel_rfl, rfl, fun G => .cons .nilF (.nil _), by decide⟩
  fields := fun k o s g h => by simp [ty74] at h
  places := fun fs h => by cases h
  eqs := fun h => absurd rfl h
theorem ok75 : TyOk Try.prog 75 ty75 where
  u := Try.underlying75
  agg := rfl
  info := ⟨Try.t75, .nilFunc, by kernel_rfl, by kernel_rfl, by kernel_rfl, by kernel_rfl, rfl, fun G => .cons .nilF (.nil _), by decide⟩
  fields := fun k o s g h => by simp [ty75] at h
  places := fun fs h => by cases h
  eqs := fun h => absurd rfl h
theorem ok76 : TyOk Try.prog 76 ty76 where
  u := Try.underlying76
  agg := rfl
  info := ⟨Try.t76, .nilFunc, by kernel_rfl, by kernel_rfl, by kernel_rfl, by kernel_rfl, rfl, fun G => .cons .nilF (.nil _), by decide⟩
  fields := fun k o s g h => by simp [ty76] at h
  places := fun fs h => by cases h
  eqs := fun h => absurd rfl h
theorem ok77 : TyOk Try.prog 77 ty77 where
  u := Try.underlying77
  agg := rfl
  info := ⟨Try.t77, .nilFunc, by kernel_rfl, by kernel_rfl, by kernel_rfl, by kernel_rfl, rfl, fun G => .cons .nilF (.nil _), by decide⟩
  fields := fun k o s g h => by simp [ty77] at h
  places := fun fs h => by cases h
  eqs := fun h => absurd rfl h
theorem ok78 : TyOk Try.prog 78 ty78 where
  u := Try.underlying78
  agg := rfl
  info := ⟨Try.t78, .nilFunc, by kernel_rfl, by kernel_rfl, by kernel_rfl, by kernel_rfl, rfl, fun G => .cons .nilF (.nil _), by decide⟩
  fields := fun k o s g h => by simp [ty78] at h
  places := fun fs h => by cases h
  eqs := fun h => absurd rfl h
theorem ok79 : TyOk Try.prog 79 ty79 where
  u := Try.underlying79
  agg := rfl
  info := ⟨Try.t79, .nilFunc, by kernel_rfl, by kernel_rfl, by kernel_rfl, by kernel_rfl, rfl, fun G => .cons .nilF (.nil _), by decide⟩
  fields := fun k o s g h => by simp [ty79] at h
  places := fun fs h => by cases h
  eqs := fun h => absurd rfl h
theorem ok80 : TyOk Try.prog 80 ty80 where
  u := Try.underlying80
  agg := rfl
  info := ⟨Try.t80, .nilFunc, by kernel_rfl, by kernel_rfl, by kernel_rfl, by kernel_rfl, rfl, fun G => .cons .nilF (.nil _), by decide⟩
  fields := fun k o s g h => by simp [ty80] at h
  places := fun fs h => by cases h
  eqs := fun h => absurd rfl h
theorem ok81 : TyOk Try.prog 81 ty81 where
  u := Try.underlying81
  agg := rfl
  info := ⟨Try.t81, .nilFunc, by kernel_rfl, by kernel_rfl, by kernel_rfl, by kernel_rfl, rfl, fun G => .cons .nilF (.nil _), by decide⟩
  fields := fun k o s g h => by simp [ty81] at h
  places := fun fs h => by cases h
  eqs := fun h => absurd rfl h
theorem ok82 : TyOk Try.prog 82 ty82 where
  u := Try.underlying82
  agg := rfl
  info := ⟨Try.t82, .nilFunc, by kernel_rfl, by kernel_rfl, by kernel_rfl, by kernel_rfl, rfl, fun G => .cons .nilF (.nil _), by decide⟩
  fields := fun k o s g h => by simp [ty82] at h
  places := fun fs h => by cases h
  eqs := fun h => absurd rfl h
theorem ok83 : TyOk Try.prog 83 ty83 where
  u := Try.underlying83
  agg := rfl
  info := ⟨Try.t83, .nilFunc, by kernel_rfl, by kernel_rfl, by kernel_rfl, by kernel_rfl, rfl, fun G => .cons .nilF (.nil _), by decide⟩
  fields := fun k o s g h => by simp [ty83] at h
  places := fun fs h => by cases h
  eqs := fun h => absurd rfl h
theorem ok84 : TyOk Try.prog 84 ty84 where
  u := Try.underlying84
  agg := rfl
  info := ⟨Try.t84, .nilFunc, by kernel_rfl, by kernel_rfl, by kernel_rfl, by kernel_rfl, rfl, fun G => .cons .nilF (.nil _), by decide⟩
  fields := fun k o s g h => by simp [ty84] at h
  places := fun fs h => by cases h
  eqs := fun h => absurd rfl h
theorem ok85 : TyOk Try.prog 85 ty85 where
  u := Try.underlying85
  agg := rfl
  info := ⟨Try.t85, .nilFunc, by kernel_rfl, by kernel_rfl, by kernel_rfl, by kernel_rfl, rfl, fun G => .cons .nilF (.nil _), by decide⟩
  fields := fun k o s g h => by simp [ty85] at h
  places := fun fs h => by cases h
  eqs := fun h => absurd rfl h
theorem ok86 : TyOk Try.prog 86 ty86 where
  u := Try.underlying86
  agg := rfl
  info := ⟨Try.t86, .nilFunc, by kernel_rfl, by kernel_rfl, by kernel_rfl, by kernel_rfl, rfl, fun G => .cons .nilF (.nil _), by decide⟩
  fields := fun k o s g h => by simp [ty86] at h
  places := fun fs h => by cases h
  eqs := fun h => absurd rfl h
theorem ok87 : TyOk Try.prog 87 ty87 where
  u := Try.underlying87
  agg := rfl
  info := ⟨Try.t87, .agg #[.int .i64 0, .int .i64 0, .int .i64 0], by kernel_rfl, by kernel_rfl, by kernel_rfl, by kernel_rfl, rfl, fun G => .cons (.int _ _ (by decide)) (.cons (.int _ _ (by decide)) (.cons (.int _ _ (by decide)) (.nil _))), by decide⟩
  fields := by
    intro k o s g h
    match k, h with
    | 0, h => cases h; exact ⟨by decide, sf87, _, Try.t3, .int .i64, rfl, rfl, rfl, by kernel_rfl, rfl, Try.underlying3, rfl⟩
    | 1, h => cases h; exact ⟨by decide, sf87, _, Try.t3, .int .i64, rfl, rfl, rfl, by kernel_rfl, rfl, Try.underlying3, rfl⟩
    | 2, h => cases h; exact ⟨by decide, sf87, _, Try.t3, .int .i64, rfl, rfl, rfl, by kernel_rfl, rfl, Try.underlying3, rfl⟩
    | k + 3, h => simp [ty87] at h
  places := fun fs h => by cases h; kernel_rfl
  eqs := fun _ => ⟨by kernel_rfl, fun G cs ds vs us b w h1 h2 h3 h4 => eq87.eq (by decide) G cs ds vs us b w h1 h2 h3 h4⟩
theorem ok88 : TyOk Try.prog 88 ty88 where
  u := Try.underlying88
  agg := rfl
  info := ⟨Try.t88, .agg #[.int .i64 0, .int .i64 0, .int .i64 0], by kernel_rfl, by kernel_rfl, by kernel_rfl, by kernel_rfl, rfl, fun G => .cons (.int _ _ (by decide)) (.cons (.int _ _ (by decide)) (.cons (.int _ _ (by decide)) (.nil _))), by decide⟩
  fields := by
    intro k o s g h
    match k, h with
    | 0, h => cases h; exact ⟨by decide, sf87, _, Try.t3, .int .i64, rfl, rfl, rfl, by kernel_rfl, rfl, Try.underlying3, rfl⟩
    | 1, h => cases h; exact ⟨by decide, sf87, _, Try.t3, .int .i64, rfl, rfl, rfl, by kernel_rfl, rfl, Try.underlying3, rfl⟩
    | 2, h => cases h; exact ⟨by decide, sf87, _, Try.t3, .int .i64, rfl, rfl, rfl, by kernel_rfl, rfl, Try.underlying3, rfl⟩
    | k + 3, h => simp [ty88] at h
  places := fun fs h => by cases h; kernel_rfl
  eqs := fun _ => ⟨by kernel_rfl, fun G cs ds vs us b w h1 h2 h3 h4 => eq88.eq (by decide) G cs ds vs us b w h1 h2 h3 h4⟩
theorem ok89 : TyOk Try.prog 89 ty89 where
  u := Try.underlying89
  agg := rfl
  info := ⟨Try.t89, .agg #[.string ByteArray.empty, .int .i64 0, .int .i64 0, .int .i64 0], by kernel_rfl, by kernel_rfl, by kernel_rfl, by kernel_rfl, rfl, fun G => .cons (.str _ (by decide)) (.cons (.int _ _ (by decide)) (.cons (.int _ _ (by decide)) (.cons (.int _ _ (by decide)) (.nil _)))), by decide⟩
  fields := by
    intro k o s g h
    match k, h with
    | 0, h => cases h; exact ⟨by decide, sf89, _, Try.t9, .string, rfl, rfl, rfl, by kernel_rfl, rfl, Try.underlying9, rfl⟩
    | 1, h => cases h; exact ⟨by decide, sf89, _, Try.t88, .struct sf87, rfl, rfl, rfl, by kernel_rfl, rfl, Try.underlying88, rfl⟩
    | k + 2, h => simp [ty89] at h
  places := fun fs h => by cases h; kernel_rfl
  eqs := fun _ => ⟨by kernel_rfl, fun G cs ds vs us b w h1 h2 h3 h4 => eq89.eq (by decide) G cs ds vs us b w h1 h2 h3 h4⟩
theorem ok90 : TyOk Try.prog 90 ty90 where
  u := Try.underlying90
  agg := rfl
  info := ⟨Try.t90, .agg #[.string ByteArray.empty, .int .i64 0, .int .i64 0, .int .i64 0], by kernel_rfl, by kernel_rfl, by kernel_rfl, by kernel_rfl, rfl, fun G => .cons (.str _ (by decide)) (.cons (.int _ _ (by decide)) (.cons (.int _ _ (by decide)) (.cons (.int _ _ (by decide)) (.nil _)))), by decide⟩
  fields := by
    intro k o s g h
    match k, h with
    | 0, h => cases h; exact ⟨by decide, sf89, _, Try.t9, .string, rfl, rfl, rfl, by kernel_rfl, rfl, Try.underlying9, rfl⟩
    | 1, h => cases h; exact ⟨by decide, sf89, _, Try.t88, .struct sf87, rfl, rfl, rfl, by kernel_rfl, rfl, Try.underlying88, rfl⟩
    | k + 2, h => simp [ty90] at h
  places := fun fs h => by cases h; kernel_rfl
  eqs := fun _ => ⟨by kernel_rfl, fun G cs ds vs us b w h1 h2 h3 h4 => eq90.eq (by decide) G cs ds vs us b w h1 h2 h3 h4⟩
theorem ok91 : TyOk Try.prog 91 ty91 where
  u := Try.underlying91
  agg := rfl
  info := ⟨Try.t91, .nilFunc, by kernel_rfl, by kernel_rfl, by kernel_rfl, by kernel_rfl, rfl, fun G => .cons .nilF (.nil _), by decide⟩
  fields := fun k o s g h => by simp [ty91] at h
  places := fun fs h => by cases h
  eqs := fun h => absurd rfl h
theorem ok92 : TyOk Try.prog 92 ty92 where
  u := Try.underlying92
  agg := rfl
  info := ⟨Try.t92, .nilFunc, by kernel_rfl, by kernel_rfl, by kernel_rfl, by kernel_rfl, rfl, fun G => .cons .nilF (.nil _), by decide⟩
  fields := fun k o s g h => by simp [ty92] at h
  places := fun fs h => by cases h
  eqs := fun h => absurd rfl h
theorem ok93 : TyOk Try.prog 93 ty93 where
  u := Try.underlying93
  agg := rfl
  info := ⟨Try.t93, .nilFunc, by kernel_rfl, by kernel_rfl, by kernel_rfl, by kernel_rfl, rfl, fun G => .cons .nilF (.nil _), by decide⟩
  fields := fun k o s g h => by simp [ty93] at h
  places := fun fs h => by cases h
  eqs := fun h => absurd rfl h
theorem ok94 : TyOk Try.prog 94 ty94 where
  u := Try.underlying94
  agg := rfl
  info := ⟨Try.t94, .nilFunc, by kernel_rfl, by kernel_rfl, by kernel_rfl, by kernel_rfl, rfl, fun G => .cons .nilF (.nil _), by decide⟩
  fields := fun k o s g h => by simp [ty94] at h
  places := fun fs h => by cases h
  eqs := fun h => absurd rfl h
theorem ok95 : TyOk Try.prog 95 ty95 where
  u := Try.underlying95
  agg := rfl
  info := ⟨Try.t95, .nilFunc, by kernel_rfl, by kernel_rfl, by kernel_rfl, by kernel_rfl, rfl, fun G => .cons .nilF (.nil _), by decide⟩
  fields := fun k o s g h => by simp [ty95] at h
  places := fun fs h => by cases h
  eqs := fun h => absurd rfl h
theorem ok97 : TyOk Try.prog 97 ty97 where
  u := Try.underlying97
  agg := rfl
  info := ⟨Try.t97, .nilFunc, by kernel_rfl, by kernel_rfl, by kernel_rfl, by kernel_rfl, rfl, fun G => .cons .nilF (.nil _), by decide⟩
  fields := fun k o s g h => by simp [ty97] at h
  places := fun fs h => by cases h
  eqs := fun h => absurd rfl h
theorem ok98 : TyOk Try.prog 98 ty98 where
  u := Try.underlying98
  agg := rfl
  info := ⟨Try.t98, .nilFunc, by kernel_rfl, by kernel_rfl, by kernel_rfl, by kernel_rfl, rfl, fun G => .cons .nilF (.nil _), by decide⟩
  fields := fun k o s g h => by simp [ty98] at h
  places := fun fs h => by cases h
  eqs := fun h => absurd rfl h
theorem ok99 : TyOk Try.prog 99 ty99 where
  u := Try.underlying99
  agg := rfl
  info := ⟨Try.t99, .nilFunc, by kernel_rfl, by kernel_rfl, by kernel_rfl, by kernel_rfl, rfl, fun G => .cons .nilF (.nil _), by decide⟩
  fields := fun k o s g h => by simp [ty99] at h
  places := fun fs h => by cases h
  eqs := fun h => absurd rfl h
theorem ok100 : TyOk Try.prog 100 ty100 where
  u := Try.underlying100
  agg := rfl
  info := ⟨Try.t100, .nilFunc, by kernel_rfl, by kernel_rfl, by kernel_rfl, by kernel_rfl, rfl, fun G => .cons .nilF (.nil _), by decide⟩
  fields := fun k o s g h => by simp [ty100] at h
  places := fun fs h => by cases h
  eqs := fun h => absurd rfl h
theorem ok101 : TyOk Try.prog 101 ty101 where
  u := Try.underlying101
  agg := rfl
  info := ⟨Try.t101, .nilFunc, by kernel_rfl, by kernel_rfl, by kernel_rfl, by kernel_rfl, rfl, fun G => .cons .nilF (.nil _), by decide⟩
  fields := fun k o s g h => by simp [ty101] at h
  places := fun fs h => by cases h
  eqs := fun h => absurd rfl h
theorem ok102 : TyOk Try.prog 102 ty102 where
  u := Try.underlying102
  agg := rfl
  info := ⟨Try.t102, .nilFunc, by kernel_rfl, by kernel_rfl, by kernel_rfl, by kernel_rfl, rfl, fun G => .cons .nilF (.nil _), by decide⟩
  fields := fun k o s g h => by simp [ty102] at h
  places := fun fs h => by cases h
  eqs := fun h => absurd rfl h
theorem ok103 : TyOk Try.prog 103 ty103 where
  u := Try.underlying103
  agg := rfl
  info := ⟨Try.t103, .nilFunc, by kernel_rfl, by kernel_rfl, by kernel_rfl, by kernel_rfl, rfl, fun G => .cons .nilF (.nil _), by decide⟩
  fields := fun k o s g h => by simp [ty103] at h
  places := fun fs h => by cases h
  eqs := fun h => absurd rfl h
theorem ok104 : TyOk Try.prog 104 ty104 where
  u := Try.underlying104
  agg := rfl
  info := ⟨Try.t104, .nilFunc, by kernel_rfl, by kernel_rfl, by kernel_rfl, by kernel_rfl, rfl, fun G => .cons .nilF (.nil _), by decide⟩
  fields := fun k o s g h => by simp [ty104] at h
  places := fun fs h => by cases h
  eqs := fun h => absurd rfl h
theorem ok107 : TyOk Try.prog 107 ty107 where
  u := Try.underlying107
  agg := rfl
  info := ⟨Try.t107, .agg #[], by kernel_rfl, by kernel_rfl, by kernel_rfl, by kernel_rfl, rfl, fun G => .nil _, by decide⟩
  fields := fun k o s g h => by simp [ty107] at h
  places := fun fs h => by cases h
  eqs := fun h => absurd rfl h
theorem ok110 : TyOk Try.prog 110 ty110 where
  u := Try.underlying110
  agg := rfl
  info := ⟨Try.t110, .nilFunc, by kernel_rfl, by kernel_rfl, by kernel_rfl, by kernel_rfl, rfl, fun G => .cons .nilF (.nil _), by decide⟩
  fields := fun k o s g h => by simp [ty110] at h
  places := fun fs h => by cases h
  eqs := fun h => absurd rfl h
theorem ok111 : TyOk Try.prog 111 ty111 where
  u := Try.underlying111
  agg := rfl
  info := ⟨Try.t111, .int .u32 0, by kernel_rfl, by kernel_rfl, by kernel_rfl, by kernel_rfl, rfl, fun G => .cons (.int _ _ (by decide)) (.nil _), by decide⟩
  fields := fun k o s g h => by simp [ty111] at h
  places := fun fs h => by cases h
  eqs := fun _ => ⟨by kernel_rfl, fun G cs ds vs us b w h1 h2 h3 h4 => eq111.eq (by decide) G cs ds vs us b w h1 h2 h3 h4⟩
theorem ok114 : TyOk Try.prog 114 ty114 where
  u := Try.underlying114
  agg := rfl
  info := ⟨Try.t114, .nilFunc, by kernel_rfl, by kernel_rfl, by kernel_rfl, by kernel_rfl, rfl, fun G => .cons .nilF (.nil _), by decide⟩
  fields := fun k o s g h => by simp [ty114] at h
  places := fun fs h => by cases h
  eqs := fun h => absurd rfl h
theorem ok115 : TyOk Try.prog 115 ty115 where
  u := Try.underlying115
  agg := rfl
  info := ⟨Try.t115, .pointer none, by kernel_rfl, by kernel_rfl, by kernel_rfl, by kernel_rfl, rfl, fun G => .cons .nilP (.nil _), by decide⟩
  fields := fun k o s g h => by simp [ty115] at h
  places := fun fs h => by cases h
  eqs := fun h => absurd rfl h
theorem ttOk : TtOk Try.prog tt := by
  intro t i h
  unfold tt at h
  split at h
  · cases h; exact ok1
  · cases h; exact ok2
  · cases h; exact ok3
  · cases h; exact ok4
  · cases h; exact ok5
  · cases h; exact ok9
  · cases h; exact ok12
  · cases h; exact ok16
  · cases h; exact ok21
  · cases h; exact ok22
  · cases h; exact ok23
  · cases h; exact ok24
  · cases h; exact ok25
  · cases h; exact ok26
  · cases h; exact ok27
  · cases h; exact ok28
  · cases h; exact ok29
  · cases h; exact ok30
  · cases h; exact ok31
  · cases h; exact ok32
  · cases h; exact ok33
  · cases h; exact ok34
  · cases h; exact ok35
  · cases h; exact ok36
  · cases h; exact ok37
  · cases h; exact ok38
  · cases h; exact ok40
  · cases h; exact ok41
  · cases h; exact ok43
  · cases h; exact ok44
  · cases h; exact ok45
  · cases h; exact ok46
  · cases h; exact ok47
  · cases h; exact ok48
  · cases h; exact ok49
  · cases h; exact ok50
  · cases h; exact ok51
  · cases h; exact ok52
  · cases h; exact ok53
  · cases h; exact ok54
  · cases h; exact ok55
  · cases h; exact ok56
  · cases h; exact ok57
  · cases h; exact ok59
  · cases h; exact ok60
  · cases h; exact ok61
  · cases h; exact ok63
  · cases h; exact ok65
  · cases h; exact ok66
  · cases h; exact ok67
  · cases h; exact ok68
  · cases h; exact ok69
  · cases h; exact ok70
  · cases h; exact ok71
  · cases h; exact ok72
  · cases h; exact ok73
  · cases h; exact ok74
  · cases h; exact ok75
  · cases h; exact ok76
  · cases h; exact ok77
  · cases h; exact ok78
  · cases h; exact ok79
  · cases h; exact ok80
  · cases h; exact ok81
  · cases h; exact ok82
  · cases h; exact ok83
  · cases h; exact ok84
  · cases h; exact ok85
  · cases h; exact ok86
  · cases h; exact ok87
  · cases h; exact ok88
  · cases h; exact ok89
  · cases h; exact ok90
  · cases h; exact ok91
  · cases h; exact ok92
  · cases h; exact ok93
  · cases h; exact ok94
  · cases h; exact ok95
  · cases h; exact ok97
  · cases h; exact ok98
  · cases h; exact ok99
  · cases h; exact ok100
  · cases h; exact ok101
  · cases h; exact ok102
  · cases h; exact ok103
  · cases h; exact ok104
  · cases h; exact ok107
  · cases h; exact ok110
  · cases h; exact ok111
  · cases h; exact ok114
  · cases h; exact ok115
  · cases h
theorem mixed : Try.prog.follows .mixedOrders = true := by kernel_rfl
end Go.Ai.Try
