/- The types of this seat, as the walks ask for them. Printed by a program of this session out of the loaded program. -/
import Derived.Test.YtibeiamihdbahabSlc
import Derived.Test.YtibeiamihdbahabProg
namespace Go.Proofs.Ytibeiamihdbahab
def ti1 : TI := { desc := TypeDesc.func #[] #[] false, size := 1, bytes := 8, zero := .nilFunc }
theorem tk1 : ti1.ok Try.prog 1 := ⟨by kernel_rfl, by kernel_rfl⟩
def ti2 : TI := { desc := TypeDesc.int IntKind.i64, size := 1, bytes := 8, zero := .int .i64 0 }
theorem tk2 : ti2.ok Try.prog 2 := ⟨by kernel_rfl, by kernel_rfl⟩
def ti3 : TI := { desc := TypeDesc.int IntKind.i64, size := 1, bytes := 8, zero := .int .i64 0 }
theorem tk3 : ti3.ok Try.prog 3 := ⟨by kernel_rfl, by kernel_rfl⟩
def ti4 : TI := { desc := TypeDesc.bool, size := 1, bytes := 1, zero := .bool false }
theorem tk4 : ti4.ok Try.prog 4 := ⟨by kernel_rfl, by kernel_rfl⟩
def ti5 : TI := { desc := TypeDesc.int IntKind.u8, size := 1, bytes := 1, zero := .int .u8 0 }
theorem tk5 : ti5.ok Try.prog 5 := ⟨by kernel_rfl, by kernel_rfl⟩
def ti6 : TI := { desc := TypeDesc.int IntKind.u8, size := 1, bytes := 1, zero := .int .u8 0 }
theorem tk6 : ti6.ok Try.prog 6 := ⟨by kernel_rfl, by kernel_rfl⟩
def ti7 : TI := { desc := TypeDesc.struct #[{ name := "x", type := 2, offset := 0, embedded := false, tag := "", pkgPath := "runtime", byteOffset := 0 }, { name := "y", type := 3, offset := 1, embedded := false, tag := "", pkgPath := "runtime", byteOffset := 8 }, { name := "signed", type := 4, offset := 2, embedded := false, tag := "", pkgPath := "runtime", byteOffset := 16 }, { name := "code", type := 6, offset := 3, embedded := false, tag := "", pkgPath := "runtime", byteOffset := 17 }], size := 4, bytes := 24, zero := .agg #[.int .i64 0, .int .i64 0, .bool false, .int .u8 0] }
theorem tk7 : ti7.ok Try.prog 7 := ⟨by kernel_rfl, by kernel_rfl⟩
def ti8 : TI := { desc := TypeDesc.struct #[{ name := "x", type := 2, offset := 0, embedded := false, tag := "", pkgPath := "runtime", byteOffset := 0 }, { name := "y", type := 3, offset := 1, embedded := false, tag := "", pkgPath := "runtime", byteOffset := 8 }, { name := "signed", type := 4, offset := 2, embedded := false, tag := "", pkgPath := "runtime", byteOffset := 16 }, { name := "code", type := 6, offset := 3, embedded := false, tag := "", pkgPath := "runtime", byteOffset := 17 }], size := 4, bytes := 24, zero := .agg #[.int .i64 0, .int .i64 0, .bool false, .int .u8 0] }
theorem tk8 : ti8.ok Try.prog 8 := ⟨by kernel_rfl, by kernel_rfl⟩
def ti9 : TI := { desc := TypeDesc.string, size := 1, bytes := 16, zero := .string (str []) }
theorem tk9 : ti9.ok Try.prog 9 := ⟨by kernel_rfl, by kernel_rfl⟩
def ti10 : TI := { desc := TypeDesc.string, size := 1, bytes := 16, zero := .string (str []) }
theorem tk10 : ti10.ok Try.prog 10 := ⟨by kernel_rfl, by kernel_rfl⟩
def ti11 : TI := { desc := TypeDesc.string, size := 1, bytes := 16, zero := .string (str []) }
theorem tk11 : ti11.ok Try.prog 11 := ⟨by kernel_rfl, by kernel_rfl⟩
def ti12 : TI := { desc := TypeDesc.int IntKind.u64, size := 1, bytes := 8, zero := .int .u64 0 }
theorem tk12 : ti12.ok Try.prog 12 := ⟨by kernel_rfl, by kernel_rfl⟩
def ti13 : TI := { desc := TypeDesc.struct #[{ name := "msg", type := 9, offset := 0, embedded := false, tag := "", pkgPath := "runtime", byteOffset := 0 }, { name := "addr", type := 12, offset := 1, embedded := false, tag := "", pkgPath := "runtime", byteOffset := 16 }], size := 2, bytes := 24, zero := .agg #[.string (str []), .int .u64 0] }
theorem tk13 : ti13.ok Try.prog 13 := ⟨by kernel_rfl, by kernel_rfl⟩
def ti14 : TI := { desc := TypeDesc.struct #[{ name := "msg", type := 9, offset := 0, embedded := false, tag := "", pkgPath := "runtime", byteOffset := 0 }, { name := "addr", type := 12, offset := 1, embedded := false, tag := "", pkgPath := "runtime", byteOffset := 16 }], size := 2, bytes := 24, zero := .agg #[.string (str []), .int .u64 0] }
theorem tk14 : ti14.ok Try.prog 14 := ⟨by kernel_rfl, by kernel_rfl⟩
def ti15 : TI := { desc := TypeDesc.pointer 119, size := 1, bytes := 8, zero := .pointer none }
theorem tk15 : ti15.ok Try.prog 15 := ⟨by kernel_rfl, by kernel_rfl⟩
def ti16 : TI := { desc := TypeDesc.pointer 122, size := 1, bytes := 8, zero := .pointer none }
theorem tk16 : ti16.ok Try.prog 16 := ⟨by kernel_rfl, by kernel_rfl⟩
def ti17 : TI := { desc := TypeDesc.pointer 129, size := 1, bytes := 8, zero := .pointer none }
theorem tk17 : ti17.ok Try.prog 17 := ⟨by kernel_rfl, by kernel_rfl⟩
def ti18 : TI := { desc := TypeDesc.struct #[{ name := "typ", type := 17, offset := 0, embedded := false, tag := "", pkgPath := "internal/runtime/maps", byteOffset := 0 }], size := 1, bytes := 8, zero := .agg #[.pointer none] }
theorem tk18 : ti18.ok Try.prog 18 := ⟨by kernel_rfl, by kernel_rfl⟩
def ti19 : TI := { desc := TypeDesc.struct #[{ name := "typ", type := 17, offset := 0, embedded := false, tag := "", pkgPath := "internal/runtime/maps", byteOffset := 0 }], size := 1, bytes := 8, zero := .agg #[.pointer none] }
theorem tk19 : ti19.ok Try.prog 19 := ⟨by kernel_rfl, by kernel_rfl⟩
def ti20 : TI := { desc := TypeDesc.interface #[], size := 1, bytes := 16, zero := .nilIface }
theorem tk20 : ti20.ok Try.prog 20 := ⟨by kernel_rfl, by kernel_rfl⟩
def ti21 : TI := { desc := TypeDesc.int IntKind.i32, size := 1, bytes := 4, zero := .int .i32 0 }
theorem tk21 : ti21.ok Try.prog 21 := ⟨by kernel_rfl, by kernel_rfl⟩
def ti22 : TI := { desc := TypeDesc.slice 27, size := 1, bytes := 24, zero := .slice none 0 0 }
theorem tk22 : ti22.ok Try.prog 22 := ⟨by kernel_rfl, by kernel_rfl⟩
def ti23 : TI := { desc := TypeDesc.int IntKind.i64, size := 1, bytes := 8, zero := .int .i64 0 }
theorem tk23 : ti23.ok Try.prog 23 := ⟨by kernel_rfl, by kernel_rfl⟩
def ti25 : TI := { desc := TypeDesc.func #[27] #[9, 23] false, size := 1, bytes := 8, zero := .nilFunc }
theorem tk25 : ti25.ok Try.prog 25 := ⟨by kernel_rfl, by kernel_rfl⟩
def ti26 : TI := { desc := TypeDesc.struct #[{ name := "Kind", type := 3, offset := 0, embedded := false, tag := "", pkgPath := "", byteOffset := 0 }, { name := "Time", type := 3, offset := 1, embedded := false, tag := "", pkgPath := "", byteOffset := 8 }, { name := "Text", type := 9, offset := 2, embedded := false, tag := "", pkgPath := "", byteOffset := 16 }], size := 3, bytes := 32, zero := .agg #[.int .i64 0, .int .i64 0, .string (str [])] }
theorem tk26 : ti26.ok Try.prog 26 := ⟨by kernel_rfl, by kernel_rfl⟩
def ti27 : TI := { desc := TypeDesc.struct #[{ name := "Kind", type := 3, offset := 0, embedded := false, tag := "", pkgPath := "", byteOffset := 0 }, { name := "Time", type := 3, offset := 1, embedded := false, tag := "", pkgPath := "", byteOffset := 8 }, { name := "Text", type := 9, offset := 2, embedded := false, tag := "", pkgPath := "", byteOffset := 16 }], size := 3, bytes := 32, zero := .agg #[.int .i64 0, .int .i64 0, .string (str [])] }
theorem tk27 : ti27.ok Try.prog 27 := ⟨by kernel_rfl, by kernel_rfl⟩
def ti28 : TI := { desc := TypeDesc.func #[22] #[9, 23] true, size := 1, bytes := 8, zero := .nilFunc }
theorem tk28 : ti28.ok Try.prog 28 := ⟨by kernel_rfl, by kernel_rfl⟩
def ti30 : TI := { desc := TypeDesc.func #[9] #[22, 3, 23] false, size := 1, bytes := 8, zero := .nilFunc }
theorem tk30 : ti30.ok Try.prog 30 := ⟨by kernel_rfl, by kernel_rfl⟩
def ti31 : TI := { desc := TypeDesc.func #[22, 22] #[4] false, size := 1, bytes := 8, zero := .nilFunc }
theorem tk31 : ti31.ok Try.prog 31 := ⟨by kernel_rfl, by kernel_rfl⟩
def ti32 : TI := { desc := TypeDesc.func #[22, 9] #[4] false, size := 1, bytes := 8, zero := .nilFunc }
theorem tk32 : ti32.ok Try.prog 32 := ⟨by kernel_rfl, by kernel_rfl⟩
def ti33 : TI := { desc := TypeDesc.struct #[{ name := "Kind", type := 3, offset := 0, embedded := false, tag := "", pkgPath := "", byteOffset := 0 }, { name := "Bound", type := 3, offset := 1, embedded := false, tag := "", pkgPath := "", byteOffset := 8 }, { name := "Percent", type := 3, offset := 2, embedded := false, tag := "", pkgPath := "", byteOffset := 16 }, { name := "Window", type := 3, offset := 3, embedded := false, tag := "", pkgPath := "", byteOffset := 24 }, { name := "Sign", type := 3, offset := 4, embedded := false, tag := "", pkgPath := "", byteOffset := 32 }], size := 5, bytes := 40, zero := .agg #[.int .i64 0, .int .i64 0, .int .i64 0, .int .i64 0, .int .i64 0] }
theorem tk33 : ti33.ok Try.prog 33 := ⟨by kernel_rfl, by kernel_rfl⟩
def ti34 : TI := { desc := TypeDesc.struct #[{ name := "Kind", type := 3, offset := 0, embedded := false, tag := "", pkgPath := "", byteOffset := 0 }, { name := "Bound", type := 3, offset := 1, embedded := false, tag := "", pkgPath := "", byteOffset := 8 }, { name := "Percent", type := 3, offset := 2, embedded := false, tag := "", pkgPath := "", byteOffset := 16 }, { name := "Window", type := 3, offset := 3, embedded := false, tag := "", pkgPath := "", byteOffset := 24 }, { name := "Sign", type := 3, offset := 4, embedded := false, tag := "", pkgPath := "", byteOffset := 32 }], size := 5, bytes := 40, zero := .agg #[.int .i64 0, .int .i64 0, .int .i64 0, .int .i64 0, .int .i64 0] }
theorem tk34 : ti34.ok Try.prog 34 := ⟨by kernel_rfl, by kernel_rfl⟩
def ti35 : TI := { desc := TypeDesc.struct #[{ name := "now", type := 3, offset := 0, embedded := false, tag := "", pkgPath := "tidewaiter/clock", byteOffset := 0 }], size := 1, bytes := 8, zero := .agg #[.int .i64 0] }
theorem tk35 : ti35.ok Try.prog 35 := ⟨by kernel_rfl, by kernel_rfl⟩
def ti36 : TI := { desc := TypeDesc.struct #[{ name := "now", type := 3, offset := 0, embedded := false, tag := "", pkgPath := "tidewaiter/clock", byteOffset := 0 }], size := 1, bytes := 8, zero := .agg #[.int .i64 0] }
theorem tk36 : ti36.ok Try.prog 36 := ⟨by kernel_rfl, by kernel_rfl⟩
def ti37 : TI := { desc := TypeDesc.interface #[("Now", 44), ("Seen", 43)], size := 1, bytes := 16, zero := .nilIface }
theorem tk37 : ti37.ok Try.prog 37 := ⟨by kernel_rfl, by kernel_rfl⟩
def ti38 : TI := { desc := TypeDesc.interface #[("Now", 44), ("Seen", 43)], size := 1, bytes := 16, zero := .nilIface }
theorem tk38 : ti38.ok Try.prog 38 := ⟨by kernel_rfl, by kernel_rfl⟩
def ti40 : TI := { desc := TypeDesc.func #[34] #[38, 23] false, size := 1, bytes := 8, zero := .nilFunc }
theorem tk40 : ti40.ok Try.prog 40 := ⟨by kernel_rfl, by kernel_rfl⟩
def ti41 : TI := { desc := TypeDesc.func #[3] #[4] false, size := 1, bytes := 8, zero := .nilFunc }
theorem tk41 : ti41.ok Try.prog 41 := ⟨by kernel_rfl, by kernel_rfl⟩
def ti42 : TI := { desc := TypeDesc.func #[34] #[3] false, size := 1, bytes := 8, zero := .nilFunc }
theorem tk42 : ti42.ok Try.prog 42 := ⟨by kernel_rfl, by kernel_rfl⟩
def ti43 : TI := { desc := TypeDesc.func #[27] #[] false, size := 1, bytes := 8, zero := .nilFunc }
theorem tk43 : ti43.ok Try.prog 43 := ⟨by kernel_rfl, by kernel_rfl⟩
def ti44 : TI := { desc := TypeDesc.func #[] #[3] false, size := 1, bytes := 8, zero := .nilFunc }
theorem tk44 : ti44.ok Try.prog 44 := ⟨by kernel_rfl, by kernel_rfl⟩
def ti45 : TI := { desc := TypeDesc.func #[34, 22] #[3] false, size := 1, bytes := 8, zero := .nilFunc }
theorem tk45 : ti45.ok Try.prog 45 := ⟨by kernel_rfl, by kernel_rfl⟩
def ti46 : TI := { desc := TypeDesc.func #[34, 22, 22] #[4] false, size := 1, bytes := 8, zero := .nilFunc }
theorem tk46 : ti46.ok Try.prog 46 := ⟨by kernel_rfl, by kernel_rfl⟩
def ti47 : TI := { desc := TypeDesc.slice 5, size := 1, bytes := 24, zero := .slice none 0 0 }
theorem tk47 : ti47.ok Try.prog 47 := ⟨by kernel_rfl, by kernel_rfl⟩
def ti48 : TI := { desc := TypeDesc.func #[47, 3] #[47] false, size := 1, bytes := 8, zero := .nilFunc }
theorem tk48 : ti48.ok Try.prog 48 := ⟨by kernel_rfl, by kernel_rfl⟩
def ti49 : TI := { desc := TypeDesc.func #[47, 50] #[47] false, size := 1, bytes := 8, zero := .nilFunc }
theorem tk49 : ti49.ok Try.prog 49 := ⟨by kernel_rfl, by kernel_rfl⟩
def ti50 : TI := { desc := TypeDesc.int IntKind.u64, size := 1, bytes := 8, zero := .int .u64 0 }
theorem tk50 : ti50.ok Try.prog 50 := ⟨by kernel_rfl, by kernel_rfl⟩
def ti51 : TI := { desc := TypeDesc.pointer 82, size := 1, bytes := 8, zero := .pointer none }
theorem tk51 : ti51.ok Try.prog 51 := ⟨by kernel_rfl, by kernel_rfl⟩
def ti52 : TI := { desc := TypeDesc.func #[] #[51] false, size := 1, bytes := 8, zero := .nilFunc }
theorem tk52 : ti52.ok Try.prog 52 := ⟨by kernel_rfl, by kernel_rfl⟩
def ti53 : TI := { desc := TypeDesc.func #[9] #[9] false, size := 1, bytes := 8, zero := .nilFunc }
theorem tk53 : ti53.ok Try.prog 53 := ⟨by kernel_rfl, by kernel_rfl⟩
def ti54 : TI := { desc := TypeDesc.pointer 56, size := 1, bytes := 8, zero := .pointer none }
theorem tk54 : ti54.ok Try.prog 54 := ⟨by kernel_rfl, by kernel_rfl⟩
def ti55 : TI := { desc := TypeDesc.struct #[{ name := "addr", type := 54, offset := 0, embedded := false, tag := "", pkgPath := "strings", byteOffset := 0 }, { name := "buf", type := 47, offset := 1, embedded := false, tag := "", pkgPath := "strings", byteOffset := 8 }], size := 2, bytes := 32, zero := .agg #[.pointer none, .slice none 0 0] }
theorem tk55 : ti55.ok Try.prog 55 := ⟨by kernel_rfl, by kernel_rfl⟩
def ti56 : TI := { desc := TypeDesc.struct #[{ name := "addr", type := 54, offset := 0, embedded := false, tag := "", pkgPath := "strings", byteOffset := 0 }, { name := "buf", type := 47, offset := 1, embedded := false, tag := "", pkgPath := "strings", byteOffset := 8 }], size := 2, bytes := 32, zero := .agg #[.pointer none, .slice none 0 0] }
theorem tk56 : ti56.ok Try.prog 56 := ⟨by kernel_rfl, by kernel_rfl⟩
def ti57 : TI := { desc := TypeDesc.interface #[("Error", 61)], size := 1, bytes := 16, zero := .nilIface }
theorem tk57 : ti57.ok Try.prog 57 := ⟨by kernel_rfl, by kernel_rfl⟩
def ti58 : TI := { desc := TypeDesc.interface #[("Error", 61)], size := 1, bytes := 16, zero := .nilIface }
theorem tk58 : ti58.ok Try.prog 58 := ⟨by kernel_rfl, by kernel_rfl⟩
def ti60 : TI := { desc := TypeDesc.func #[9] #[3, 58] false, size := 1, bytes := 8, zero := .nilFunc }
theorem tk60 : ti60.ok Try.prog 60 := ⟨by kernel_rfl, by kernel_rfl⟩
def ti61 : TI := { desc := TypeDesc.func #[] #[9] false, size := 1, bytes := 8, zero := .nilFunc }
theorem tk61 : ti61.ok Try.prog 61 := ⟨by kernel_rfl, by kernel_rfl⟩
def ti63 : TI := { desc := TypeDesc.func #[9] #[27, 3, 23] false, size := 1, bytes := 8, zero := .nilFunc }
theorem tk63 : ti63.ok Try.prog 63 := ⟨by kernel_rfl, by kernel_rfl⟩
def ti64 : TI := { desc := TypeDesc.func #[34] #[23] false, size := 1, bytes := 8, zero := .nilFunc }
theorem tk64 : ti64.ok Try.prog 64 := ⟨by kernel_rfl, by kernel_rfl⟩
def ti66 : TI := { desc := TypeDesc.func #[3] #[65] false, size := 1, bytes := 8, zero := .nilFunc }
theorem tk66 : ti66.ok Try.prog 66 := ⟨by kernel_rfl, by kernel_rfl⟩
def ti68 : TI := { desc := TypeDesc.func #[3, 3] #[67] false, size := 1, bytes := 8, zero := .nilFunc }
theorem tk68 : ti68.ok Try.prog 68 := ⟨by kernel_rfl, by kernel_rfl⟩
def ti70 : TI := { desc := TypeDesc.func #[3] #[69] false, size := 1, bytes := 8, zero := .nilFunc }
theorem tk70 : ti70.ok Try.prog 70 := ⟨by kernel_rfl, by kernel_rfl⟩
def ti71 : TI := { desc := TypeDesc.pointer 36, size := 1, bytes := 8, zero := .pointer none }
theorem tk71 : ti71.ok Try.prog 71 := ⟨by kernel_rfl, by kernel_rfl⟩
def ti72 : TI := { desc := TypeDesc.func #[3, 3] #[3] false, size := 1, bytes := 8, zero := .nilFunc }
theorem tk72 : ti72.ok Try.prog 72 := ⟨by kernel_rfl, by kernel_rfl⟩
def ti73 : TI := { desc := TypeDesc.slice 3, size := 1, bytes := 24, zero := .slice none 0 0 }
theorem tk73 : ti73.ok Try.prog 73 := ⟨by kernel_rfl, by kernel_rfl⟩
def ti74 : TI := { desc := TypeDesc.func #[9, 3] #[4] false, size := 1, bytes := 8, zero := .nilFunc }
theorem tk74 : ti74.ok Try.prog 74 := ⟨by kernel_rfl, by kernel_rfl⟩
def ti75 : TI := { desc := TypeDesc.func #[73, 3] #[3] false, size := 1, bytes := 8, zero := .nilFunc }
theorem tk75 : ti75.ok Try.prog 75 := ⟨by kernel_rfl, by kernel_rfl⟩
def ti76 : TI := { desc := TypeDesc.func #[73] #[3] false, size := 1, bytes := 8, zero := .nilFunc }
theorem tk76 : ti76.ok Try.prog 76 := ⟨by kernel_rfl, by kernel_rfl⟩
def ti77 : TI := { desc := TypeDesc.func #[73, 3, 3] #[3] false, size := 1, bytes := 8, zero := .nilFunc }
theorem tk77 : ti77.ok Try.prog 77 := ⟨by kernel_rfl, by kernel_rfl⟩
def ti78 : TI := { desc := TypeDesc.func #[3] #[50] false, size := 1, bytes := 8, zero := .nilFunc }
theorem tk78 : ti78.ok Try.prog 78 := ⟨by kernel_rfl, by kernel_rfl⟩
def ti79 : TI := { desc := TypeDesc.int IntKind.u64, size := 1, bytes := 8, zero := .int .u64 0 }
theorem tk79 : ti79.ok Try.prog 79 := ⟨by kernel_rfl, by kernel_rfl⟩
def ti80 : TI := { desc := TypeDesc.int IntKind.u32, size := 1, bytes := 4, zero := .int .u32 0 }
theorem tk80 : ti80.ok Try.prog 80 := ⟨by kernel_rfl, by kernel_rfl⟩
def ti81 : TI := { desc := TypeDesc.array 256 80, size := 256, bytes := 1024, zero := .agg (List.replicate 256 (.int .u32 0)).toArray }
theorem tk81 : ti81.ok Try.prog 81 := ⟨by kernel_rfl, by kernel_rfl⟩
def ti82 : TI := { desc := TypeDesc.array 256 80, size := 256, bytes := 1024, zero := .agg (List.replicate 256 (.int .u32 0)).toArray }
theorem tk82 : ti82.ok Try.prog 82 := ⟨by kernel_rfl, by kernel_rfl⟩
def ti83 : TI := { desc := TypeDesc.func #[9] #[80] false, size := 1, bytes := 8, zero := .nilFunc }
theorem tk83 : ti83.ok Try.prog 83 := ⟨by kernel_rfl, by kernel_rfl⟩
def ti84 : TI := { desc := TypeDesc.pointer 5, size := 1, bytes := 8, zero := .pointer none }
theorem tk84 : ti84.ok Try.prog 84 := ⟨by kernel_rfl, by kernel_rfl⟩
def ti86 : TI := { desc := TypeDesc.func #[9] #[50, 3, 23] false, size := 1, bytes := 8, zero := .nilFunc }
theorem tk86 : ti86.ok Try.prog 86 := ⟨by kernel_rfl, by kernel_rfl⟩
def ti88 : TI := { desc := TypeDesc.func #[9] #[9, 4] false, size := 1, bytes := 8, zero := .nilFunc }
theorem tk88 : ti88.ok Try.prog 88 := ⟨by kernel_rfl, by kernel_rfl⟩
def ti90 : TI := { desc := TypeDesc.func #[9] #[27, 23] false, size := 1, bytes := 8, zero := .nilFunc }
theorem tk90 : ti90.ok Try.prog 90 := ⟨by kernel_rfl, by kernel_rfl⟩
def ti91 : TI := { desc := TypeDesc.struct #[{ name := "at", type := 3, offset := 0, embedded := false, tag := "", pkgPath := "tidewaiter/clamp", byteOffset := 0 }, { name := "set", type := 4, offset := 1, embedded := false, tag := "", pkgPath := "tidewaiter/clamp", byteOffset := 8 }], size := 2, bytes := 16, zero := .agg #[.int .i64 0, .bool false] }
theorem tk91 : ti91.ok Try.prog 91 := ⟨by kernel_rfl, by kernel_rfl⟩
def ti92 : TI := { desc := TypeDesc.struct #[{ name := "at", type := 3, offset := 0, embedded := false, tag := "", pkgPath := "tidewaiter/clamp", byteOffset := 0 }, { name := "set", type := 4, offset := 1, embedded := false, tag := "", pkgPath := "tidewaiter/clamp", byteOffset := 8 }], size := 2, bytes := 16, zero := .agg #[.int .i64 0, .bool false] }
theorem tk92 : ti92.ok Try.prog 92 := ⟨by kernel_rfl, by kernel_rfl⟩
def ti93 : TI := { desc := TypeDesc.struct #[{ name := "sign", type := 3, offset := 0, embedded := false, tag := "", pkgPath := "tidewaiter/punct", byteOffset := 0 }, { name := "Clamp", type := 92, offset := 1, embedded := true, tag := "", pkgPath := "", byteOffset := 8 }], size := 3, bytes := 24, zero := .agg #[.int .i64 0, .int .i64 0, .bool false] }
theorem tk93 : ti93.ok Try.prog 93 := ⟨by kernel_rfl, by kernel_rfl⟩
def ti94 : TI := { desc := TypeDesc.struct #[{ name := "sign", type := 3, offset := 0, embedded := false, tag := "", pkgPath := "tidewaiter/punct", byteOffset := 0 }, { name := "Clamp", type := 92, offset := 1, embedded := true, tag := "", pkgPath := "", byteOffset := 8 }], size := 3, bytes := 24, zero := .agg #[.int .i64 0, .int .i64 0, .bool false] }
theorem tk94 : ti94.ok Try.prog 94 := ⟨by kernel_rfl, by kernel_rfl⟩
def ti95 : TI := { desc := TypeDesc.pointer 110, size := 1, bytes := 8, zero := .pointer none }
theorem tk95 : ti95.ok Try.prog 95 := ⟨by kernel_rfl, by kernel_rfl⟩
def ti96 : TI := { desc := TypeDesc.func #[3] #[95] false, size := 1, bytes := 8, zero := .nilFunc }
theorem tk96 : ti96.ok Try.prog 96 := ⟨by kernel_rfl, by kernel_rfl⟩
def ti97 : TI := { desc := TypeDesc.slice 144, size := 1, bytes := 24, zero := .slice none 0 0 }
theorem tk97 : ti97.ok Try.prog 97 := ⟨by kernel_rfl, by kernel_rfl⟩
def ti98 : TI := { desc := TypeDesc.struct #[{ name := "l", type := 97, offset := 0, embedded := false, tag := "", pkgPath := "tidewaiter/hist", byteOffset := 0 }, { name := "all", type := 3, offset := 1, embedded := false, tag := "", pkgPath := "tidewaiter/hist", byteOffset := 24 }], size := 2, bytes := 32, zero := .agg #[.slice none 0 0, .int .i64 0] }
theorem tk98 : ti98.ok Try.prog 98 := ⟨by kernel_rfl, by kernel_rfl⟩
def ti99 : TI := { desc := TypeDesc.struct #[{ name := "l", type := 97, offset := 0, embedded := false, tag := "", pkgPath := "tidewaiter/hist", byteOffset := 0 }, { name := "all", type := 3, offset := 1, embedded := false, tag := "", pkgPath := "tidewaiter/hist", byteOffset := 24 }], size := 2, bytes := 32, zero := .agg #[.slice none 0 0, .int .i64 0] }
theorem tk99 : ti99.ok Try.prog 99 := ⟨by kernel_rfl, by kernel_rfl⟩
def ti100 : TI := { desc := TypeDesc.struct #[{ name := "percent", type := 3, offset := 0, embedded := false, tag := "", pkgPath := "tidewaiter/percent", byteOffset := 0 }, { name := "lags", type := 95, offset := 1, embedded := false, tag := "", pkgPath := "tidewaiter/percent", byteOffset := 8 }, { name := "counts", type := 99, offset := 2, embedded := false, tag := "", pkgPath := "tidewaiter/percent", byteOffset := 16 }, { name := "most", type := 92, offset := 4, embedded := false, tag := "", pkgPath := "tidewaiter/percent", byteOffset := 48 }, { name := "Clamp", type := 92, offset := 6, embedded := true, tag := "", pkgPath := "", byteOffset := 64 }], size := 8, bytes := 80, zero := .agg #[.int .i64 0, .pointer none, .slice none 0 0, .int .i64 0, .int .i64 0, .bool false, .int .i64 0, .bool false] }
theorem tk100 : ti100.ok Try.prog 100 := ⟨by kernel_rfl, by kernel_rfl⟩
def ti101 : TI := { desc := TypeDesc.struct #[{ name := "percent", type := 3, offset := 0, embedded := false, tag := "", pkgPath := "tidewaiter/percent", byteOffset := 0 }, { name := "lags", type := 95, offset := 1, embedded := false, tag := "", pkgPath := "tidewaiter/percent", byteOffset := 8 }, { name := "counts", type := 99, offset := 2, embedded := false, tag := "", pkgPath := "tidewaiter/percent", byteOffset := 16 }, { name := "most", type := 92, offset := 4, embedded := false, tag := "", pkgPath := "tidewaiter/percent", byteOffset := 48 }, { name := "Clamp", type := 92, offset := 6, embedded := true, tag := "", pkgPath := "", byteOffset := 64 }], size := 8, bytes := 80, zero := .agg #[.int .i64 0, .pointer none, .slice none 0 0, .int .i64 0, .int .i64 0, .bool false, .int .i64 0, .bool false] }
theorem tk101 : ti101.ok Try.prog 101 := ⟨by kernel_rfl, by kernel_rfl⟩
def ti102 : TI := { desc := TypeDesc.struct #[{ name := "bound", type := 3, offset := 0, embedded := false, tag := "", pkgPath := "tidewaiter/bounded", byteOffset := 0 }, { name := "Clamp", type := 92, offset := 1, embedded := true, tag := "", pkgPath := "", byteOffset := 8 }, { name := "most", type := 92, offset := 3, embedded := false, tag := "", pkgPath := "tidewaiter/bounded", byteOffset := 24 }], size := 5, bytes := 40, zero := .agg #[.int .i64 0, .int .i64 0, .bool false, .int .i64 0, .bool false] }
theorem tk102 : ti102.ok Try.prog 102 := ⟨by kernel_rfl, by kernel_rfl⟩
def ti103 : TI := { desc := TypeDesc.struct #[{ name := "bound", type := 3, offset := 0, embedded := false, tag := "", pkgPath := "tidewaiter/bounded", byteOffset := 0 }, { name := "Clamp", type := 92, offset := 1, embedded := true, tag := "", pkgPath := "", byteOffset := 8 }, { name := "most", type := 92, offset := 3, embedded := false, tag := "", pkgPath := "tidewaiter/bounded", byteOffset := 24 }], size := 5, bytes := 40, zero := .agg #[.int .i64 0, .int .i64 0, .bool false, .int .i64 0, .bool false] }
theorem tk103 : ti103.ok Try.prog 103 := ⟨by kernel_rfl, by kernel_rfl⟩
def ti104 : TI := { desc := TypeDesc.func #[9] #[73] false, size := 1, bytes := 8, zero := .nilFunc }
theorem tk104 : ti104.ok Try.prog 104 := ⟨by kernel_rfl, by kernel_rfl⟩
def ti105 : TI := { desc := TypeDesc.unsafePointer, size := 1, bytes := 8, zero := .pointer none }
theorem tk105 : ti105.ok Try.prog 105 := ⟨by kernel_rfl, by kernel_rfl⟩
def ti106 : TI := { desc := TypeDesc.func #[105] #[105] false, size := 1, bytes := 8, zero := .nilFunc }
theorem tk106 : ti106.ok Try.prog 106 := ⟨by kernel_rfl, by kernel_rfl⟩
def ti108 : TI := { desc := TypeDesc.func #[9] #[3, 3, 23] false, size := 1, bytes := 8, zero := .nilFunc }
theorem tk108 : ti108.ok Try.prog 108 := ⟨by kernel_rfl, by kernel_rfl⟩
def ti109 : TI := { desc := TypeDesc.struct #[{ name := "l", type := 73, offset := 0, embedded := false, tag := "", pkgPath := "tidewaiter/ring", byteOffset := 0 }, { name := "first", type := 3, offset := 1, embedded := false, tag := "", pkgPath := "tidewaiter/ring", byteOffset := 24 }, { name := "many", type := 3, offset := 2, embedded := false, tag := "", pkgPath := "tidewaiter/ring", byteOffset := 32 }], size := 3, bytes := 40, zero := .agg #[.slice none 0 0, .int .i64 0, .int .i64 0] }
theorem tk109 : ti109.ok Try.prog 109 := ⟨by kernel_rfl, by kernel_rfl⟩
def ti110 : TI := { desc := TypeDesc.struct #[{ name := "l", type := 73, offset := 0, embedded := false, tag := "", pkgPath := "tidewaiter/ring", byteOffset := 0 }, { name := "first", type := 3, offset := 1, embedded := false, tag := "", pkgPath := "tidewaiter/ring", byteOffset := 24 }, { name := "many", type := 3, offset := 2, embedded := false, tag := "", pkgPath := "tidewaiter/ring", byteOffset := 32 }], size := 3, bytes := 40, zero := .agg #[.slice none 0 0, .int .i64 0, .int .i64 0] }
theorem tk110 : ti110.ok Try.prog 110 := ⟨by kernel_rfl, by kernel_rfl⟩
def ti112 : TI := { desc := TypeDesc.func #[9] #[3, 3] false, size := 1, bytes := 8, zero := .nilFunc }
theorem tk112 : ti112.ok Try.prog 112 := ⟨by kernel_rfl, by kernel_rfl⟩
def ti114 : TI := { desc := TypeDesc.func #[73, 3] #[3, 4] false, size := 1, bytes := 8, zero := .nilFunc }
theorem tk114 : ti114.ok Try.prog 114 := ⟨by kernel_rfl, by kernel_rfl⟩
def ti115 : TI := { desc := TypeDesc.func #[73, 3] #[73] false, size := 1, bytes := 8, zero := .nilFunc }
theorem tk115 : ti115.ok Try.prog 115 := ⟨by kernel_rfl, by kernel_rfl⟩
def ti116 : TI := { desc := TypeDesc.func #[50] #[3] false, size := 1, bytes := 8, zero := .nilFunc }
theorem tk116 : ti116.ok Try.prog 116 := ⟨by kernel_rfl, by kernel_rfl⟩
def ti117 : TI := { desc := TypeDesc.func #[9, 3] #[3] false, size := 1, bytes := 8, zero := .nilFunc }
theorem tk117 : ti117.ok Try.prog 117 := ⟨by kernel_rfl, by kernel_rfl⟩
def ti118 : TI := { desc := TypeDesc.struct #[{ name := "_interface", type := 17, offset := 0, embedded := false, tag := "", pkgPath := "runtime", byteOffset := 0 }, { name := "concrete", type := 17, offset := 1, embedded := false, tag := "", pkgPath := "runtime", byteOffset := 8 }, { name := "asserted", type := 17, offset := 2, embedded := false, tag := "", pkgPath := "runtime", byteOffset := 16 }, { name := "missingMethod", type := 9, offset := 3, embedded := false, tag := "", pkgPath := "runtime", byteOffset := 24 }], size := 4, bytes := 40, zero := .agg #[.pointer none, .pointer none, .pointer none, .string (str [])] }
theorem tk118 : ti118.ok Try.prog 118 := ⟨by kernel_rfl, by kernel_rfl⟩
def ti119 : TI := { desc := TypeDesc.struct #[{ name := "_interface", type := 17, offset := 0, embedded := false, tag := "", pkgPath := "runtime", byteOffset := 0 }, { name := "concrete", type := 17, offset := 1, embedded := false, tag := "", pkgPath := "runtime", byteOffset := 8 }, { name := "asserted", type := 17, offset := 2, embedded := false, tag := "", pkgPath := "runtime", byteOffset := 16 }, { name := "missingMethod", type := 9, offset := 3, embedded := false, tag := "", pkgPath := "runtime", byteOffset := 24 }], size := 4, bytes := 40, zero := .agg #[.pointer none, .pointer none, .pointer none, .string (str [])] }
theorem tk119 : ti119.ok Try.prog 119 := ⟨by kernel_rfl, by kernel_rfl⟩
def ti120 : TI := { desc := TypeDesc.array 0 16, size := 0, bytes := 0, zero := .agg #[] }
theorem tk120 : ti120.ok Try.prog 120 := ⟨by kernel_rfl, by kernel_rfl⟩
def ti121 : TI := { desc := TypeDesc.struct #[{ name := "_", type := 120, offset := 0, embedded := false, tag := "", pkgPath := "runtime", byteOffset := 0 }], size := 0, bytes := 0, zero := .agg #[] }
theorem tk121 : ti121.ok Try.prog 121 := ⟨by kernel_rfl, by kernel_rfl⟩
def ti122 : TI := { desc := TypeDesc.struct #[{ name := "_", type := 120, offset := 0, embedded := false, tag := "", pkgPath := "runtime", byteOffset := 0 }], size := 0, bytes := 0, zero := .agg #[] }
theorem tk122 : ti122.ok Try.prog 122 := ⟨by kernel_rfl, by kernel_rfl⟩
def ti123 : TI := { desc := TypeDesc.int IntKind.u8, size := 1, bytes := 1, zero := .int .u8 0 }
theorem tk123 : ti123.ok Try.prog 123 := ⟨by kernel_rfl, by kernel_rfl⟩
def ti124 : TI := { desc := TypeDesc.int IntKind.u8, size := 1, bytes := 1, zero := .int .u8 0 }
theorem tk124 : ti124.ok Try.prog 124 := ⟨by kernel_rfl, by kernel_rfl⟩
def ti125 : TI := { desc := TypeDesc.func #[105, 105] #[4] false, size := 1, bytes := 8, zero := .nilFunc }
theorem tk125 : ti125.ok Try.prog 125 := ⟨by kernel_rfl, by kernel_rfl⟩
def ti126 : TI := { desc := TypeDesc.int IntKind.i32, size := 1, bytes := 4, zero := .int .i32 0 }
theorem tk126 : ti126.ok Try.prog 126 := ⟨by kernel_rfl, by kernel_rfl⟩
def ti127 : TI := { desc := TypeDesc.int IntKind.i32, size := 1, bytes := 4, zero := .int .i32 0 }
theorem tk127 : ti127.ok Try.prog 127 := ⟨by kernel_rfl, by kernel_rfl⟩
def ti128 : TI := { desc := TypeDesc.struct #[{ name := "Size_", type := 12, offset := 0, embedded := false, tag := "", pkgPath := "", byteOffset := 0 }, { name := "PtrBytes", type := 12, offset := 1, embedded := false, tag := "", pkgPath := "", byteOffset := 8 }, { name := "Hash", type := 80, offset := 2, embedded := false, tag := "", pkgPath := "", byteOffset := 16 }, { name := "TFlag", type := 123, offset := 3, embedded := false, tag := "", pkgPath := "", byteOffset := 20 }, { name := "Align_", type := 5, offset := 4, embedded := false, tag := "", pkgPath := "", byteOffset := 21 }, { name := "FieldAlign_", type := 5, offset := 5, embedded := false, tag := "", pkgPath := "", byteOffset := 22 }, { name := "Kind_", type := 124, offset := 6, embedded := false, tag := "", pkgPath := "", byteOffset := 23 }, { name := "Equal", type := 125, offset := 7, embedded := false, tag := "", pkgPath := "", byteOffset := 24 }, { name := "GCData", type := 84, offset := 8, embedded := false, tag := "", pkgPath := "", byteOffset := 32 }, { name := "Str", type := 126, offset := 9, embedded := false, tag := "", pkgPath := "", byteOffset := 40 }, { name := "PtrToThis", type := 127, offset := 10, embedded := false, tag := "", pkgPath := "", byteOffset := 44 }], size := 11, bytes := 48, zero := .agg #[.int .u64 0, .int .u64 0, .int .u32 0, .int .u8 0, .int .u8 0, .int .u8 0, .int .u8 0, .nilFunc, .pointer none, .int .i32 0, .int .i32 0] }
theorem tk128 : ti128.ok Try.prog 128 := ⟨by kernel_rfl, by kernel_rfl⟩
def ti129 : TI := { desc := TypeDesc.struct #[{ name := "Size_", type := 12, offset := 0, embedded := false, tag := "", pkgPath := "", byteOffset := 0 }, { name := "PtrBytes", type := 12, offset := 1, embedded := false, tag := "", pkgPath := "", byteOffset := 8 }, { name := "Hash", type := 80, offset := 2, embedded := false, tag := "", pkgPath := "", byteOffset := 16 }, { name := "TFlag", type := 123, offset := 3, embedded := false, tag := "", pkgPath := "", byteOffset := 20 }, { name := "Align_", type := 5, offset := 4, embedded := false, tag := "", pkgPath := "", byteOffset := 21 }, { name := "FieldAlign_", type := 5, offset := 5, embedded := false, tag := "", pkgPath := "", byteOffset := 22 }, { name := "Kind_", type := 124, offset := 6, embedded := false, tag := "", pkgPath := "", byteOffset := 23 }, { name := "Equal", type := 125, offset := 7, embedded := false, tag := "", pkgPath := "", byteOffset := 24 }, { name := "GCData", type := 84, offset := 8, embedded := false, tag := "", pkgPath := "", byteOffset := 32 }, { name := "Str", type := 126, offset := 9, embedded := false, tag := "", pkgPath := "", byteOffset := 40 }, { name := "PtrToThis", type := 127, offset := 10, embedded := false, tag := "", pkgPath := "", byteOffset := 44 }], size := 11, bytes := 48, zero := .agg #[.int .u64 0, .int .u64 0, .int .u32 0, .int .u8 0, .int .u8 0, .int .u8 0, .int .u8 0, .nilFunc, .pointer none, .int .i32 0, .int .i32 0] }
theorem tk129 : ti129.ok Try.prog 129 := ⟨by kernel_rfl, by kernel_rfl⟩
def ti130 : TI := { desc := TypeDesc.func #[27, 3] #[4] false, size := 1, bytes := 8, zero := .nilFunc }
theorem tk130 : ti130.ok Try.prog 130 := ⟨by kernel_rfl, by kernel_rfl⟩
def ti131 : TI := { desc := TypeDesc.pointer 92, size := 1, bytes := 8, zero := .pointer none }
theorem tk131 : ti131.ok Try.prog 131 := ⟨by kernel_rfl, by kernel_rfl⟩
def ti132 : TI := { desc := TypeDesc.func #[9, 3, 21] #[4] false, size := 1, bytes := 8, zero := .nilFunc }
theorem tk132 : ti132.ok Try.prog 132 := ⟨by kernel_rfl, by kernel_rfl⟩
def ti134 : TI := { desc := TypeDesc.func #[9] #[21, 3] false, size := 1, bytes := 8, zero := .nilFunc }
theorem tk134 : ti134.ok Try.prog 134 := ⟨by kernel_rfl, by kernel_rfl⟩
def ti135 : TI := { desc := TypeDesc.array 256 5, size := 256, bytes := 256, zero := .agg (List.replicate 256 (.int .u8 0)).toArray }
theorem tk135 : ti135.ok Try.prog 135 := ⟨by kernel_rfl, by kernel_rfl⟩
def ti136 : TI := { desc := TypeDesc.struct #[{ name := "lo", type := 5, offset := 0, embedded := false, tag := "", pkgPath := "unicode/utf8", byteOffset := 0 }, { name := "hi", type := 5, offset := 1, embedded := false, tag := "", pkgPath := "unicode/utf8", byteOffset := 1 }], size := 2, bytes := 2, zero := .agg #[.int .u8 0, .int .u8 0] }
theorem tk136 : ti136.ok Try.prog 136 := ⟨by kernel_rfl, by kernel_rfl⟩
def ti137 : TI := { desc := TypeDesc.struct #[{ name := "lo", type := 5, offset := 0, embedded := false, tag := "", pkgPath := "unicode/utf8", byteOffset := 0 }, { name := "hi", type := 5, offset := 1, embedded := false, tag := "", pkgPath := "unicode/utf8", byteOffset := 1 }], size := 2, bytes := 2, zero := .agg #[.int .u8 0, .int .u8 0] }
theorem tk137 : ti137.ok Try.prog 137 := ⟨by kernel_rfl, by kernel_rfl⟩
def ti138 : TI := { desc := TypeDesc.array 16 137, size := 32, bytes := 32, zero := .agg (List.replicate 32 (.int .u8 0)).toArray }
theorem tk138 : ti138.ok Try.prog 138 := ⟨by kernel_rfl, by kernel_rfl⟩
def ti139 : TI := { desc := TypeDesc.func #[3] #[3, 4] false, size := 1, bytes := 8, zero := .nilFunc }
theorem tk139 : ti139.ok Try.prog 139 := ⟨by kernel_rfl, by kernel_rfl⟩
def ti140 : TI := { desc := TypeDesc.func #[3] #[] false, size := 1, bytes := 8, zero := .nilFunc }
theorem tk140 : ti140.ok Try.prog 140 := ⟨by kernel_rfl, by kernel_rfl⟩
def ti141 : TI := { desc := TypeDesc.func #[3] #[3] false, size := 1, bytes := 8, zero := .nilFunc }
theorem tk141 : ti141.ok Try.prog 141 := ⟨by kernel_rfl, by kernel_rfl⟩
def ti142 : TI := { desc := TypeDesc.pointer 99, size := 1, bytes := 8, zero := .pointer none }
theorem tk142 : ti142.ok Try.prog 142 := ⟨by kernel_rfl, by kernel_rfl⟩
def ti143 : TI := { desc := TypeDesc.struct #[{ name := "n", type := 3, offset := 0, embedded := false, tag := "", pkgPath := "tidewaiter/hist", byteOffset := 0 }, { name := "many", type := 3, offset := 1, embedded := false, tag := "", pkgPath := "tidewaiter/hist", byteOffset := 8 }], size := 2, bytes := 16, zero := .agg #[.int .i64 0, .int .i64 0] }
theorem tk143 : ti143.ok Try.prog 143 := ⟨by kernel_rfl, by kernel_rfl⟩
def ti144 : TI := { desc := TypeDesc.struct #[{ name := "n", type := 3, offset := 0, embedded := false, tag := "", pkgPath := "tidewaiter/hist", byteOffset := 0 }, { name := "many", type := 3, offset := 1, embedded := false, tag := "", pkgPath := "tidewaiter/hist", byteOffset := 8 }], size := 2, bytes := 16, zero := .agg #[.int .i64 0, .int .i64 0] }
theorem tk144 : ti144.ok Try.prog 144 := ⟨by kernel_rfl, by kernel_rfl⟩
def ti145 : TI := { desc := TypeDesc.func #[97, 3, 3] #[97] false, size := 1, bytes := 8, zero := .nilFunc }
theorem tk145 : ti145.ok Try.prog 145 := ⟨by kernel_rfl, by kernel_rfl⟩
def ti146 : TI := { desc := TypeDesc.func #[97, 3, 97] #[97] true, size := 1, bytes := 8, zero := .nilFunc }
theorem tk146 : ti146.ok Try.prog 146 := ⟨by kernel_rfl, by kernel_rfl⟩
def ti147 : TI := { desc := TypeDesc.func #[97, 3, 148] #[3, 4] false, size := 1, bytes := 8, zero := .nilFunc }
theorem tk147 : ti147.ok Try.prog 147 := ⟨by kernel_rfl, by kernel_rfl⟩
def ti148 : TI := { desc := TypeDesc.func #[144, 3] #[3] false, size := 1, bytes := 8, zero := .nilFunc }
theorem tk148 : ti148.ok Try.prog 148 := ⟨by kernel_rfl, by kernel_rfl⟩
def ti149 : TI := { desc := TypeDesc.func #[97, 97] #[4] false, size := 1, bytes := 8, zero := .nilFunc }
theorem tk149 : ti149.ok Try.prog 149 := ⟨by kernel_rfl, by kernel_rfl⟩
def ti150 : TI := { desc := TypeDesc.func #[97, 3] #[] false, size := 1, bytes := 8, zero := .nilFunc }
theorem tk150 : ti150.ok Try.prog 150 := ⟨by kernel_rfl, by kernel_rfl⟩
def ti151 : TI := { desc := TypeDesc.func #[97] #[] false, size := 1, bytes := 8, zero := .nilFunc }
theorem tk151 : ti151.ok Try.prog 151 := ⟨by kernel_rfl, by kernel_rfl⟩
def tyT : Ty := [(1, ti1), (2, ti2), (3, ti3), (4, ti4), (5, ti5), (6, ti6), (7, ti7), (8, ti8), (9, ti9), (10, ti10), (11, ti11), (12, ti12), (13, ti13), (14, ti14), (15, ti15), (16, ti16), (17, ti17), (18, ti18), (19, ti19), (20, ti20), (21, ti21), (22, ti22), (23, ti23), (25, ti25), (26, ti26), (27, ti27), (28, ti28), (30, ti30), (31, ti31), (32, ti32), (33, ti33), (34, ti34), (35, ti35), (36, ti36), (37, ti37), (38, ti38), (40, ti40), (41, ti41), (42, ti42), (43, ti43), (44, ti44), (45, ti45), (46, ti46), (47, ti47), (48, ti48), (49, ti49), (50, ti50), (51, ti51), (52, ti52), (53, ti53), (54, ti54), (55, ti55), (56, ti56), (57, ti57), (58, ti58), (60, ti60), (61, ti61), (63, ti63), (64, ti64), (66, ti66), (68, ti68), (70, ti70), (71, ti71), (72, ti72), (73, ti73), (74, ti74), (75, ti75), (76, ti76), (77, ti77), (78, ti78), (79, ti79), (80, ti80), (81, ti81), (82, ti82), (83, ti83), (84, ti84), (86, ti86), (88, ti88), (90, ti90), (91, ti91), (92, ti92), (93, ti93), (94, ti94), (95, ti95), (96, ti96), (97, ti97), (98, ti98), (99, ti99), (100, ti100), (101, ti101), (102, ti102), (103, ti103), (104, ti104), (105, ti105), (106, ti106), (108, ti108), (109, ti109), (110, ti110), (112, ti112), (114, ti114), (115, ti115), (116, ti116), (117, ti117), (118, ti118), (119, ti119), (120, ti120), (121, ti121), (122, ti122), (123, ti123), (124, ti124), (125, ti125), (126, ti126), (127, ti127), (128, ti128), (129, ti129), (130, ti130), (131, ti131), (132, ti132), (134, ti134), (135, ti135), (136, ti136), (137, ti137), (138, ti138), (139, ti139), (140, ti140), (141, ti141), (142, ti142), (143, ti143), (144, ti144), (145, ti145), (146, ti146), (147, ti147), (148, ti148), (149, ti149), (150, ti150), (151, ti151)]
theorem tyOk : TyOk Try.prog tyT := TyOk.cons tk1 (TyOk.cons tk2 (TyOk.cons tk3 (TyOk.cons tk4 (TyOk.cons tk5 (TyOk.cons tk6 (TyOk.cons tk7 (TyOk.cons tk8 (TyOk.cons tk9 (TyOk.cons tk10 (TyOk.cons tk11 (TyOk.cons tk12 (TyOk.cons tk13 (TyOk.cons tk14 (TyOk.cons tk15 (TyOk.cons tk16 (TyOk.cons tk17 (TyOk.cons tk18 (TyOk.cons tk19 (TyOk.cons tk20 (TyOk.cons tk21 (TyOk.cons tk22 (TyOk.cons tk23 (TyOk.cons tk25 (TyOk.cons tk26 (TyOk.cons tk27 (TyOk.cons tk28 (TyOk.cons tk30 (TyOk.cons tk31 (TyOk.cons tk32 (TyOk.cons tk33 (TyOk.cons tk34 (TyOk.cons tk35 (TyOk.cons tk36 (TyOk.cons tk37 (TyOk.cons tk38 (TyOk.cons tk40 (TyOk.cons tk41 (TyOk.cons tk42 (TyOk.cons tk43 (TyOk.cons tk44 (TyOk.cons tk45 (TyOk.cons tk46 (TyOk.cons tk47 (TyOk.cons tk48 (TyOk.cons tk49 (TyOk.cons tk50 (TyOk.cons tk51 (TyOk.cons tk52 (TyOk.cons tk53 (TyOk.cons tk54 (TyOk.cons tk55 (TyOk.cons tk56 (TyOk.cons tk57 (TyOk.cons tk58 (TyOk.cons tk60 (TyOk.cons tk61 (TyOk.cons tk63 (TyOk.cons tk64 (TyOk.cons tk66 (TyOk.cons tk68 (TyOk.cons tk70 (TyOk.cons tk71 (TyOk.cons tk72 (TyOk.cons tk73 (TyOk.cons tk74 (TyOk.cons tk75 (TyOk.cons tk76 (TyOk.cons tk77 (TyOk.cons tk78 (TyOk.cons tk79 (TyOk.cons tk80 (TyOk.cons tk81 (TyOk.cons tk82 (TyOk.cons tk83 (TyOk.cons tk84 (TyOk.cons tk86 (TyOk.cons tk88 (TyOk.cons tk90 (TyOk.cons tk91 (TyOk.cons tk92 (TyOk.cons tk93 (TyOk.cons tk94 (TyOk.cons tk95 (TyOk.cons tk96 (TyOk.cons tk97 (TyOk.cons tk98 (TyOk.cons tk99 (TyOk.cons tk100 (TyOk.cons tk101 (TyOk.cons tk102 (TyOk.cons tk103 (TyOk.cons tk104 (TyOk.cons tk105 (TyOk.cons tk106 (TyOk.cons tk108 (TyOk.cons tk109 (TyOk.cons tk110 (TyOk.cons tk112 (TyOk.cons tk114 (TyOk.cons tk115 (TyOk.cons tk116 (TyOk.cons tk117 (TyOk.cons tk118 (TyOk.cons tk119 (TyOk.cons tk120 (TyOk.cons tk121 (TyOk.cons tk122 (TyOk.cons tk123 (TyOk.cons tk124 (TyOk.cons tk125 (TyOk.cons tk126 (TyOk.cons tk127 (TyOk.cons tk128 (TyOk.cons tk129 (TyOk.cons tk130 (TyOk.cons tk131 (TyOk.cons tk132 (TyOk.cons tk134 (TyOk.cons tk135 (TyOk.cons tk136 (TyOk.cons tk137 (TyOk.cons tk138 (TyOk.cons tk139 (TyOk.cons tk140 (TyOk.cons tk141 (TyOk.cons tk142 (TyOk.cons tk143 (TyOk.cons tk144 (TyOk.cons tk145 (TyOk.cons tk146 (TyOk.cons tk147 (TyOk.cons tk148 (TyOk.cons tk149 (TyOk.cons tk150 (TyOk.cons tk151 ( TyOk.nil _))))))))))))))))))))))))))))))))))))))))))))))))))))))))))))))))))))))))))))))))))))))))))))))))))))))))))))))))))))))))))))))))))))))))
theorem ck2 : CallOk Try.prog 2 := ⟨_, Try.func2, by kernel_rfl, by kernel_rfl⟩
theorem ck3 : CallOk Try.prog 3 := ⟨_, Try.func3, by kernel_rfl, by kernel_rfl⟩
theorem ck4 : CallOk Try.prog 4 := ⟨_, Try.func4, by kernel_rfl, by kernel_rfl⟩
theorem ck5 : CallOk Try.prog 5 := ⟨_, Try.func5, by kernel_rfl, by kernel_rfl⟩
theorem ck6 : CallOk Try.prog 6 := ⟨_, Try.func6, by kernel_rfl, by kernel_rfl⟩
theorem ck7 : CallOk Try.prog 7 := ⟨_, Try.func7, by kernel_rfl, by kernel_rfl⟩
theorem ck8 : CallOk Try.prog 8 := ⟨_, Try.func8, by kernel_rfl, by kernel_rfl⟩
theorem ck9 : CallOk Try.prog 9 := ⟨_, Try.func9, by kernel_rfl, by kernel_rfl⟩
theorem ck10 : CallOk Try.prog 10 := ⟨_, Try.func10, by kernel_rfl, by kernel_rfl⟩
theorem ck11 : CallOk Try.prog 11 := ⟨_, Try.func11, by kernel_rfl, by kernel_rfl⟩
theorem ck12 : CallOk Try.prog 12 := ⟨_, Try.func12, by kernel_rfl, by kernel_rfl⟩
theorem ck13 : CallOk Try.prog 13 := ⟨_, Try.func13, by kernel_rfl, by kernel_rfl⟩
theorem ck14 : CallOk Try.prog 14 := ⟨_, Try.func14, by kernel_rfl, by kernel_rfl⟩
theorem ck15 : CallOk Try.prog 15 := ⟨_, Try.func15, by kernel_rfl, by kernel_rfl⟩
theorem ck16 : CallOk Try.prog 16 := ⟨_, Try.func16, by kernel_rfl, by kernel_rfl⟩
theorem ck17 : CallOk Try.prog 17 := ⟨_, Try.func17, by kernel_rfl, by kernel_rfl⟩
theorem ck18 : CallOk Try.prog 18 := ⟨_, Try.func18, by kernel_rfl, by kernel_rfl⟩
theorem ck19 : CallOk Try.prog 19 := ⟨_, Try.func19, by kernel_rfl, by kernel_rfl⟩
theorem ck20 : CallOk Try.prog 20 := ⟨_, Try.func20, by kernel_rfl, by kernel_rfl⟩
theorem ck21 : CallOk Try.prog 21 := ⟨_, Try.func21, by kernel_rfl, by kernel_rfl⟩
theorem ck22 : CallOk Try.prog 22 := ⟨_, Try.func22, by kernel_rfl, by kernel_rfl⟩
theorem ck23 : CallOk Try.prog 23 := ⟨_, Try.func23, by kernel_rfl, by kernel_rfl⟩
theorem ck24 : CallOk Try.prog 24 := ⟨_, Try.func24, by kernel_rfl, by kernel_rfl⟩
theorem ck25 : CallOk Try.prog 25 := ⟨_, Try.func25, by kernel_rfl, by kernel_rfl⟩
theorem ck26 : CallOk Try.prog 26 := ⟨_, Try.func26, by kernel_rfl, by kernel_rfl⟩
theorem ck27 : CallOk Try.prog 27 := ⟨_, Try.func27, by kernel_rfl, by kernel_rfl⟩
theorem ck28 : CallOk Try.prog 28 := ⟨_, Try.func28, by kernel_rfl, by kernel_rfl⟩
theorem ck29 : CallOk Try.prog 29 := ⟨_, Try.func29, by kernel_rfl, by kernel_rfl⟩
theorem ck30 : CallOk Try.prog 30 := ⟨_, Try.func30, by kernel_rfl, by kernel_rfl⟩
theorem ck31 : CallOk Try.prog 31 := ⟨_, Try.func31, by kernel_rfl, by kernel_rfl⟩
theorem ck32 : CallOk Try.prog 32 := ⟨_, Try.func32, by kernel_rfl, by kernel_rfl⟩
theorem ck33 : CallOk Try.prog 33 := ⟨_, Try.func33, by kernel_rfl, by kernel_rfl⟩
theorem ck34 : CallOk Try.prog 34 := ⟨_, Try.func34, by kernel_rfl, by kernel_rfl⟩
theorem ck35 : CallOk Try.prog 35 := ⟨_, Try.func35, by kernel_rfl, by kernel_rfl⟩
theorem ck36 : CallOk Try.prog 36 := ⟨_, Try.func36, by kernel_rfl, by kernel_rfl⟩
theorem ck37 : CallOk Try.prog 37 := ⟨_, Try.func37, by kernel_rfl, by kernel_rfl⟩
theorem ck38 : CallOk Try.prog 38 := ⟨_, Try.func38, by kernel_rfl, by kernel_rfl⟩
theorem ck39 : CallOk Try.prog 39 := ⟨_, Try.func39, by kernel_rfl, by kernel_rfl⟩
theorem ck41 : CallOk Try.prog 41 := ⟨_, Try.func41, by kernel_rfl, by kernel_rfl⟩
theorem ck42 : CallOk Try.prog 42 := ⟨_, Try.func42, by kernel_rfl, by kernel_rfl⟩
theorem ck43 : CallOk Try.prog 43 := ⟨_, Try.func43, by kernel_rfl, by kernel_rfl⟩
theorem ck44 : CallOk Try.prog 44 := ⟨_, Try.func44, by kernel_rfl, by kernel_rfl⟩
theorem ck45 : CallOk Try.prog 45 := ⟨_, Try.func45, by kernel_rfl, by kernel_rfl⟩
theorem ck46 : CallOk Try.prog 46 := ⟨_, Try.func46, by kernel_rfl, by kernel_rfl⟩
theorem ck47 : CallOk Try.prog 47 := ⟨_, Try.func47, by kernel_rfl, by kernel_rfl⟩
theorem ck48 : CallOk Try.prog 48 := ⟨_, Try.func48, by kernel_rfl, by kernel_rfl⟩
theorem ck66 : CallOk Try.prog 66 := ⟨_, Try.func66, by kernel_rfl, by kernel_rfl⟩
theorem ck67 : CallOk Try.prog 67 := ⟨_, Try.func67, by kernel_rfl, by kernel_rfl⟩
theorem ck68 : CallOk Try.prog 68 := ⟨_, Try.func68, by kernel_rfl, by kernel_rfl⟩
theorem ck69 : CallOk Try.prog 69 := ⟨_, Try.func69, by kernel_rfl, by kernel_rfl⟩
theorem ck70 : CallOk Try.prog 70 := ⟨_, Try.func70, by kernel_rfl, by kernel_rfl⟩
theorem ck71 : CallOk Try.prog 71 := ⟨_, Try.func71, by kernel_rfl, by kernel_rfl⟩
theorem ck72 : CallOk Try.prog 72 := ⟨_, Try.func72, by kernel_rfl, by kernel_rfl⟩
theorem ck73 : CallOk Try.prog 73 := ⟨_, Try.func73, by kernel_rfl, by kernel_rfl⟩
theorem ck74 : CallOk Try.prog 74 := ⟨_, Try.func74, by kernel_rfl, by kernel_rfl⟩
theorem ck75 : CallOk Try.prog 75 := ⟨_, Try.func75, by kernel_rfl, by kernel_rfl⟩
theorem ck76 : CallOk Try.prog 76 := ⟨_, Try.func76, by kernel_rfl, by kernel_rfl⟩
theorem ck77 : CallOk Try.prog 77 := ⟨_, Try.func77, by kernel_rfl, by kernel_rfl⟩
theorem ck78 : CallOk Try.prog 78 := ⟨_, Try.func78, by kernel_rfl, by kernel_rfl⟩
theorem ck79 : CallOk Try.prog 79 := ⟨_, Try.func79, by kernel_rfl, by kernel_rfl⟩
theorem ck80 : CallOk Try.prog 80 := ⟨_, Try.func80, by kernel_rfl, by kernel_rfl⟩
theorem ck81 : CallOk Try.prog 81 := ⟨_, Try.func81, by kernel_rfl, by kernel_rfl⟩
theorem ck82 : CallOk Try.prog 82 := ⟨_, Try.func82, by kernel_rfl, by kernel_rfl⟩
theorem ck83 : CallOk Try.prog 83 := ⟨_, Try.func83, by kernel_rfl, by kernel_rfl⟩
theorem ck84 : CallOk Try.prog 84 := ⟨_, Try.func84, by kernel_rfl, by kernel_rfl⟩
theorem ck85 : CallOk Try.prog 85 := ⟨_, Try.func85, by kernel_rfl, by kernel_rfl⟩
theorem ck86 : CallOk Try.prog 86 := ⟨_, Try.func86, by kernel_rfl, by kernel_rfl⟩
theorem ck87 : CallOk Try.prog 87 := ⟨_, Try.func87, by kernel_rfl, by kernel_rfl⟩
theorem ck88 : CallOk Try.prog 88 := ⟨_, Try.func88, by kernel_rfl, by kernel_rfl⟩
theorem ck89 : CallOk Try.prog 89 := ⟨_, Try.func89, by kernel_rfl, by kernel_rfl⟩
theorem ck90 : CallOk Try.prog 90 := ⟨_, Try.func90, by kernel_rfl, by kernel_rfl⟩
theorem ck92 : CallOk Try.prog 92 := ⟨_, Try.func92, by kernel_rfl, by kernel_rfl⟩
theorem ck93 : CallOk Try.prog 93 := ⟨_, Try.func93, by kernel_rfl, by kernel_rfl⟩
theorem ck94 : CallOk Try.prog 94 := ⟨_, Try.func94, by kernel_rfl, by kernel_rfl⟩
theorem ck96 : CallOk Try.prog 96 := ⟨_, Try.func96, by kernel_rfl, by kernel_rfl⟩
theorem ck97 : CallOk Try.prog 97 := ⟨_, Try.func97, by kernel_rfl, by kernel_rfl⟩
theorem ck98 : CallOk Try.prog 98 := ⟨_, Try.func98, by kernel_rfl, by kernel_rfl⟩
theorem ck101 : CallOk Try.prog 101 := ⟨_, Try.func101, by kernel_rfl, by kernel_rfl⟩
theorem mixed0 : Try.prog.follows .mixedOrders = true := by kernel_rfl
end Go.Proofs.Ytibeiamihdbahab
