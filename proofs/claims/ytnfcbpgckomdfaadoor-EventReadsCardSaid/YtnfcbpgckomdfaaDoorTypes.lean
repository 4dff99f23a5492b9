/- The types of this seat, as the walks ask for them. Printed by a program of this session out of the loaded program. -/
import Derived.Test.YtnfcbpgckomdfaaDoorSlc
import Derived.Test.YtnfcbpgckomdfaaDoorProg
namespace Go.Proofs.YtnfcbpgckomdfaaDoor
def ti1 : TI := { desc := TypeDesc.func #[] #[] false, size := 1, bytes := 8, zero := .nilFunc }
theorem tk1 : ti1.ok Tryd.prog 1 := ⟨by kernel_rfl, by kernel_rfl⟩
def ti2 : TI := { desc := TypeDesc.int IntKind.i64, size := 1, bytes := 8, zero := .int .i64 0 }
theorem tk2 : ti2.ok Tryd.prog 2 := ⟨by kernel_rfl, by kernel_rfl⟩
def ti3 : TI := { desc := TypeDesc.int IntKind.i64, size := 1, bytes := 8, zero := .int .i64 0 }
theorem tk3 : ti3.ok Tryd.prog 3 := ⟨by kernel_rfl, by kernel_rfl⟩
def ti4 : TI := { desc := TypeDesc.bool, size := 1, bytes := 1, zero := .bool false }
theorem tk4 : ti4.ok Tryd.prog 4 := ⟨by kernel_rfl, by kernel_rfl⟩
def ti5 : TI := { desc := TypeDesc.int IntKind.u8, size := 1, bytes := 1, zero := .int .u8 0 }
theorem tk5 : ti5.ok Tryd.prog 5 := ⟨by kernel_rfl, by kernel_rfl⟩
def ti6 : TI := { desc := TypeDesc.int IntKind.u8, size := 1, bytes := 1, zero := .int .u8 0 }
theorem tk6 : ti6.ok Tryd.prog 6 := ⟨by kernel_rfl, by kernel_rfl⟩
def ti7 : TI := { desc := TypeDesc.struct #[{ name := "x", type := 2, offset := 0, embedded := false, tag := "", pkgPath := "runtime", byteOffset := 0 }, { name := "y", type := 3, offset := 1, embedded := false, tag := "", pkgPath := "runtime", byteOffset := 8 }, { name := "signed", type := 4, offset := 2, embedded := false, tag := "", pkgPath := "runtime", byteOffset := 16 }, { name := "code", type := 6, offset := 3, embedded := false, tag := "", pkgPath := "runtime", byteOffset := 17 }], size := 4, bytes := 24, zero := .agg #[.int .i64 0, .int .i64 0, .bool false, .int .u8 0] }
theorem tk7 : ti7.ok Tryd.prog 7 := ⟨by kernel_rfl, by kernel_rfl⟩
def ti8 : TI := { desc := TypeDesc.struct #[{ name := "x", type := 2, offset := 0, embedded := false, tag := "", pkgPath := "runtime", byteOffset := 0 }, { name := "y", type := 3, offset := 1, embedded := false, tag := "", pkgPath := "runtime", byteOffset := 8 }, { name := "signed", type := 4, offset := 2, embedded := false, tag := "", pkgPath := "runtime", byteOffset := 16 }, { name := "code", type := 6, offset := 3, embedded := false, tag := "", pkgPath := "runtime", byteOffset := 17 }], size := 4, bytes := 24, zero := .agg #[.int .i64 0, .int .i64 0, .bool false, .int .u8 0] }
theorem tk8 : ti8.ok Tryd.prog 8 := ⟨by kernel_rfl, by kernel_rfl⟩
def ti9 : TI := { desc := TypeDesc.string, size := 1, bytes := 16, zero := .string (str []) }
theorem tk9 : ti9.ok Tryd.prog 9 := ⟨by kernel_rfl, by kernel_rfl⟩
def ti10 : TI := { desc := TypeDesc.string, size := 1, bytes := 16, zero := .string (str []) }
theorem tk10 : ti10.ok Tryd.prog 10 := ⟨by kernel_rfl, by kernel_rfl⟩
def ti11 : TI := { desc := TypeDesc.string, size := 1, bytes := 16, zero := .string (str []) }
theorem tk11 : ti11.ok Tryd.prog 11 := ⟨by kernel_rfl, by kernel_rfl⟩
def ti12 : TI := { desc := TypeDesc.int IntKind.u64, size := 1, bytes := 8, zero := .int .u64 0 }
theorem tk12 : ti12.ok Tryd.prog 12 := ⟨by kernel_rfl, by kernel_rfl⟩
def ti13 : TI := { desc := TypeDesc.struct #[{ name := "msg", type := 9, offset := 0, embedded := false, tag := "", pkgPath := "runtime", byteOffset := 0 }, { name := "addr", type := 12, offset := 1, embedded := false, tag := "", pkgPath := "runtime", byteOffset := 16 }], size := 2, bytes := 24, zero := .agg #[.string (str []), .int .u64 0] }
theorem tk13 : ti13.ok Tryd.prog 13 := ⟨by kernel_rfl, by kernel_rfl⟩
def ti14 : TI := { desc := TypeDesc.struct #[{ name := "msg", type := 9, offset := 0, embedded := false, tag := "", pkgPath := "runtime", byteOffset := 0 }, { name := "addr", type := 12, offset := 1, embedded := false, tag := "", pkgPath := "runtime", byteOffset := 16 }], size := 2, bytes := 24, zero := .agg #[.string (str []), .int .u64 0] }
theorem tk14 : ti14.ok Tryd.prog 14 := ⟨by kernel_rfl, by kernel_rfl⟩
def ti15 : TI := { desc := TypeDesc.pointer 219, size := 1, bytes := 8, zero := .pointer none }
theorem tk15 : ti15.ok Tryd.prog 15 := ⟨by kernel_rfl, by kernel_rfl⟩
def ti16 : TI := { desc := TypeDesc.pointer 222, size := 1, bytes := 8, zero := .pointer none }
theorem tk16 : ti16.ok Tryd.prog 16 := ⟨by kernel_rfl, by kernel_rfl⟩
def ti17 : TI := { desc := TypeDesc.pointer 229, size := 1, bytes := 8, zero := .pointer none }
theorem tk17 : ti17.ok Tryd.prog 17 := ⟨by kernel_rfl, by kernel_rfl⟩
def ti18 : TI := { desc := TypeDesc.struct #[{ name := "typ", type := 17, offset := 0, embedded := false, tag := "", pkgPath := "internal/runtime/maps", byteOffset := 0 }], size := 1, bytes := 8, zero := .agg #[.pointer none] }
theorem tk18 : ti18.ok Tryd.prog 18 := ⟨by kernel_rfl, by kernel_rfl⟩
def ti19 : TI := { desc := TypeDesc.struct #[{ name := "typ", type := 17, offset := 0, embedded := false, tag := "", pkgPath := "internal/runtime/maps", byteOffset := 0 }], size := 1, bytes := 8, zero := .agg #[.pointer none] }
theorem tk19 : ti19.ok Tryd.prog 19 := ⟨by kernel_rfl, by kernel_rfl⟩
def ti20 : TI := { desc := TypeDesc.interface #[], size := 1, bytes := 16, zero := .nilIface }
theorem tk20 : ti20.ok Tryd.prog 20 := ⟨by kernel_rfl, by kernel_rfl⟩
def ti21 : TI := { desc := TypeDesc.int IntKind.i32, size := 1, bytes := 4, zero := .int .i32 0 }
theorem tk21 : ti21.ok Tryd.prog 21 := ⟨by kernel_rfl, by kernel_rfl⟩
def ti22 : TI := { desc := TypeDesc.slice 27, size := 1, bytes := 24, zero := .slice none 0 0 }
theorem tk22 : ti22.ok Tryd.prog 22 := ⟨by kernel_rfl, by kernel_rfl⟩
def ti23 : TI := { desc := TypeDesc.struct #[{ name := "Rules", type := 22, offset := 0, embedded := false, tag := "", pkgPath := "", byteOffset := 0 }, { name := "Timeout", type := 3, offset := 1, embedded := false, tag := "", pkgPath := "", byteOffset := 24 }, { name := "Drift", type := 3, offset := 2, embedded := false, tag := "", pkgPath := "", byteOffset := 32 }], size := 3, bytes := 40, zero := .agg #[.slice none 0 0, .int .i64 0, .int .i64 0] }
theorem tk23 : ti23.ok Tryd.prog 23 := ⟨by kernel_rfl, by kernel_rfl⟩
def ti24 : TI := { desc := TypeDesc.struct #[{ name := "Rules", type := 22, offset := 0, embedded := false, tag := "", pkgPath := "", byteOffset := 0 }, { name := "Timeout", type := 3, offset := 1, embedded := false, tag := "", pkgPath := "", byteOffset := 24 }, { name := "Drift", type := 3, offset := 2, embedded := false, tag := "", pkgPath := "", byteOffset := 32 }], size := 3, bytes := 40, zero := .agg #[.slice none 0 0, .int .i64 0, .int .i64 0] }
theorem tk24 : ti24.ok Tryd.prog 24 := ⟨by kernel_rfl, by kernel_rfl⟩
def ti25 : TI := { desc := TypeDesc.func #[] #[4] false, size := 1, bytes := 8, zero := .nilFunc }
theorem tk25 : ti25.ok Tryd.prog 25 := ⟨by kernel_rfl, by kernel_rfl⟩
def ti26 : TI := { desc := TypeDesc.struct #[{ name := "Kind", type := 3, offset := 0, embedded := false, tag := "", pkgPath := "", byteOffset := 0 }, { name := "Bound", type := 3, offset := 1, embedded := false, tag := "", pkgPath := "", byteOffset := 8 }, { name := "Percent", type := 3, offset := 2, embedded := false, tag := "", pkgPath := "", byteOffset := 16 }, { name := "Window", type := 3, offset := 3, embedded := false, tag := "", pkgPath := "", byteOffset := 24 }, { name := "Sign", type := 3, offset := 4, embedded := false, tag := "", pkgPath := "", byteOffset := 32 }], size := 5, bytes := 40, zero := .agg #[.int .i64 0, .int .i64 0, .int .i64 0, .int .i64 0, .int .i64 0] }
theorem tk26 : ti26.ok Tryd.prog 26 := ⟨by kernel_rfl, by kernel_rfl⟩
def ti27 : TI := { desc := TypeDesc.struct #[{ name := "Kind", type := 3, offset := 0, embedded := false, tag := "", pkgPath := "", byteOffset := 0 }, { name := "Bound", type := 3, offset := 1, embedded := false, tag := "", pkgPath := "", byteOffset := 8 }, { name := "Percent", type := 3, offset := 2, embedded := false, tag := "", pkgPath := "", byteOffset := 16 }, { name := "Window", type := 3, offset := 3, embedded := false, tag := "", pkgPath := "", byteOffset := 24 }, { name := "Sign", type := 3, offset := 4, embedded := false, tag := "", pkgPath := "", byteOffset := 32 }], size := 5, bytes := 40, zero := .agg #[.int .i64 0, .int .i64 0, .int .i64 0, .int .i64 0, .int .i64 0] }
theorem tk27 : ti27.ok Tryd.prog 27 := ⟨by kernel_rfl, by kernel_rfl⟩
def ti28 : TI := { desc := TypeDesc.func #[27] #[9] false, size := 1, bytes := 8, zero := .nilFunc }
theorem tk28 : ti28.ok Tryd.prog 28 := ⟨by kernel_rfl, by kernel_rfl⟩
def ti29 : TI := { desc := TypeDesc.func #[27] #[4] false, size := 1, bytes := 8, zero := .nilFunc }
theorem tk29 : ti29.ok Tryd.prog 29 := ⟨by kernel_rfl, by kernel_rfl⟩
def ti30 : TI := { desc := TypeDesc.func #[24] #[9] false, size := 1, bytes := 8, zero := .nilFunc }
theorem tk30 : ti30.ok Tryd.prog 30 := ⟨by kernel_rfl, by kernel_rfl⟩
def ti31 : TI := { desc := TypeDesc.slice 9, size := 1, bytes := 24, zero := .slice none 0 0 }
theorem tk31 : ti31.ok Tryd.prog 31 := ⟨by kernel_rfl, by kernel_rfl⟩
def ti32 : TI := { desc := TypeDesc.func #[9, 9] #[31] false, size := 1, bytes := 8, zero := .nilFunc }
theorem tk32 : ti32.ok Tryd.prog 32 := ⟨by kernel_rfl, by kernel_rfl⟩
def ti34 : TI := { desc := TypeDesc.func #[31] #[24, 3] true, size := 1, bytes := 8, zero := .nilFunc }
theorem tk34 : ti34.ok Tryd.prog 34 := ⟨by kernel_rfl, by kernel_rfl⟩
def ti35 : TI := { desc := TypeDesc.func #[24, 24] #[4] false, size := 1, bytes := 8, zero := .nilFunc }
theorem tk35 : ti35.ok Tryd.prog 35 := ⟨by kernel_rfl, by kernel_rfl⟩
def ti36 : TI := { desc := TypeDesc.func #[24] #[4] false, size := 1, bytes := 8, zero := .nilFunc }
theorem tk36 : ti36.ok Tryd.prog 36 := ⟨by kernel_rfl, by kernel_rfl⟩
def ti37 : TI := { desc := TypeDesc.interface #[("Line", 67)], size := 1, bytes := 16, zero := .nilIface }
theorem tk37 : ti37.ok Tryd.prog 37 := ⟨by kernel_rfl, by kernel_rfl⟩
def ti38 : TI := { desc := TypeDesc.interface #[("Line", 67)], size := 1, bytes := 16, zero := .nilIface }
theorem tk38 : ti38.ok Tryd.prog 38 := ⟨by kernel_rfl, by kernel_rfl⟩
def ti40 : TI := { desc := TypeDesc.func #[9] #[38, 4] false, size := 1, bytes := 8, zero := .nilFunc }
theorem tk40 : ti40.ok Tryd.prog 40 := ⟨by kernel_rfl, by kernel_rfl⟩
def ti41 : TI := { desc := TypeDesc.func #[45] #[9] false, size := 1, bytes := 8, zero := .nilFunc }
theorem tk41 : ti41.ok Tryd.prog 41 := ⟨by kernel_rfl, by kernel_rfl⟩
def ti42 : TI := { desc := TypeDesc.struct #[{ name := "Kind", type := 3, offset := 0, embedded := false, tag := "", pkgPath := "", byteOffset := 0 }, { name := "Time", type := 3, offset := 1, embedded := false, tag := "", pkgPath := "", byteOffset := 8 }, { name := "Text", type := 9, offset := 2, embedded := false, tag := "", pkgPath := "", byteOffset := 16 }], size := 3, bytes := 32, zero := .agg #[.int .i64 0, .int .i64 0, .string (str [])] }
theorem tk42 : ti42.ok Tryd.prog 42 := ⟨by kernel_rfl, by kernel_rfl⟩
def ti43 : TI := { desc := TypeDesc.struct #[{ name := "Kind", type := 3, offset := 0, embedded := false, tag := "", pkgPath := "", byteOffset := 0 }, { name := "Time", type := 3, offset := 1, embedded := false, tag := "", pkgPath := "", byteOffset := 8 }, { name := "Text", type := 9, offset := 2, embedded := false, tag := "", pkgPath := "", byteOffset := 16 }], size := 3, bytes := 32, zero := .agg #[.int .i64 0, .int .i64 0, .string (str [])] }
theorem tk43 : ti43.ok Tryd.prog 43 := ⟨by kernel_rfl, by kernel_rfl⟩
def ti44 : TI := { desc := TypeDesc.struct #[{ name := "Kind", type := 3, offset := 0, embedded := false, tag := "", pkgPath := "", byteOffset := 0 }, { name := "Part", type := 3, offset := 1, embedded := false, tag := "", pkgPath := "", byteOffset := 8 }, { name := "Record", type := 43, offset := 2, embedded := false, tag := "", pkgPath := "", byteOffset := 16 }, { name := "Late", type := 4, offset := 5, embedded := false, tag := "", pkgPath := "", byteOffset := 48 }, { name := "At", type := 3, offset := 6, embedded := false, tag := "", pkgPath := "", byteOffset := 56 }, { name := "Err", type := 3, offset := 7, embedded := false, tag := "", pkgPath := "", byteOffset := 64 }], size := 8, bytes := 72, zero := .agg #[.int .i64 0, .int .i64 0, .int .i64 0, .int .i64 0, .string (str []), .bool false, .int .i64 0, .int .i64 0] }
theorem tk44 : ti44.ok Tryd.prog 44 := ⟨by kernel_rfl, by kernel_rfl⟩
def ti45 : TI := { desc := TypeDesc.struct #[{ name := "Kind", type := 3, offset := 0, embedded := false, tag := "", pkgPath := "", byteOffset := 0 }, { name := "Part", type := 3, offset := 1, embedded := false, tag := "", pkgPath := "", byteOffset := 8 }, { name := "Record", type := 43, offset := 2, embedded := false, tag := "", pkgPath := "", byteOffset := 16 }, { name := "Late", type := 4, offset := 5, embedded := false, tag := "", pkgPath := "", byteOffset := 48 }, { name := "At", type := 3, offset := 6, embedded := false, tag := "", pkgPath := "", byteOffset := 56 }, { name := "Err", type := 3, offset := 7, embedded := false, tag := "", pkgPath := "", byteOffset := 64 }], size := 8, bytes := 72, zero := .agg #[.int .i64 0, .int .i64 0, .int .i64 0, .int .i64 0, .string (str []), .bool false, .int .i64 0, .int .i64 0] }
theorem tk45 : ti45.ok Tryd.prog 45 := ⟨by kernel_rfl, by kernel_rfl⟩
def ti46 : TI := { desc := TypeDesc.slice 45, size := 1, bytes := 24, zero := .slice none 0 0 }
theorem tk46 : ti46.ok Tryd.prog 46 := ⟨by kernel_rfl, by kernel_rfl⟩
def ti47 : TI := { desc := TypeDesc.func #[48] #[46] false, size := 1, bytes := 8, zero := .nilFunc }
theorem tk47 : ti47.ok Tryd.prog 47 := ⟨by kernel_rfl, by kernel_rfl⟩
def ti48 : TI := { desc := TypeDesc.slice 38, size := 1, bytes := 24, zero := .slice none 0 0 }
theorem tk48 : ti48.ok Tryd.prog 48 := ⟨by kernel_rfl, by kernel_rfl⟩
def ti49 : TI := { desc := TypeDesc.func #[9] #[4] false, size := 1, bytes := 8, zero := .nilFunc }
theorem tk49 : ti49.ok Tryd.prog 49 := ⟨by kernel_rfl, by kernel_rfl⟩
def ti50 : TI := { desc := TypeDesc.func #[45] #[38] false, size := 1, bytes := 8, zero := .nilFunc }
theorem tk50 : ti50.ok Tryd.prog 50 := ⟨by kernel_rfl, by kernel_rfl⟩
def ti51 : TI := { desc := TypeDesc.func #[45] #[45] false, size := 1, bytes := 8, zero := .nilFunc }
theorem tk51 : ti51.ok Tryd.prog 51 := ⟨by kernel_rfl, by kernel_rfl⟩
def ti52 : TI := { desc := TypeDesc.slice 55, size := 1, bytes := 24, zero := .slice none 0 0 }
theorem tk52 : ti52.ok Tryd.prog 52 := ⟨by kernel_rfl, by kernel_rfl⟩
def ti53 : TI := { desc := TypeDesc.func #[48] #[52] true, size := 1, bytes := 8, zero := .nilFunc }
theorem tk53 : ti53.ok Tryd.prog 53 := ⟨by kernel_rfl, by kernel_rfl⟩
def ti54 : TI := { desc := TypeDesc.struct #[{ name := "Part", type := 3, offset := 0, embedded := false, tag := "", pkgPath := "", byteOffset := 0 }, { name := "Record", type := 43, offset := 1, embedded := false, tag := "", pkgPath := "", byteOffset := 8 }, { name := "Late", type := 4, offset := 4, embedded := false, tag := "", pkgPath := "", byteOffset := 40 }], size := 5, bytes := 48, zero := .agg #[.int .i64 0, .int .i64 0, .int .i64 0, .string (str []), .bool false] }
theorem tk54 : ti54.ok Tryd.prog 54 := ⟨by kernel_rfl, by kernel_rfl⟩
def ti55 : TI := { desc := TypeDesc.struct #[{ name := "Part", type := 3, offset := 0, embedded := false, tag := "", pkgPath := "", byteOffset := 0 }, { name := "Record", type := 43, offset := 1, embedded := false, tag := "", pkgPath := "", byteOffset := 8 }, { name := "Late", type := 4, offset := 4, embedded := false, tag := "", pkgPath := "", byteOffset := 40 }], size := 5, bytes := 48, zero := .agg #[.int .i64 0, .int .i64 0, .int .i64 0, .string (str []), .bool false] }
theorem tk55 : ti55.ok Tryd.prog 55 := ⟨by kernel_rfl, by kernel_rfl⟩
def ti56 : TI := { desc := TypeDesc.slice 59, size := 1, bytes := 24, zero := .slice none 0 0 }
theorem tk56 : ti56.ok Tryd.prog 56 := ⟨by kernel_rfl, by kernel_rfl⟩
def ti57 : TI := { desc := TypeDesc.func #[48] #[56] true, size := 1, bytes := 8, zero := .nilFunc }
theorem tk57 : ti57.ok Tryd.prog 57 := ⟨by kernel_rfl, by kernel_rfl⟩
def ti58 : TI := { desc := TypeDesc.struct #[{ name := "At", type := 3, offset := 0, embedded := false, tag := "", pkgPath := "", byteOffset := 0 }], size := 1, bytes := 8, zero := .agg #[.int .i64 0] }
theorem tk58 : ti58.ok Tryd.prog 58 := ⟨by kernel_rfl, by kernel_rfl⟩
def ti59 : TI := { desc := TypeDesc.struct #[{ name := "At", type := 3, offset := 0, embedded := false, tag := "", pkgPath := "", byteOffset := 0 }], size := 1, bytes := 8, zero := .agg #[.int .i64 0] }
theorem tk59 : ti59.ok Tryd.prog 59 := ⟨by kernel_rfl, by kernel_rfl⟩
def ti60 : TI := { desc := TypeDesc.slice 64, size := 1, bytes := 24, zero := .slice none 0 0 }
theorem tk60 : ti60.ok Tryd.prog 60 := ⟨by kernel_rfl, by kernel_rfl⟩
def ti61 : TI := { desc := TypeDesc.func #[48] #[60] true, size := 1, bytes := 8, zero := .nilFunc }
theorem tk61 : ti61.ok Tryd.prog 61 := ⟨by kernel_rfl, by kernel_rfl⟩
def ti62 : TI := { desc := TypeDesc.int IntKind.i64, size := 1, bytes := 8, zero := .int .i64 0 }
theorem tk62 : ti62.ok Tryd.prog 62 := ⟨by kernel_rfl, by kernel_rfl⟩
def ti63 : TI := { desc := TypeDesc.struct #[{ name := "Part", type := 3, offset := 0, embedded := false, tag := "", pkgPath := "", byteOffset := 0 }, { name := "Err", type := 62, offset := 1, embedded := false, tag := "", pkgPath := "", byteOffset := 8 }], size := 2, bytes := 16, zero := .agg #[.int .i64 0, .int .i64 0] }
theorem tk63 : ti63.ok Tryd.prog 63 := ⟨by kernel_rfl, by kernel_rfl⟩
def ti64 : TI := { desc := TypeDesc.struct #[{ name := "Part", type := 3, offset := 0, embedded := false, tag := "", pkgPath := "", byteOffset := 0 }, { name := "Err", type := 62, offset := 1, embedded := false, tag := "", pkgPath := "", byteOffset := 8 }], size := 2, bytes := 16, zero := .agg #[.int .i64 0, .int .i64 0] }
theorem tk64 : ti64.ok Tryd.prog 64 := ⟨by kernel_rfl, by kernel_rfl⟩
def ti65 : TI := { desc := TypeDesc.func #[48] #[3] true, size := 1, bytes := 8, zero := .nilFunc }
theorem tk65 : ti65.ok Tryd.prog 65 := ⟨by kernel_rfl, by kernel_rfl⟩
def ti66 : TI := { desc := TypeDesc.func #[46] #[4] false, size := 1, bytes := 8, zero := .nilFunc }
theorem tk66 : ti66.ok Tryd.prog 66 := ⟨by kernel_rfl, by kernel_rfl⟩
def ti67 : TI := { desc := TypeDesc.func #[] #[9] false, size := 1, bytes := 8, zero := .nilFunc }
theorem tk67 : ti67.ok Tryd.prog 67 := ⟨by kernel_rfl, by kernel_rfl⟩
def ti68 : TI := { desc := TypeDesc.func #[38] #[3] false, size := 1, bytes := 8, zero := .nilFunc }
theorem tk68 : ti68.ok Tryd.prog 68 := ⟨by kernel_rfl, by kernel_rfl⟩
def ti69 : TI := { desc := TypeDesc.func #[48] #[9] true, size := 1, bytes := 8, zero := .nilFunc }
theorem tk69 : ti69.ok Tryd.prog 69 := ⟨by kernel_rfl, by kernel_rfl⟩
def ti70 : TI := { desc := TypeDesc.func #[45] #[4] false, size := 1, bytes := 8, zero := .nilFunc }
theorem tk70 : ti70.ok Tryd.prog 70 := ⟨by kernel_rfl, by kernel_rfl⟩
def ti71 : TI := { desc := TypeDesc.slice 3, size := 1, bytes := 24, zero := .slice none 0 0 }
theorem tk71 : ti71.ok Tryd.prog 71 := ⟨by kernel_rfl, by kernel_rfl⟩
def ti72 : TI := { desc := TypeDesc.pointer 126, size := 1, bytes := 8, zero := .pointer none }
theorem tk72 : ti72.ok Tryd.prog 72 := ⟨by kernel_rfl, by kernel_rfl⟩
def ti73 : TI := { desc := TypeDesc.func #[3] #[72] false, size := 1, bytes := 8, zero := .nilFunc }
theorem tk73 : ti73.ok Tryd.prog 73 := ⟨by kernel_rfl, by kernel_rfl⟩
def ti74 : TI := { desc := TypeDesc.func #[] #[3] false, size := 1, bytes := 8, zero := .nilFunc }
theorem tk74 : ti74.ok Tryd.prog 74 := ⟨by kernel_rfl, by kernel_rfl⟩
def ti75 : TI := { desc := TypeDesc.pointer 128, size := 1, bytes := 8, zero := .pointer none }
theorem tk75 : ti75.ok Tryd.prog 75 := ⟨by kernel_rfl, by kernel_rfl⟩
def ti76 : TI := { desc := TypeDesc.func #[3] #[75] false, size := 1, bytes := 8, zero := .nilFunc }
theorem tk76 : ti76.ok Tryd.prog 76 := ⟨by kernel_rfl, by kernel_rfl⟩
def ti77 : TI := { desc := TypeDesc.pointer 135, size := 1, bytes := 8, zero := .pointer none }
theorem tk77 : ti77.ok Tryd.prog 77 := ⟨by kernel_rfl, by kernel_rfl⟩
def ti78 : TI := { desc := TypeDesc.func #[3, 3] #[77] false, size := 1, bytes := 8, zero := .nilFunc }
theorem tk78 : ti78.ok Tryd.prog 78 := ⟨by kernel_rfl, by kernel_rfl⟩
def ti79 : TI := { desc := TypeDesc.func #[43] #[] false, size := 1, bytes := 8, zero := .nilFunc }
theorem tk79 : ti79.ok Tryd.prog 79 := ⟨by kernel_rfl, by kernel_rfl⟩
def ti80 : TI := { desc := TypeDesc.func #[71, 5, 5] #[4] false, size := 1, bytes := 8, zero := .nilFunc }
theorem tk80 : ti80.ok Tryd.prog 80 := ⟨by kernel_rfl, by kernel_rfl⟩
def ti81 : TI := { desc := TypeDesc.int IntKind.u16, size := 1, bytes := 2, zero := .int .u16 0 }
theorem tk81 : ti81.ok Tryd.prog 81 := ⟨by kernel_rfl, by kernel_rfl⟩
def ti82 : TI := { desc := TypeDesc.pointer 143, size := 1, bytes := 8, zero := .pointer none }
theorem tk82 : ti82.ok Tryd.prog 82 := ⟨by kernel_rfl, by kernel_rfl⟩
def ti83 : TI := { desc := TypeDesc.func #[] #[82] false, size := 1, bytes := 8, zero := .nilFunc }
theorem tk83 : ti83.ok Tryd.prog 83 := ⟨by kernel_rfl, by kernel_rfl⟩
def ti84 : TI := { desc := TypeDesc.int IntKind.u32, size := 1, bytes := 4, zero := .int .u32 0 }
theorem tk84 : ti84.ok Tryd.prog 84 := ⟨by kernel_rfl, by kernel_rfl⟩
def ti85 : TI := { desc := TypeDesc.func #[9] #[84] false, size := 1, bytes := 8, zero := .nilFunc }
theorem tk85 : ti85.ok Tryd.prog 85 := ⟨by kernel_rfl, by kernel_rfl⟩
def ti86 : TI := { desc := TypeDesc.func #[9] #[9] false, size := 1, bytes := 8, zero := .nilFunc }
theorem tk86 : ti86.ok Tryd.prog 86 := ⟨by kernel_rfl, by kernel_rfl⟩
def ti88 : TI := { desc := TypeDesc.func #[9] #[9, 4] false, size := 1, bytes := 8, zero := .nilFunc }
theorem tk88 : ti88.ok Tryd.prog 88 := ⟨by kernel_rfl, by kernel_rfl⟩
def ti89 : TI := { desc := TypeDesc.slice 5, size := 1, bytes := 24, zero := .slice none 0 0 }
theorem tk89 : ti89.ok Tryd.prog 89 := ⟨by kernel_rfl, by kernel_rfl⟩
def ti90 : TI := { desc := TypeDesc.func #[9, 81, 5] #[4] false, size := 1, bytes := 8, zero := .nilFunc }
theorem tk90 : ti90.ok Tryd.prog 90 := ⟨by kernel_rfl, by kernel_rfl⟩
def ti91 : TI := { desc := TypeDesc.slice 95, size := 1, bytes := 24, zero := .slice none 0 0 }
theorem tk91 : ti91.ok Tryd.prog 91 := ⟨by kernel_rfl, by kernel_rfl⟩
def ti92 : TI := { desc := TypeDesc.func #[24] #[62] false, size := 1, bytes := 8, zero := .nilFunc }
theorem tk92 : ti92.ok Tryd.prog 92 := ⟨by kernel_rfl, by kernel_rfl⟩
def ti93 : TI := { desc := TypeDesc.func #[95] #[9] false, size := 1, bytes := 8, zero := .nilFunc }
theorem tk93 : ti93.ok Tryd.prog 93 := ⟨by kernel_rfl, by kernel_rfl⟩
def ti94 : TI := { desc := TypeDesc.struct #[{ name := "Tick", type := 4, offset := 0, embedded := false, tag := "", pkgPath := "", byteOffset := 0 }, { name := "N", type := 3, offset := 1, embedded := false, tag := "", pkgPath := "", byteOffset := 8 }], size := 2, bytes := 16, zero := .agg #[.bool false, .int .i64 0] }
theorem tk94 : ti94.ok Tryd.prog 94 := ⟨by kernel_rfl, by kernel_rfl⟩
def ti95 : TI := { desc := TypeDesc.struct #[{ name := "Tick", type := 4, offset := 0, embedded := false, tag := "", pkgPath := "", byteOffset := 0 }, { name := "N", type := 3, offset := 1, embedded := false, tag := "", pkgPath := "", byteOffset := 8 }], size := 2, bytes := 16, zero := .agg #[.bool false, .int .i64 0] }
theorem tk95 : ti95.ok Tryd.prog 95 := ⟨by kernel_rfl, by kernel_rfl⟩
def ti96 : TI := { desc := TypeDesc.func #[3] #[95] false, size := 1, bytes := 8, zero := .nilFunc }
theorem tk96 : ti96.ok Tryd.prog 96 := ⟨by kernel_rfl, by kernel_rfl⟩
def ti97 : TI := { desc := TypeDesc.func #[9, 9] #[9] false, size := 1, bytes := 8, zero := .nilFunc }
theorem tk97 : ti97.ok Tryd.prog 97 := ⟨by kernel_rfl, by kernel_rfl⟩
def ti99 : TI := { desc := TypeDesc.func #[9] #[95, 4] false, size := 1, bytes := 8, zero := .nilFunc }
theorem tk99 : ti99.ok Tryd.prog 99 := ⟨by kernel_rfl, by kernel_rfl⟩
def ti100 : TI := { desc := TypeDesc.func #[24, 91] #[4] false, size := 1, bytes := 8, zero := .nilFunc }
theorem tk100 : ti100.ok Tryd.prog 100 := ⟨by kernel_rfl, by kernel_rfl⟩
def ti101 : TI := { desc := TypeDesc.array 3 9, size := 3, bytes := 48, zero := .agg #[.string (str []), .string (str []), .string (str [])] }
theorem tk101 : ti101.ok Tryd.prog 101 := ⟨by kernel_rfl, by kernel_rfl⟩
def ti102 : TI := { desc := TypeDesc.func #[] #[101] false, size := 1, bytes := 8, zero := .nilFunc }
theorem tk102 : ti102.ok Tryd.prog 102 := ⟨by kernel_rfl, by kernel_rfl⟩
def ti103 : TI := { desc := TypeDesc.func #[9, 71] #[9] true, size := 1, bytes := 8, zero := .nilFunc }
theorem tk103 : ti103.ok Tryd.prog 103 := ⟨by kernel_rfl, by kernel_rfl⟩
def ti104 : TI := { desc := TypeDesc.func #[3] #[9] false, size := 1, bytes := 8, zero := .nilFunc }
theorem tk104 : ti104.ok Tryd.prog 104 := ⟨by kernel_rfl, by kernel_rfl⟩
def ti105 : TI := { desc := TypeDesc.pointer 107, size := 1, bytes := 8, zero := .pointer none }
theorem tk105 : ti105.ok Tryd.prog 105 := ⟨by kernel_rfl, by kernel_rfl⟩
def ti106 : TI := { desc := TypeDesc.struct #[{ name := "addr", type := 105, offset := 0, embedded := false, tag := "", pkgPath := "strings", byteOffset := 0 }, { name := "buf", type := 89, offset := 1, embedded := false, tag := "", pkgPath := "strings", byteOffset := 8 }], size := 2, bytes := 32, zero := .agg #[.pointer none, .slice none 0 0] }
theorem tk106 : ti106.ok Tryd.prog 106 := ⟨by kernel_rfl, by kernel_rfl⟩
def ti107 : TI := { desc := TypeDesc.struct #[{ name := "addr", type := 105, offset := 0, embedded := false, tag := "", pkgPath := "strings", byteOffset := 0 }, { name := "buf", type := 89, offset := 1, embedded := false, tag := "", pkgPath := "strings", byteOffset := 8 }], size := 2, bytes := 32, zero := .agg #[.pointer none, .slice none 0 0] }
theorem tk107 : ti107.ok Tryd.prog 107 := ⟨by kernel_rfl, by kernel_rfl⟩
def ti108 : TI := { desc := TypeDesc.interface #[("Error", 67)], size := 1, bytes := 16, zero := .nilIface }
theorem tk108 : ti108.ok Tryd.prog 108 := ⟨by kernel_rfl, by kernel_rfl⟩
def ti109 : TI := { desc := TypeDesc.interface #[("Error", 67)], size := 1, bytes := 16, zero := .nilIface }
theorem tk109 : ti109.ok Tryd.prog 109 := ⟨by kernel_rfl, by kernel_rfl⟩
def ti111 : TI := { desc := TypeDesc.func #[9] #[3, 109] false, size := 1, bytes := 8, zero := .nilFunc }
theorem tk111 : ti111.ok Tryd.prog 111 := ⟨by kernel_rfl, by kernel_rfl⟩
def ti112 : TI := { desc := TypeDesc.func #[9, 9, 3, 3] #[31] false, size := 1, bytes := 8, zero := .nilFunc }
theorem tk112 : ti112.ok Tryd.prog 112 := ⟨by kernel_rfl, by kernel_rfl⟩
def ti114 : TI := { desc := TypeDesc.func #[31] #[71, 4] true, size := 1, bytes := 8, zero := .nilFunc }
theorem tk114 : ti114.ok Tryd.prog 114 := ⟨by kernel_rfl, by kernel_rfl⟩
def ti116 : TI := { desc := TypeDesc.func #[9] #[27, 4] false, size := 1, bytes := 8, zero := .nilFunc }
theorem tk116 : ti116.ok Tryd.prog 116 := ⟨by kernel_rfl, by kernel_rfl⟩
def ti118 : TI := { desc := TypeDesc.func #[9, 9] #[9, 9, 4] false, size := 1, bytes := 8, zero := .nilFunc }
theorem tk118 : ti118.ok Tryd.prog 118 := ⟨by kernel_rfl, by kernel_rfl⟩
def ti119 : TI := { desc := TypeDesc.func #[9, 9, 3] #[31] false, size := 1, bytes := 8, zero := .nilFunc }
theorem tk119 : ti119.ok Tryd.prog 119 := ⟨by kernel_rfl, by kernel_rfl⟩
def ti123 : TI := { desc := TypeDesc.struct #[{ name := "at", type := 3, offset := 0, embedded := false, tag := "", pkgPath := "tidewaiter/clamp", byteOffset := 0 }, { name := "set", type := 4, offset := 1, embedded := false, tag := "", pkgPath := "tidewaiter/clamp", byteOffset := 8 }], size := 2, bytes := 16, zero := .agg #[.int .i64 0, .bool false] }
theorem tk123 : ti123.ok Tryd.prog 123 := ⟨by kernel_rfl, by kernel_rfl⟩
def ti124 : TI := { desc := TypeDesc.struct #[{ name := "at", type := 3, offset := 0, embedded := false, tag := "", pkgPath := "tidewaiter/clamp", byteOffset := 0 }, { name := "set", type := 4, offset := 1, embedded := false, tag := "", pkgPath := "tidewaiter/clamp", byteOffset := 8 }], size := 2, bytes := 16, zero := .agg #[.int .i64 0, .bool false] }
theorem tk124 : ti124.ok Tryd.prog 124 := ⟨by kernel_rfl, by kernel_rfl⟩
def ti125 : TI := { desc := TypeDesc.struct #[{ name := "sign", type := 3, offset := 0, embedded := false, tag := "", pkgPath := "tidewaiter/punct", byteOffset := 0 }, { name := "Clamp", type := 124, offset := 1, embedded := true, tag := "", pkgPath := "", byteOffset := 8 }], size := 3, bytes := 24, zero := .agg #[.int .i64 0, .int .i64 0, .bool false] }
theorem tk125 : ti125.ok Tryd.prog 125 := ⟨by kernel_rfl, by kernel_rfl⟩
def ti126 : TI := { desc := TypeDesc.struct #[{ name := "sign", type := 3, offset := 0, embedded := false, tag := "", pkgPath := "tidewaiter/punct", byteOffset := 0 }, { name := "Clamp", type := 124, offset := 1, embedded := true, tag := "", pkgPath := "", byteOffset := 8 }], size := 3, bytes := 24, zero := .agg #[.int .i64 0, .int .i64 0, .bool false] }
theorem tk126 : ti126.ok Tryd.prog 126 := ⟨by kernel_rfl, by kernel_rfl⟩
def ti127 : TI := { desc := TypeDesc.struct #[{ name := "bound", type := 3, offset := 0, embedded := false, tag := "", pkgPath := "tidewaiter/bounded", byteOffset := 0 }, { name := "Clamp", type := 124, offset := 1, embedded := true, tag := "", pkgPath := "", byteOffset := 8 }, { name := "most", type := 124, offset := 3, embedded := false, tag := "", pkgPath := "tidewaiter/bounded", byteOffset := 24 }], size := 5, bytes := 40, zero := .agg #[.int .i64 0, .int .i64 0, .bool false, .int .i64 0, .bool false] }
theorem tk127 : ti127.ok Tryd.prog 127 := ⟨by kernel_rfl, by kernel_rfl⟩
def ti128 : TI := { desc := TypeDesc.struct #[{ name := "bound", type := 3, offset := 0, embedded := false, tag := "", pkgPath := "tidewaiter/bounded", byteOffset := 0 }, { name := "Clamp", type := 124, offset := 1, embedded := true, tag := "", pkgPath := "", byteOffset := 8 }, { name := "most", type := 124, offset := 3, embedded := false, tag := "", pkgPath := "tidewaiter/bounded", byteOffset := 24 }], size := 5, bytes := 40, zero := .agg #[.int .i64 0, .int .i64 0, .bool false, .int .i64 0, .bool false] }
theorem tk128 : ti128.ok Tryd.prog 128 := ⟨by kernel_rfl, by kernel_rfl⟩
def ti129 : TI := { desc := TypeDesc.pointer 159, size := 1, bytes := 8, zero := .pointer none }
theorem tk129 : ti129.ok Tryd.prog 129 := ⟨by kernel_rfl, by kernel_rfl⟩
def ti130 : TI := { desc := TypeDesc.func #[3] #[129] false, size := 1, bytes := 8, zero := .nilFunc }
theorem tk130 : ti130.ok Tryd.prog 130 := ⟨by kernel_rfl, by kernel_rfl⟩
def ti131 : TI := { desc := TypeDesc.slice 164, size := 1, bytes := 24, zero := .slice none 0 0 }
theorem tk131 : ti131.ok Tryd.prog 131 := ⟨by kernel_rfl, by kernel_rfl⟩
def ti132 : TI := { desc := TypeDesc.struct #[{ name := "l", type := 131, offset := 0, embedded := false, tag := "", pkgPath := "tidewaiter/hist", byteOffset := 0 }, { name := "all", type := 3, offset := 1, embedded := false, tag := "", pkgPath := "tidewaiter/hist", byteOffset := 24 }], size := 2, bytes := 32, zero := .agg #[.slice none 0 0, .int .i64 0] }
theorem tk132 : ti132.ok Tryd.prog 132 := ⟨by kernel_rfl, by kernel_rfl⟩
def ti133 : TI := { desc := TypeDesc.struct #[{ name := "l", type := 131, offset := 0, embedded := false, tag := "", pkgPath := "tidewaiter/hist", byteOffset := 0 }, { name := "all", type := 3, offset := 1, embedded := false, tag := "", pkgPath := "tidewaiter/hist", byteOffset := 24 }], size := 2, bytes := 32, zero := .agg #[.slice none 0 0, .int .i64 0] }
theorem tk133 : ti133.ok Tryd.prog 133 := ⟨by kernel_rfl, by kernel_rfl⟩
def ti134 : TI := { desc := TypeDesc.struct #[{ name := "percent", type := 3, offset := 0, embedded := false, tag := "", pkgPath := "tidewaiter/percent", byteOffset := 0 }, { name := "lags", type := 129, offset := 1, embedded := false, tag := "", pkgPath := "tidewaiter/percent", byteOffset := 8 }, { name := "counts", type := 133, offset := 2, embedded := false, tag := "", pkgPath := "tidewaiter/percent", byteOffset := 16 }, { name := "most", type := 124, offset := 4, embedded := false, tag := "", pkgPath := "tidewaiter/percent", byteOffset := 48 }, { name := "Clamp", type := 124, offset := 6, embedded := true, tag := "", pkgPath := "", byteOffset := 64 }], size := 8, bytes := 80, zero := .agg #[.int .i64 0, .pointer none, .slice none 0 0, .int .i64 0, .int .i64 0, .bool false, .int .i64 0, .bool false] }
theorem tk134 : ti134.ok Tryd.prog 134 := ⟨by kernel_rfl, by kernel_rfl⟩
def ti135 : TI := { desc := TypeDesc.struct #[{ name := "percent", type := 3, offset := 0, embedded := false, tag := "", pkgPath := "tidewaiter/percent", byteOffset := 0 }, { name := "lags", type := 129, offset := 1, embedded := false, tag := "", pkgPath := "tidewaiter/percent", byteOffset := 8 }, { name := "counts", type := 133, offset := 2, embedded := false, tag := "", pkgPath := "tidewaiter/percent", byteOffset := 16 }, { name := "most", type := 124, offset := 4, embedded := false, tag := "", pkgPath := "tidewaiter/percent", byteOffset := 48 }, { name := "Clamp", type := 124, offset := 6, embedded := true, tag := "", pkgPath := "", byteOffset := 64 }], size := 8, bytes := 80, zero := .agg #[.int .i64 0, .pointer none, .slice none 0 0, .int .i64 0, .int .i64 0, .bool false, .int .i64 0, .bool false] }
theorem tk135 : ti135.ok Tryd.prog 135 := ⟨by kernel_rfl, by kernel_rfl⟩
def ti136 : TI := { desc := TypeDesc.func #[43, 3] #[4] false, size := 1, bytes := 8, zero := .nilFunc }
theorem tk136 : ti136.ok Tryd.prog 136 := ⟨by kernel_rfl, by kernel_rfl⟩
def ti137 : TI := { desc := TypeDesc.func #[3] #[4] false, size := 1, bytes := 8, zero := .nilFunc }
theorem tk137 : ti137.ok Tryd.prog 137 := ⟨by kernel_rfl, by kernel_rfl⟩
def ti138 : TI := { desc := TypeDesc.func #[3, 3] #[3] false, size := 1, bytes := 8, zero := .nilFunc }
theorem tk138 : ti138.ok Tryd.prog 138 := ⟨by kernel_rfl, by kernel_rfl⟩
def ti140 : TI := { desc := TypeDesc.func #[3] #[3, 4] false, size := 1, bytes := 8, zero := .nilFunc }
theorem tk140 : ti140.ok Tryd.prog 140 := ⟨by kernel_rfl, by kernel_rfl⟩
def ti141 : TI := { desc := TypeDesc.func #[3] #[] false, size := 1, bytes := 8, zero := .nilFunc }
theorem tk141 : ti141.ok Tryd.prog 141 := ⟨by kernel_rfl, by kernel_rfl⟩
def ti142 : TI := { desc := TypeDesc.array 256 84, size := 256, bytes := 1024, zero := .agg (List.replicate 256 (.int .u32 0)).toArray }
theorem tk142 : ti142.ok Tryd.prog 142 := ⟨by kernel_rfl, by kernel_rfl⟩
def ti143 : TI := { desc := TypeDesc.array 256 84, size := 256, bytes := 1024, zero := .agg (List.replicate 256 (.int .u32 0)).toArray }
theorem tk143 : ti143.ok Tryd.prog 143 := ⟨by kernel_rfl, by kernel_rfl⟩
def ti144 : TI := { desc := TypeDesc.int IntKind.u64, size := 1, bytes := 8, zero := .int .u64 0 }
theorem tk144 : ti144.ok Tryd.prog 144 := ⟨by kernel_rfl, by kernel_rfl⟩
def ti145 : TI := { desc := TypeDesc.func #[5] #[109] false, size := 1, bytes := 8, zero := .nilFunc }
theorem tk145 : ti145.ok Tryd.prog 145 := ⟨by kernel_rfl, by kernel_rfl⟩
def ti146 : TI := { desc := TypeDesc.func #[9, 3, 21] #[4] false, size := 1, bytes := 8, zero := .nilFunc }
theorem tk146 : ti146.ok Tryd.prog 146 := ⟨by kernel_rfl, by kernel_rfl⟩
def ti147 : TI := { desc := TypeDesc.func #[2, 3] #[9] false, size := 1, bytes := 8, zero := .nilFunc }
theorem tk147 : ti147.ok Tryd.prog 147 := ⟨by kernel_rfl, by kernel_rfl⟩
def ti148 : TI := { desc := TypeDesc.func #[21] #[3, 109] false, size := 1, bytes := 8, zero := .nilFunc }
theorem tk148 : ti148.ok Tryd.prog 148 := ⟨by kernel_rfl, by kernel_rfl⟩
def ti149 : TI := { desc := TypeDesc.func #[21] #[4] false, size := 1, bytes := 8, zero := .nilFunc }
theorem tk149 : ti149.ok Tryd.prog 149 := ⟨by kernel_rfl, by kernel_rfl⟩
def ti151 : TI := { desc := TypeDesc.func #[9] #[9, 3] false, size := 1, bytes := 8, zero := .nilFunc }
theorem tk151 : ti151.ok Tryd.prog 151 := ⟨by kernel_rfl, by kernel_rfl⟩
def ti152 : TI := { desc := TypeDesc.func #[27] #[62] false, size := 1, bytes := 8, zero := .nilFunc }
theorem tk152 : ti152.ok Tryd.prog 152 := ⟨by kernel_rfl, by kernel_rfl⟩
def ti153 : TI := { desc := TypeDesc.pointer 5, size := 1, bytes := 8, zero := .pointer none }
theorem tk153 : ti153.ok Tryd.prog 153 := ⟨by kernel_rfl, by kernel_rfl⟩
def ti154 : TI := { desc := TypeDesc.func #[9, 3] #[31] false, size := 1, bytes := 8, zero := .nilFunc }
theorem tk154 : ti154.ok Tryd.prog 154 := ⟨by kernel_rfl, by kernel_rfl⟩
def ti155 : TI := { desc := TypeDesc.func #[9, 9] #[3] false, size := 1, bytes := 8, zero := .nilFunc }
theorem tk155 : ti155.ok Tryd.prog 155 := ⟨by kernel_rfl, by kernel_rfl⟩
def ti156 : TI := { desc := TypeDesc.func #[9] #[71] false, size := 1, bytes := 8, zero := .nilFunc }
theorem tk156 : ti156.ok Tryd.prog 156 := ⟨by kernel_rfl, by kernel_rfl⟩
def ti157 : TI := { desc := TypeDesc.pointer 124, size := 1, bytes := 8, zero := .pointer none }
theorem tk157 : ti157.ok Tryd.prog 157 := ⟨by kernel_rfl, by kernel_rfl⟩
def ti158 : TI := { desc := TypeDesc.struct #[{ name := "l", type := 71, offset := 0, embedded := false, tag := "", pkgPath := "tidewaiter/ring", byteOffset := 0 }, { name := "first", type := 3, offset := 1, embedded := false, tag := "", pkgPath := "tidewaiter/ring", byteOffset := 24 }, { name := "many", type := 3, offset := 2, embedded := false, tag := "", pkgPath := "tidewaiter/ring", byteOffset := 32 }], size := 3, bytes := 40, zero := .agg #[.slice none 0 0, .int .i64 0, .int .i64 0] }
theorem tk158 : ti158.ok Tryd.prog 158 := ⟨by kernel_rfl, by kernel_rfl⟩
def ti159 : TI := { desc := TypeDesc.struct #[{ name := "l", type := 71, offset := 0, embedded := false, tag := "", pkgPath := "tidewaiter/ring", byteOffset := 0 }, { name := "first", type := 3, offset := 1, embedded := false, tag := "", pkgPath := "tidewaiter/ring", byteOffset := 24 }, { name := "many", type := 3, offset := 2, embedded := false, tag := "", pkgPath := "tidewaiter/ring", byteOffset := 32 }], size := 3, bytes := 40, zero := .agg #[.slice none 0 0, .int .i64 0, .int .i64 0] }
theorem tk159 : ti159.ok Tryd.prog 159 := ⟨by kernel_rfl, by kernel_rfl⟩
def ti160 : TI := { desc := TypeDesc.func #[9, 3] #[4] false, size := 1, bytes := 8, zero := .nilFunc }
theorem tk160 : ti160.ok Tryd.prog 160 := ⟨by kernel_rfl, by kernel_rfl⟩
def ti161 : TI := { desc := TypeDesc.func #[3] #[3] false, size := 1, bytes := 8, zero := .nilFunc }
theorem tk161 : ti161.ok Tryd.prog 161 := ⟨by kernel_rfl, by kernel_rfl⟩
def ti162 : TI := { desc := TypeDesc.pointer 133, size := 1, bytes := 8, zero := .pointer none }
theorem tk162 : ti162.ok Tryd.prog 162 := ⟨by kernel_rfl, by kernel_rfl⟩
def ti163 : TI := { desc := TypeDesc.struct #[{ name := "n", type := 3, offset := 0, embedded := false, tag := "", pkgPath := "tidewaiter/hist", byteOffset := 0 }, { name := "many", type := 3, offset := 1, embedded := false, tag := "", pkgPath := "tidewaiter/hist", byteOffset := 8 }], size := 2, bytes := 16, zero := .agg #[.int .i64 0, .int .i64 0] }
theorem tk163 : ti163.ok Tryd.prog 163 := ⟨by kernel_rfl, by kernel_rfl⟩
def ti164 : TI := { desc := TypeDesc.struct #[{ name := "n", type := 3, offset := 0, embedded := false, tag := "", pkgPath := "tidewaiter/hist", byteOffset := 0 }, { name := "many", type := 3, offset := 1, embedded := false, tag := "", pkgPath := "tidewaiter/hist", byteOffset := 8 }], size := 2, bytes := 16, zero := .agg #[.int .i64 0, .int .i64 0] }
theorem tk164 : ti164.ok Tryd.prog 164 := ⟨by kernel_rfl, by kernel_rfl⟩
def ti165 : TI := { desc := TypeDesc.func #[131, 3, 3] #[131] false, size := 1, bytes := 8, zero := .nilFunc }
theorem tk165 : ti165.ok Tryd.prog 165 := ⟨by kernel_rfl, by kernel_rfl⟩
def ti166 : TI := { desc := TypeDesc.func #[131, 3, 131] #[131] true, size := 1, bytes := 8, zero := .nilFunc }
theorem tk166 : ti166.ok Tryd.prog 166 := ⟨by kernel_rfl, by kernel_rfl⟩
def ti168 : TI := { desc := TypeDesc.func #[9] #[21, 3] false, size := 1, bytes := 8, zero := .nilFunc }
theorem tk168 : ti168.ok Tryd.prog 168 := ⟨by kernel_rfl, by kernel_rfl⟩
def ti169 : TI := { desc := TypeDesc.func #[89, 21] #[89] false, size := 1, bytes := 8, zero := .nilFunc }
theorem tk169 : ti169.ok Tryd.prog 169 := ⟨by kernel_rfl, by kernel_rfl⟩
def ti170 : TI := { desc := TypeDesc.int IntKind.u64, size := 1, bytes := 8, zero := .int .u64 0 }
theorem tk170 : ti170.ok Tryd.prog 170 := ⟨by kernel_rfl, by kernel_rfl⟩
def ti172 : TI := { desc := TypeDesc.func #[9, 3, 3] #[170, 109] false, size := 1, bytes := 8, zero := .nilFunc }
theorem tk172 : ti172.ok Tryd.prog 172 := ⟨by kernel_rfl, by kernel_rfl⟩
def ti173 : TI := { desc := TypeDesc.func #[9, 9] #[4] false, size := 1, bytes := 8, zero := .nilFunc }
theorem tk173 : ti173.ok Tryd.prog 173 := ⟨by kernel_rfl, by kernel_rfl⟩
def ti174 : TI := { desc := TypeDesc.func #[9, 5] #[3] false, size := 1, bytes := 8, zero := .nilFunc }
theorem tk174 : ti174.ok Tryd.prog 174 := ⟨by kernel_rfl, by kernel_rfl⟩
def ti175 : TI := { desc := TypeDesc.unsafePointer, size := 1, bytes := 8, zero := .pointer none }
theorem tk175 : ti175.ok Tryd.prog 175 := ⟨by kernel_rfl, by kernel_rfl⟩
def ti176 : TI := { desc := TypeDesc.func #[175] #[175] false, size := 1, bytes := 8, zero := .nilFunc }
theorem tk176 : ti176.ok Tryd.prog 176 := ⟨by kernel_rfl, by kernel_rfl⟩
def ti177 : TI := { desc := TypeDesc.func #[9] #[3] false, size := 1, bytes := 8, zero := .nilFunc }
theorem tk177 : ti177.ok Tryd.prog 177 := ⟨by kernel_rfl, by kernel_rfl⟩
def ti178 : TI := { desc := TypeDesc.func #[9, 9, 3, 3, 109] #[109] false, size := 1, bytes := 8, zero := .nilFunc }
theorem tk178 : ti178.ok Tryd.prog 178 := ⟨by kernel_rfl, by kernel_rfl⟩
def ti180 : TI := { desc := TypeDesc.func #[9] #[3, 3] false, size := 1, bytes := 8, zero := .nilFunc }
theorem tk180 : ti180.ok Tryd.prog 180 := ⟨by kernel_rfl, by kernel_rfl⟩
def ti181 : TI := { desc := TypeDesc.func #[131, 3, 182] #[3, 4] false, size := 1, bytes := 8, zero := .nilFunc }
theorem tk181 : ti181.ok Tryd.prog 181 := ⟨by kernel_rfl, by kernel_rfl⟩
def ti182 : TI := { desc := TypeDesc.func #[164, 3] #[3] false, size := 1, bytes := 8, zero := .nilFunc }
theorem tk182 : ti182.ok Tryd.prog 182 := ⟨by kernel_rfl, by kernel_rfl⟩
def ti183 : TI := { desc := TypeDesc.func #[131, 131] #[4] false, size := 1, bytes := 8, zero := .nilFunc }
theorem tk183 : ti183.ok Tryd.prog 183 := ⟨by kernel_rfl, by kernel_rfl⟩
def ti184 : TI := { desc := TypeDesc.func #[131, 3] #[] false, size := 1, bytes := 8, zero := .nilFunc }
theorem tk184 : ti184.ok Tryd.prog 184 := ⟨by kernel_rfl, by kernel_rfl⟩
def ti185 : TI := { desc := TypeDesc.array 24 5, size := 24, bytes := 24, zero := .agg #[.int .u8 0, .int .u8 0, .int .u8 0, .int .u8 0, .int .u8 0, .int .u8 0, .int .u8 0, .int .u8 0, .int .u8 0, .int .u8 0, .int .u8 0, .int .u8 0, .int .u8 0, .int .u8 0, .int .u8 0, .int .u8 0, .int .u8 0, .int .u8 0, .int .u8 0, .int .u8 0, .int .u8 0, .int .u8 0, .int .u8 0, .int .u8 0] }
theorem tk185 : ti185.ok Tryd.prog 185 := ⟨by kernel_rfl, by kernel_rfl⟩
def ti186 : TI := { desc := TypeDesc.func #[170] #[3] false, size := 1, bytes := 8, zero := .nilFunc }
theorem tk186 : ti186.ok Tryd.prog 186 := ⟨by kernel_rfl, by kernel_rfl⟩
def ti187 : TI := { desc := TypeDesc.func #[89, 170] #[] false, size := 1, bytes := 8, zero := .nilFunc }
theorem tk187 : ti187.ok Tryd.prog 187 := ⟨by kernel_rfl, by kernel_rfl⟩
def ti189 : TI := { desc := TypeDesc.func #[89, 170, 3, 4, 4] #[89, 9] false, size := 1, bytes := 8, zero := .nilFunc }
theorem tk189 : ti189.ok Tryd.prog 189 := ⟨by kernel_rfl, by kernel_rfl⟩
def ti190 : TI := { desc := TypeDesc.int IntKind.i64, size := 1, bytes := 8, zero := .int .i64 0 }
theorem tk190 : ti190.ok Tryd.prog 190 := ⟨by kernel_rfl, by kernel_rfl⟩
def ti192 : TI := { desc := TypeDesc.func #[9, 3, 3] #[2, 109] false, size := 1, bytes := 8, zero := .nilFunc }
theorem tk192 : ti192.ok Tryd.prog 192 := ⟨by kernel_rfl, by kernel_rfl⟩
def ti193 : TI := { desc := TypeDesc.pointer 209, size := 1, bytes := 8, zero := .pointer none }
theorem tk193 : ti193.ok Tryd.prog 193 := ⟨by kernel_rfl, by kernel_rfl⟩
def ti194 : TI := { desc := TypeDesc.func #[9, 9] #[193] false, size := 1, bytes := 8, zero := .nilFunc }
theorem tk194 : ti194.ok Tryd.prog 194 := ⟨by kernel_rfl, by kernel_rfl⟩
def ti195 : TI := { desc := TypeDesc.func #[9, 9, 3] #[193] false, size := 1, bytes := 8, zero := .nilFunc }
theorem tk195 : ti195.ok Tryd.prog 195 := ⟨by kernel_rfl, by kernel_rfl⟩
def ti196 : TI := { desc := TypeDesc.func #[9, 3] #[3] false, size := 1, bytes := 8, zero := .nilFunc }
theorem tk196 : ti196.ok Tryd.prog 196 := ⟨by kernel_rfl, by kernel_rfl⟩
def ti197 : TI := { desc := TypeDesc.array 256 5, size := 256, bytes := 256, zero := .agg (List.replicate 256 (.int .u8 0)).toArray }
theorem tk197 : ti197.ok Tryd.prog 197 := ⟨by kernel_rfl, by kernel_rfl⟩
def ti198 : TI := { desc := TypeDesc.struct #[{ name := "lo", type := 5, offset := 0, embedded := false, tag := "", pkgPath := "unicode/utf8", byteOffset := 0 }, { name := "hi", type := 5, offset := 1, embedded := false, tag := "", pkgPath := "unicode/utf8", byteOffset := 1 }], size := 2, bytes := 2, zero := .agg #[.int .u8 0, .int .u8 0] }
theorem tk198 : ti198.ok Tryd.prog 198 := ⟨by kernel_rfl, by kernel_rfl⟩
def ti199 : TI := { desc := TypeDesc.struct #[{ name := "lo", type := 5, offset := 0, embedded := false, tag := "", pkgPath := "unicode/utf8", byteOffset := 0 }, { name := "hi", type := 5, offset := 1, embedded := false, tag := "", pkgPath := "unicode/utf8", byteOffset := 1 }], size := 2, bytes := 2, zero := .agg #[.int .u8 0, .int .u8 0] }
theorem tk199 : ti199.ok Tryd.prog 199 := ⟨by kernel_rfl, by kernel_rfl⟩
def ti200 : TI := { desc := TypeDesc.array 16 199, size := 32, bytes := 32, zero := .agg (List.replicate 32 (.int .u8 0)).toArray }
theorem tk200 : ti200.ok Tryd.prog 200 := ⟨by kernel_rfl, by kernel_rfl⟩
def ti201 : TI := { desc := TypeDesc.func #[4] #[3] false, size := 1, bytes := 8, zero := .nilFunc }
theorem tk201 : ti201.ok Tryd.prog 201 := ⟨by kernel_rfl, by kernel_rfl⟩
def ti202 : TI := { desc := TypeDesc.array 20 170, size := 20, bytes := 160, zero := .agg #[.int .u64 0, .int .u64 0, .int .u64 0, .int .u64 0, .int .u64 0, .int .u64 0, .int .u64 0, .int .u64 0, .int .u64 0, .int .u64 0, .int .u64 0, .int .u64 0, .int .u64 0, .int .u64 0, .int .u64 0, .int .u64 0, .int .u64 0, .int .u64 0, .int .u64 0, .int .u64 0] }
theorem tk202 : ti202.ok Tryd.prog 202 := ⟨by kernel_rfl, by kernel_rfl⟩
def ti203 : TI := { desc := TypeDesc.array 65 5, size := 65, bytes := 65, zero := .agg (List.replicate 65 (.int .u8 0)).toArray }
theorem tk203 : ti203.ok Tryd.prog 203 := ⟨by kernel_rfl, by kernel_rfl⟩
def ti204 : TI := { desc := TypeDesc.func #[144] #[3] false, size := 1, bytes := 8, zero := .nilFunc }
theorem tk204 : ti204.ok Tryd.prog 204 := ⟨by kernel_rfl, by kernel_rfl⟩
def ti205 : TI := { desc := TypeDesc.func #[5] #[5] false, size := 1, bytes := 8, zero := .nilFunc }
theorem tk205 : ti205.ok Tryd.prog 205 := ⟨by kernel_rfl, by kernel_rfl⟩
def ti207 : TI := { desc := TypeDesc.func #[9] #[84, 84] false, size := 1, bytes := 8, zero := .nilFunc }
theorem tk207 : ti207.ok Tryd.prog 207 := ⟨by kernel_rfl, by kernel_rfl⟩
def ti208 : TI := { desc := TypeDesc.struct #[{ name := "Func", type := 9, offset := 0, embedded := false, tag := "", pkgPath := "", byteOffset := 0 }, { name := "Num", type := 9, offset := 1, embedded := false, tag := "", pkgPath := "", byteOffset := 16 }, { name := "Err", type := 109, offset := 2, embedded := false, tag := "", pkgPath := "", byteOffset := 32 }], size := 3, bytes := 48, zero := .agg #[.string (str []), .string (str []), .nilIface] }
theorem tk208 : ti208.ok Tryd.prog 208 := ⟨by kernel_rfl, by kernel_rfl⟩
def ti209 : TI := { desc := TypeDesc.struct #[{ name := "Func", type := 9, offset := 0, embedded := false, tag := "", pkgPath := "", byteOffset := 0 }, { name := "Num", type := 9, offset := 1, embedded := false, tag := "", pkgPath := "", byteOffset := 16 }, { name := "Err", type := 109, offset := 2, embedded := false, tag := "", pkgPath := "", byteOffset := 32 }], size := 3, bytes := 48, zero := .agg #[.string (str []), .string (str []), .nilIface] }
theorem tk209 : ti209.ok Tryd.prog 209 := ⟨by kernel_rfl, by kernel_rfl⟩
def ti210 : TI := { desc := TypeDesc.func #[9] #[109] false, size := 1, bytes := 8, zero := .nilFunc }
theorem tk210 : ti210.ok Tryd.prog 210 := ⟨by kernel_rfl, by kernel_rfl⟩
def ti211 : TI := { desc := TypeDesc.func #[131] #[] false, size := 1, bytes := 8, zero := .nilFunc }
theorem tk211 : ti211.ok Tryd.prog 211 := ⟨by kernel_rfl, by kernel_rfl⟩
def ti212 : TI := { desc := TypeDesc.func #[84] #[3] false, size := 1, bytes := 8, zero := .nilFunc }
theorem tk212 : ti212.ok Tryd.prog 212 := ⟨by kernel_rfl, by kernel_rfl⟩
def ti213 : TI := { desc := TypeDesc.pointer 215, size := 1, bytes := 8, zero := .pointer none }
theorem tk213 : ti213.ok Tryd.prog 213 := ⟨by kernel_rfl, by kernel_rfl⟩
def ti214 : TI := { desc := TypeDesc.struct #[{ name := "s", type := 9, offset := 0, embedded := false, tag := "", pkgPath := "errors", byteOffset := 0 }], size := 1, bytes := 16, zero := .agg #[.string (str [])] }
theorem tk214 : ti214.ok Tryd.prog 214 := ⟨by kernel_rfl, by kernel_rfl⟩
def ti215 : TI := { desc := TypeDesc.struct #[{ name := "s", type := 9, offset := 0, embedded := false, tag := "", pkgPath := "errors", byteOffset := 0 }], size := 1, bytes := 16, zero := .agg #[.string (str [])] }
theorem tk215 : ti215.ok Tryd.prog 215 := ⟨by kernel_rfl, by kernel_rfl⟩
def ti216 : TI := { desc := TypeDesc.array 32 5, size := 32, bytes := 32, zero := .agg (List.replicate 32 (.int .u8 0)).toArray }
theorem tk216 : ti216.ok Tryd.prog 216 := ⟨by kernel_rfl, by kernel_rfl⟩
def ti217 : TI := { desc := TypeDesc.array 64 5, size := 64, bytes := 64, zero := .agg (List.replicate 64 (.int .u8 0)).toArray }
theorem tk217 : ti217.ok Tryd.prog 217 := ⟨by kernel_rfl, by kernel_rfl⟩
def ti218 : TI := { desc := TypeDesc.struct #[{ name := "_interface", type := 17, offset := 0, embedded := false, tag := "", pkgPath := "runtime", byteOffset := 0 }, { name := "concrete", type := 17, offset := 1, embedded := false, tag := "", pkgPath := "runtime", byteOffset := 8 }, { name := "asserted", type := 17, offset := 2, embedded := false, tag := "", pkgPath := "runtime", byteOffset := 16 }, { name := "missingMethod", type := 9, offset := 3, embedded := false, tag := "", pkgPath := "runtime", byteOffset := 24 }], size := 4, bytes := 40, zero := .agg #[.pointer none, .pointer none, .pointer none, .string (str [])] }
theorem tk218 : ti218.ok Tryd.prog 218 := ⟨by kernel_rfl, by kernel_rfl⟩
def ti219 : TI := { desc := TypeDesc.struct #[{ name := "_interface", type := 17, offset := 0, embedded := false, tag := "", pkgPath := "runtime", byteOffset := 0 }, { name := "concrete", type := 17, offset := 1, embedded := false, tag := "", pkgPath := "runtime", byteOffset := 8 }, { name := "asserted", type := 17, offset := 2, embedded := false, tag := "", pkgPath := "runtime", byteOffset := 16 }, { name := "missingMethod", type := 9, offset := 3, embedded := false, tag := "", pkgPath := "runtime", byteOffset := 24 }], size := 4, bytes := 40, zero := .agg #[.pointer none, .pointer none, .pointer none, .string (str [])] }
theorem tk219 : ti219.ok Tryd.prog 219 := ⟨by kernel_rfl, by kernel_rfl⟩
def ti220 : TI := { desc := TypeDesc.array 0 16, size := 0, bytes := 0, zero := .agg #[] }
theorem tk220 : ti220.ok Tryd.prog 220 := ⟨by kernel_rfl, by kernel_rfl⟩
def ti221 : TI := { desc := TypeDesc.struct #[{ name := "_", type := 220, offset := 0, embedded := false, tag := "", pkgPath := "runtime", byteOffset := 0 }], size := 0, bytes := 0, zero := .agg #[] }
theorem tk221 : ti221.ok Tryd.prog 221 := ⟨by kernel_rfl, by kernel_rfl⟩
def ti222 : TI := { desc := TypeDesc.struct #[{ name := "_", type := 220, offset := 0, embedded := false, tag := "", pkgPath := "runtime", byteOffset := 0 }], size := 0, bytes := 0, zero := .agg #[] }
theorem tk222 : ti222.ok Tryd.prog 222 := ⟨by kernel_rfl, by kernel_rfl⟩
def ti223 : TI := { desc := TypeDesc.int IntKind.u8, size := 1, bytes := 1, zero := .int .u8 0 }
theorem tk223 : ti223.ok Tryd.prog 223 := ⟨by kernel_rfl, by kernel_rfl⟩
def ti224 : TI := { desc := TypeDesc.int IntKind.u8, size := 1, bytes := 1, zero := .int .u8 0 }
theorem tk224 : ti224.ok Tryd.prog 224 := ⟨by kernel_rfl, by kernel_rfl⟩
def ti225 : TI := { desc := TypeDesc.func #[175, 175] #[4] false, size := 1, bytes := 8, zero := .nilFunc }
theorem tk225 : ti225.ok Tryd.prog 225 := ⟨by kernel_rfl, by kernel_rfl⟩
def ti226 : TI := { desc := TypeDesc.int IntKind.i32, size := 1, bytes := 4, zero := .int .i32 0 }
theorem tk226 : ti226.ok Tryd.prog 226 := ⟨by kernel_rfl, by kernel_rfl⟩
def ti227 : TI := { desc := TypeDesc.int IntKind.i32, size := 1, bytes := 4, zero := .int .i32 0 }
theorem tk227 : ti227.ok Tryd.prog 227 := ⟨by kernel_rfl, by kernel_rfl⟩
def ti228 : TI := { desc := TypeDesc.struct #[{ name := "Size_", type := 12, offset := 0, embedded := false, tag := "", pkgPath := "", byteOffset := 0 }, { name := "PtrBytes", type := 12, offset := 1, embedded := false, tag := "", pkgPath := "", byteOffset := 8 }, { name := "Hash", type := 84, offset := 2, embedded := false, tag := "", pkgPath := "", byteOffset := 16 }, { name := "TFlag", type := 223, offset := 3, embedded := false, tag := "", pkgPath := "", byteOffset := 20 }, { name := "Align_", type := 5, offset := 4, embedded := false, tag := "", pkgPath := "", byteOffset := 21 }, { name := "FieldAlign_", type := 5, offset := 5, embedded := false, tag := "", pkgPath := "", byteOffset := 22 }, { name := "Kind_", type := 224, offset := 6, embedded := false, tag := "", pkgPath := "", byteOffset := 23 }, { name := "Equal", type := 225, offset := 7, embedded := false, tag := "", pkgPath := "", byteOffset := 24 }, { name := "GCData", type := 153, offset := 8, embedded := false, tag := "", pkgPath := "", byteOffset := 32 }, { name := "Str", type := 226, offset := 9, embedded := false, tag := "", pkgPath := "", byteOffset := 40 }, { name := "PtrToThis", type := 227, offset := 10, embedded := false, tag := "", pkgPath := "", byteOffset := 44 }], size := 11, bytes := 48, zero := .agg #[.int .u64 0, .int .u64 0, .int .u32 0, .int .u8 0, .int .u8 0, .int .u8 0, .int .u8 0, .nilFunc, .pointer none, .int .i32 0, .int .i32 0] }
theorem tk228 : ti228.ok Tryd.prog 228 := ⟨by kernel_rfl, by kernel_rfl⟩
def ti229 : TI := { desc := TypeDesc.struct #[{ name := "Size_", type := 12, offset := 0, embedded := false, tag := "", pkgPath := "", byteOffset := 0 }, { name := "PtrBytes", type := 12, offset := 1, embedded := false, tag := "", pkgPath := "", byteOffset := 8 }, { name := "Hash", type := 84, offset := 2, embedded := false, tag := "", pkgPath := "", byteOffset := 16 }, { name := "TFlag", type := 223, offset := 3, embedded := false, tag := "", pkgPath := "", byteOffset := 20 }, { name := "Align_", type := 5, offset := 4, embedded := false, tag := "", pkgPath := "", byteOffset := 21 }, { name := "FieldAlign_", type := 5, offset := 5, embedded := false, tag := "", pkgPath := "", byteOffset := 22 }, { name := "Kind_", type := 224, offset := 6, embedded := false, tag := "", pkgPath := "", byteOffset := 23 }, { name := "Equal", type := 225, offset := 7, embedded := false, tag := "", pkgPath := "", byteOffset := 24 }, { name := "GCData", type := 153, offset := 8, embedded := false, tag := "", pkgPath := "", byteOffset := 32 }, { name := "Str", type := 226, offset := 9, embedded := false, tag := "", pkgPath := "", byteOffset := 40 }, { name := "PtrToThis", type := 227, offset := 10, embedded := false, tag := "", pkgPath := "", byteOffset := 44 }], size := 11, bytes := 48, zero := .agg #[.int .u64 0, .int .u64 0, .int .u32 0, .int .u8 0, .int .u8 0, .int .u8 0, .int .u8 0, .nilFunc, .pointer none, .int .i32 0, .int .i32 0] }
theorem tk229 : ti229.ok Tryd.prog 229 := ⟨by kernel_rfl, by kernel_rfl⟩
def tyT : Ty := [(1, ti1), (2, ti2), (3, ti3), (4, ti4), (5, ti5), (6, ti6), (7, ti7), (8, ti8), (9, ti9), (10, ti10), (11, ti11), (12, ti12), (13, ti13), (14, ti14), (15, ti15), (16, ti16), (17, ti17), (18, ti18), (19, ti19), (20, ti20), (21, ti21), (22, ti22), (23, ti23), (24, ti24), (25, ti25), (26, ti26), (27, ti27), (28, ti28), (29, ti29), (30, ti30), (31, ti31), (32, ti32), (34, ti34), (35, ti35), (36, ti36), (37, ti37), (38, ti38), (40, ti40), (41, ti41), (42, ti42), (43, ti43), (44, ti44), (45, ti45), (46, ti46), (47, ti47), (48, ti48), (49, ti49), (50, ti50), (51, ti51), (52, ti52), (53, ti53), (54, ti54), (55, ti55), (56, ti56), (57, ti57), (58, ti58), (59, ti59), (60, ti60), (61, ti61), (62, ti62), (63, ti63), (64, ti64), (65, ti65), (66, ti66), (67, ti67), (68, ti68), (69, ti69), (70, ti70), (71, ti71), (72, ti72), (73, ti73), (74, ti74), (75, ti75), (76, ti76), (77, ti77), (78, ti78), (79, ti79), (80, ti80), (81, ti81), (82, ti82), (83, ti83), (84, ti84), (85, ti85), (86, ti86), (88, ti88), (89, ti89), (90, ti90), (91, ti91), (92, ti92), (93, ti93), (94, ti94), (95, ti95), (96, ti96), (97, ti97), (99, ti99), (100, ti100), (101, ti101), (102, ti102), (103, ti103), (104, ti104), (105, ti105), (106, ti106), (107, ti107), (108, ti108), (109, ti109), (111, ti111), (112, ti112), (114, ti114), (116, ti116), (118, ti118), (119, ti119), (123, ti123), (124, ti124), (125, ti125), (126, ti126), (127, ti127), (128, ti128), (129, ti129), (130, ti130), (131, ti131), (132, ti132), (133, ti133), (134, ti134), (135, ti135), (136, ti136), (137, ti137), (138, ti138), (140, ti140), (141, ti141), (142, ti142), (143, ti143), (144, ti144), (145, ti145), (146, ti146), (147, ti147), (148, ti148), (149, ti149), (151, ti151), (152, ti152), (153, ti153), (154, ti154), (155, ti155), (156, ti156), (157, ti157), (158, ti158), (159, ti159), (160, ti160), (161, ti161), (162, ti162), (163, ti163), (164, ti164), (165, ti165), (166, ti166), (168, ti168), (169, ti169), (170, ti170), (172, ti172), (173, ti173), (174, ti174), (175, ti175), (176, ti176), (177, ti177), (178, ti178), (180, ti180), (181, ti181), (182, ti182), (183, ti183), (184, ti184), (185, ti185), (186, ti186), (187, ti187), (189, ti189), (190, ti190), (192, ti192), (193, ti193), (194, ti194), (195, ti195), (196, ti196), (197, ti197), (198, ti198), (199, ti199), (200, ti200), (201, ti201), (202, ti202), (203, ti203), (204, ti204), (205, ti205), (207, ti207), (208, ti208), (209, ti209), (210, ti210), (211, ti211), (212, ti212), (213, ti213), (214, ti214), (215, ti215), (216, ti216), (217, ti217), (218, ti218), (219, ti219), (220, ti220), (221, ti221), (222, ti222), (223, ti223), (224, ti224), (225, ti225), (226, ti226), (227, ti227), (228, ti228), (229, ti229)]
theorem tyOk : TyOk Tryd.prog tyT := TyOk.cons tk1 (TyOk.cons tk2 (TyOk.cons tk3 (TyOk.cons tk4 (TyOk.cons tk5 (TyOk.cons tk6 (TyOk.cons tk7 (TyOk.cons tk8 (TyOk.cons tk9 (TyOk.cons tk10 (TyOk.cons tk11 (TyOk.cons tk12 (TyOk.cons tk13 (TyOk.cons tk14 (TyOk.cons tk15 (TyOk.cons tk16 (TyOk.cons tk17 (TyOk.cons tk18 (TyOk.cons tk19 (TyOk.cons tk20 (TyOk.cons tk21 (TyOk.cons tk22 (TyOk.cons tk23 (TyOk.cons tk24 (TyOk.cons tk25 (TyOk.cons tk26 (TyOk.cons tk27 (TyOk.cons tk28 (TyOk.cons tk29 (TyOk.cons tk30 (TyOk.cons tk31 (TyOk.cons tk32 (TyOk.cons tk34 (TyOk.cons tk35 (TyOk.cons tk36 (TyOk.cons tk37 (TyOk.cons tk38 (TyOk.cons tk40 (TyOk.cons tk41 (TyOk.cons tk42 (TyOk.cons tk43 (TyOk.cons tk44 (TyOk.cons tk45 (TyOk.cons tk46 (TyOk.cons tk47 (TyOk.cons tk48 (TyOk.cons tk49 (TyOk.cons tk50 (TyOk.cons tk51 (TyOk.cons tk52 (TyOk.cons tk53 (TyOk.cons tk54 (TyOk.cons tk55 (TyOk.cons tk56 (TyOk.cons tk57 (TyOk.cons tk58 (TyOk.cons tk59 (TyOk.cons tk60 (TyOk.cons tk61 (TyOk.cons tk62 (TyOk.cons tk63 (TyOk.cons tk64 (TyOk.cons tk65 (TyOk.cons tk66 (TyOk.cons tk67 (TyOk.cons tk68 (TyOk.cons tk69 (TyOk.cons tk70 (TyOk.cons tk71 (TyOk.cons tk72 (TyOk.cons tk73 (TyOk.cons tk74 (TyOk.cons tk75 (TyOk.cons tk76 (TyOk.cons tk77 (TyOk.cons tk78 (TyOk.cons tk79 (TyOk.cons tk80 (TyOk.cons tk81 (TyOk.cons tk82 (TyOk.cons tk83 (TyOk.cons tk84 (TyOk.cons tk85 (TyOk.cons tk86 (TyOk.cons tk88 (TyOk.cons tk89 (TyOk.cons tk90 (TyOk.cons tk91 (TyOk.cons tk92 (TyOk.cons tk93 (TyOk.cons tk94 (TyOk.cons tk95 (TyOk.cons tk96 (TyOk.cons tk97 (TyOk.cons tk99 (TyOk.cons tk100 (TyOk.cons tk101 (TyOk.cons tk102 (TyOk.cons tk103 (TyOk.cons tk104 (TyOk.cons tk105 (TyOk.cons tk106 (TyOk.cons tk107 (TyOk.cons tk108 (TyOk.cons tk109 (TyOk.cons tk111 (TyOk.cons tk112 (TyOk.cons tk114 (TyOk.cons tk116 (TyOk.cons tk118 (TyOk.cons tk119 (TyOk.cons tk123 (TyOk.cons tk124 (TyOk.cons tk125 (TyOk.cons tk126 (TyOk.cons tk127 (TyOk.cons tk128 (TyOk.cons tk129 (TyOk.cons tk130 (TyOk.cons tk131 (TyOk.cons tk132 (TyOk.cons tk133 (TyOk.cons tk134 (TyOk.cons tk135 (TyOk.cons tk136 (TyOk.cons tk137 (TyOk.cons tk138 (TyOk.cons tk140 (TyOk.cons tk141 (TyOk.cons tk142 (TyOk.cons tk143 (TyOk.cons tk144 (TyOk.cons tk145 (TyOk.cons tk146 (TyOk.cons tk147 (TyOk.cons tk148 (TyOk.cons tk149 (TyOk.cons tk151 (TyOk.cons tk152 (TyOk.cons tk153 (TyOk.cons tk154 (TyOk.cons tk155 (TyOk.cons tk156 (TyOk.cons tk157 (TyOk.cons tk158 (TyOk.cons tk159 (TyOk.cons tk160 (TyOk.cons tk161 (TyOk.cons tk162 (TyOk.cons tk163 (TyOk.cons tk164 (TyOk.cons tk165 (TyOk.cons tk166 (TyOk.cons tk168 (TyOk.cons tk169 (TyOk.cons tk170 (TyOk.cons tk172 (TyOk.cons tk173 (TyOk.cons tk174 (TyOk.cons tk175 (TyOk.cons tk176 (TyOk.cons tk177 (TyOk.cons tk178 (TyOk.cons tk180 (TyOk.cons tk181 (TyOk.cons tk182 (TyOk.cons tk183 (TyOk.cons tk184 (TyOk.cons tk185 (TyOk.cons tk186 (TyOk.cons tk187 (TyOk.cons tk189 (TyOk.cons tk190 (TyOk.cons tk192 (TyOk.cons tk193 (TyOk.cons tk194 (TyOk.cons tk195 (TyOk.cons tk196 (TyOk.cons tk197 (TyOk.cons tk198 (TyOk.cons tk199 (TyOk.cons tk200 (TyOk.cons tk201 (TyOk.cons tk202 (TyOk.cons tk203 (TyOk.cons tk204 (TyOk.cons tk205 (TyOk.cons tk207 (TyOk.cons tk208 (TyOk.cons tk209 (TyOk.cons tk210 (TyOk.cons tk211 (TyOk.cons tk212 (TyOk.cons tk213 (TyOk.cons tk214 (TyOk.cons tk215 (TyOk.cons tk216 (TyOk.cons tk217 (TyOk.cons tk218 (TyOk.cons tk219 (TyOk.cons tk220 (TyOk.cons tk221 (TyOk.cons tk222 (TyOk.cons tk223 (TyOk.cons tk224 (TyOk.cons tk225 (TyOk.cons tk226 (TyOk.cons tk227 (TyOk.cons tk228 (TyOk.cons tk229 ( TyOk.nil _))))))))))))))))))))))))))))))))))))))))))))))))))))))))))))))))))))))))))))))))))))))))))))))))))))))))))))))))))))))))))))))))))))))))))))))))))))))))))))))))))))))))))))))))))))))))))))))))))))))))))))))))))
theorem ck2 : CallOk Tryd.prog 2 := ⟨_, Tryd.func2, by kernel_rfl, by kernel_rfl⟩
theorem ck3 : CallOk Tryd.prog 3 := ⟨_, Tryd.func3, by kernel_rfl, by kernel_rfl⟩
theorem ck4 : CallOk Tryd.prog 4 := ⟨_, Tryd.func4, by kernel_rfl, by kernel_rfl⟩
theorem ck5 : CallOk Tryd.prog 5 := ⟨_, Tryd.func5, by kernel_rfl, by kernel_rfl⟩
theorem ck6 : CallOk Tryd.prog 6 := ⟨_, Tryd.func6, by kernel_rfl, by kernel_rfl⟩
theorem ck7 : CallOk Tryd.prog 7 := ⟨_, Tryd.func7, by kernel_rfl, by kernel_rfl⟩
theorem ck8 : CallOk Tryd.prog 8 := ⟨_, Tryd.func8, by kernel_rfl, by kernel_rfl⟩
theorem ck9 : CallOk Tryd.prog 9 := ⟨_, Tryd.func9, by kernel_rfl, by kernel_rfl⟩
theorem ck10 : CallOk Tryd.prog 10 := ⟨_, Tryd.func10, by kernel_rfl, by kernel_rfl⟩
theorem ck11 : CallOk Tryd.prog 11 := ⟨_, Tryd.func11, by kernel_rfl, by kernel_rfl⟩
theorem ck12 : CallOk Tryd.prog 12 := ⟨_, Tryd.func12, by kernel_rfl, by kernel_rfl⟩
theorem ck13 : CallOk Tryd.prog 13 := ⟨_, Tryd.func13, by kernel_rfl, by kernel_rfl⟩
theorem ck14 : CallOk Tryd.prog 14 := ⟨_, Tryd.func14, by kernel_rfl, by kernel_rfl⟩
theorem ck15 : CallOk Tryd.prog 15 := ⟨_, Tryd.func15, by kernel_rfl, by kernel_rfl⟩
theorem ck16 : CallOk Tryd.prog 16 := ⟨_, Tryd.func16, by kernel_rfl, by kernel_rfl⟩
theorem ck17 : CallOk Tryd.prog 17 := ⟨_, Tryd.func17, by kernel_rfl, by kernel_rfl⟩
theorem ck18 : CallOk Tryd.prog 18 := ⟨_, Tryd.func18, by kernel_rfl, by kernel_rfl⟩
theorem ck19 : CallOk Tryd.prog 19 := ⟨_, Tryd.func19, by kernel_rfl, by kernel_rfl⟩
theorem ck20 : CallOk Tryd.prog 20 := ⟨_, Tryd.func20, by kernel_rfl, by kernel_rfl⟩
theorem ck21 : CallOk Tryd.prog 21 := ⟨_, Tryd.func21, by kernel_rfl, by kernel_rfl⟩
theorem ck22 : CallOk Tryd.prog 22 := ⟨_, Tryd.func22, by kernel_rfl, by kernel_rfl⟩
theorem ck23 : CallOk Tryd.prog 23 := ⟨_, Tryd.func23, by kernel_rfl, by kernel_rfl⟩
theorem ck24 : CallOk Tryd.prog 24 := ⟨_, Tryd.func24, by kernel_rfl, by kernel_rfl⟩
theorem ck25 : CallOk Tryd.prog 25 := ⟨_, Tryd.func25, by kernel_rfl, by kernel_rfl⟩
theorem ck26 : CallOk Tryd.prog 26 := ⟨_, Tryd.func26, by kernel_rfl, by kernel_rfl⟩
theorem ck27 : CallOk Tryd.prog 27 := ⟨_, Tryd.func27, by kernel_rfl, by kernel_rfl⟩
theorem ck28 : CallOk Tryd.prog 28 := ⟨_, Tryd.func28, by kernel_rfl, by kernel_rfl⟩
theorem ck29 : CallOk Tryd.prog 29 := ⟨_, Tryd.func29, by kernel_rfl, by kernel_rfl⟩
theorem ck30 : CallOk Tryd.prog 30 := ⟨_, Tryd.func30, by kernel_rfl, by kernel_rfl⟩
theorem ck31 : CallOk Tryd.prog 31 := ⟨_, Tryd.func31, by kernel_rfl, by kernel_rfl⟩
theorem ck32 : CallOk Tryd.prog 32 := ⟨_, Tryd.func32, by kernel_rfl, by kernel_rfl⟩
theorem ck33 : CallOk Tryd.prog 33 := ⟨_, Tryd.func33, by kernel_rfl, by kernel_rfl⟩
theorem ck34 : CallOk Tryd.prog 34 := ⟨_, Tryd.func34, by kernel_rfl, by kernel_rfl⟩
theorem ck35 : CallOk Tryd.prog 35 := ⟨_, Tryd.func35, by kernel_rfl, by kernel_rfl⟩
theorem ck36 : CallOk Tryd.prog 36 := ⟨_, Tryd.func36, by kernel_rfl, by kernel_rfl⟩
theorem ck37 : CallOk Tryd.prog 37 := ⟨_, Tryd.func37, by kernel_rfl, by kernel_rfl⟩
theorem ck38 : CallOk Tryd.prog 38 := ⟨_, Tryd.func38, by kernel_rfl, by kernel_rfl⟩
theorem ck39 : CallOk Tryd.prog 39 := ⟨_, Tryd.func39, by kernel_rfl, by kernel_rfl⟩
theorem ck40 : CallOk Tryd.prog 40 := ⟨_, Tryd.func40, by kernel_rfl, by kernel_rfl⟩
theorem ck41 : CallOk Tryd.prog 41 := ⟨_, Tryd.func41, by kernel_rfl, by kernel_rfl⟩
theorem ck42 : CallOk Tryd.prog 42 := ⟨_, Tryd.func42, by kernel_rfl, by kernel_rfl⟩
theorem ck43 : CallOk Tryd.prog 43 := ⟨_, Tryd.func43, by kernel_rfl, by kernel_rfl⟩
theorem ck44 : CallOk Tryd.prog 44 := ⟨_, Tryd.func44, by kernel_rfl, by kernel_rfl⟩
theorem ck45 : CallOk Tryd.prog 45 := ⟨_, Tryd.func45, by kernel_rfl, by kernel_rfl⟩
theorem ck46 : CallOk Tryd.prog 46 := ⟨_, Tryd.func46, by kernel_rfl, by kernel_rfl⟩
theorem ck47 : CallOk Tryd.prog 47 := ⟨_, Tryd.func47, by kernel_rfl, by kernel_rfl⟩
theorem ck48 : CallOk Tryd.prog 48 := ⟨_, Tryd.func48, by kernel_rfl, by kernel_rfl⟩
theorem ck49 : CallOk Tryd.prog 49 := ⟨_, Tryd.func49, by kernel_rfl, by kernel_rfl⟩
theorem ck50 : CallOk Tryd.prog 50 := ⟨_, Tryd.func50, by kernel_rfl, by kernel_rfl⟩
theorem ck51 : CallOk Tryd.prog 51 := ⟨_, Tryd.func51, by kernel_rfl, by kernel_rfl⟩
theorem ck52 : CallOk Tryd.prog 52 := ⟨_, Tryd.func52, by kernel_rfl, by kernel_rfl⟩
theorem ck53 : CallOk Tryd.prog 53 := ⟨_, Tryd.func53, by kernel_rfl, by kernel_rfl⟩
theorem ck54 : CallOk Tryd.prog 54 := ⟨_, Tryd.func54, by kernel_rfl, by kernel_rfl⟩
theorem ck55 : CallOk Tryd.prog 55 := ⟨_, Tryd.func55, by kernel_rfl, by kernel_rfl⟩
theorem ck56 : CallOk Tryd.prog 56 := ⟨_, Tryd.func56, by kernel_rfl, by kernel_rfl⟩
theorem ck57 : CallOk Tryd.prog 57 := ⟨_, Tryd.func57, by kernel_rfl, by kernel_rfl⟩
theorem ck58 : CallOk Tryd.prog 58 := ⟨_, Tryd.func58, by kernel_rfl, by kernel_rfl⟩
theorem ck59 : CallOk Tryd.prog 59 := ⟨_, Tryd.func59, by kernel_rfl, by kernel_rfl⟩
theorem ck60 : CallOk Tryd.prog 60 := ⟨_, Tryd.func60, by kernel_rfl, by kernel_rfl⟩
theorem ck61 : CallOk Tryd.prog 61 := ⟨_, Tryd.func61, by kernel_rfl, by kernel_rfl⟩
theorem ck62 : CallOk Tryd.prog 62 := ⟨_, Tryd.func62, by kernel_rfl, by kernel_rfl⟩
theorem ck63 : CallOk Tryd.prog 63 := ⟨_, Tryd.func63, by kernel_rfl, by kernel_rfl⟩
theorem ck64 : CallOk Tryd.prog 64 := ⟨_, Tryd.func64, by kernel_rfl, by kernel_rfl⟩
theorem ck65 : CallOk Tryd.prog 65 := ⟨_, Tryd.func65, by kernel_rfl, by kernel_rfl⟩
theorem ck66 : CallOk Tryd.prog 66 := ⟨_, Tryd.func66, by kernel_rfl, by kernel_rfl⟩
theorem ck67 : CallOk Tryd.prog 67 := ⟨_, Tryd.func67, by kernel_rfl, by kernel_rfl⟩
theorem ck68 : CallOk Tryd.prog 68 := ⟨_, Tryd.func68, by kernel_rfl, by kernel_rfl⟩
theorem ck69 : CallOk Tryd.prog 69 := ⟨_, Tryd.func69, by kernel_rfl, by kernel_rfl⟩
theorem ck70 : CallOk Tryd.prog 70 := ⟨_, Tryd.func70, by kernel_rfl, by kernel_rfl⟩
theorem ck71 : CallOk Tryd.prog 71 := ⟨_, Tryd.func71, by kernel_rfl, by kernel_rfl⟩
theorem ck72 : CallOk Tryd.prog 72 := ⟨_, Tryd.func72, by kernel_rfl, by kernel_rfl⟩
theorem ck73 : CallOk Tryd.prog 73 := ⟨_, Tryd.func73, by kernel_rfl, by kernel_rfl⟩
theorem ck74 : CallOk Tryd.prog 74 := ⟨_, Tryd.func74, by kernel_rfl, by kernel_rfl⟩
theorem ck75 : CallOk Tryd.prog 75 := ⟨_, Tryd.func75, by kernel_rfl, by kernel_rfl⟩
theorem ck76 : CallOk Tryd.prog 76 := ⟨_, Tryd.func76, by kernel_rfl, by kernel_rfl⟩
theorem ck77 : CallOk Tryd.prog 77 := ⟨_, Tryd.func77, by kernel_rfl, by kernel_rfl⟩
theorem ck78 : CallOk Tryd.prog 78 := ⟨_, Tryd.func78, by kernel_rfl, by kernel_rfl⟩
theorem ck79 : CallOk Tryd.prog 79 := ⟨_, Tryd.func79, by kernel_rfl, by kernel_rfl⟩
theorem ck80 : CallOk Tryd.prog 80 := ⟨_, Tryd.func80, by kernel_rfl, by kernel_rfl⟩
theorem ck81 : CallOk Tryd.prog 81 := ⟨_, Tryd.func81, by kernel_rfl, by kernel_rfl⟩
theorem ck82 : CallOk Tryd.prog 82 := ⟨_, Tryd.func82, by kernel_rfl, by kernel_rfl⟩
theorem ck83 : CallOk Tryd.prog 83 := ⟨_, Tryd.func83, by kernel_rfl, by kernel_rfl⟩
theorem ck84 : CallOk Tryd.prog 84 := ⟨_, Tryd.func84, by kernel_rfl, by kernel_rfl⟩
theorem ck85 : CallOk Tryd.prog 85 := ⟨_, Tryd.func85, by kernel_rfl, by kernel_rfl⟩
theorem ck86 : CallOk Tryd.prog 86 := ⟨_, Tryd.func86, by kernel_rfl, by kernel_rfl⟩
theorem ck87 : CallOk Tryd.prog 87 := ⟨_, Tryd.func87, by kernel_rfl, by kernel_rfl⟩
theorem ck88 : CallOk Tryd.prog 88 := ⟨_, Tryd.func88, by kernel_rfl, by kernel_rfl⟩
theorem ck89 : CallOk Tryd.prog 89 := ⟨_, Tryd.func89, by kernel_rfl, by kernel_rfl⟩
theorem ck90 : CallOk Tryd.prog 90 := ⟨_, Tryd.func90, by kernel_rfl, by kernel_rfl⟩
theorem ck91 : CallOk Tryd.prog 91 := ⟨_, Tryd.func91, by kernel_rfl, by kernel_rfl⟩
theorem ck92 : CallOk Tryd.prog 92 := ⟨_, Tryd.func92, by kernel_rfl, by kernel_rfl⟩
theorem ck93 : CallOk Tryd.prog 93 := ⟨_, Tryd.func93, by kernel_rfl, by kernel_rfl⟩
theorem ck94 : CallOk Tryd.prog 94 := ⟨_, Tryd.func94, by kernel_rfl, by kernel_rfl⟩
theorem ck95 : CallOk Tryd.prog 95 := ⟨_, Tryd.func95, by kernel_rfl, by kernel_rfl⟩
theorem ck96 : CallOk Tryd.prog 96 := ⟨_, Tryd.func96, by kernel_rfl, by kernel_rfl⟩
theorem ck97 : CallOk Tryd.prog 97 := ⟨_, Tryd.func97, by kernel_rfl, by kernel_rfl⟩
theorem ck98 : CallOk Tryd.prog 98 := ⟨_, Tryd.func98, by kernel_rfl, by kernel_rfl⟩
theorem ck99 : CallOk Tryd.prog 99 := ⟨_, Tryd.func99, by kernel_rfl, by kernel_rfl⟩
theorem ck100 : CallOk Tryd.prog 100 := ⟨_, Tryd.func100, by kernel_rfl, by kernel_rfl⟩
theorem ck101 : CallOk Tryd.prog 101 := ⟨_, Tryd.func101, by kernel_rfl, by kernel_rfl⟩
theorem ck102 : CallOk Tryd.prog 102 := ⟨_, Tryd.func102, by kernel_rfl, by kernel_rfl⟩
theorem ck103 : CallOk Tryd.prog 103 := ⟨_, Tryd.func103, by kernel_rfl, by kernel_rfl⟩
theorem ck104 : CallOk Tryd.prog 104 := ⟨_, Tryd.func104, by kernel_rfl, by kernel_rfl⟩
theorem ck106 : CallOk Tryd.prog 106 := ⟨_, Tryd.func106, by kernel_rfl, by kernel_rfl⟩
theorem ck108 : CallOk Tryd.prog 108 := ⟨_, Tryd.func108, by kernel_rfl, by kernel_rfl⟩
theorem ck109 : CallOk Tryd.prog 109 := ⟨_, Tryd.func109, by kernel_rfl, by kernel_rfl⟩
theorem ck110 : CallOk Tryd.prog 110 := ⟨_, Tryd.func110, by kernel_rfl, by kernel_rfl⟩
theorem ck111 : CallOk Tryd.prog 111 := ⟨_, Tryd.func111, by kernel_rfl, by kernel_rfl⟩
theorem ck112 : CallOk Tryd.prog 112 := ⟨_, Tryd.func112, by kernel_rfl, by kernel_rfl⟩
theorem ck113 : CallOk Tryd.prog 113 := ⟨_, Tryd.func113, by kernel_rfl, by kernel_rfl⟩
theorem ck115 : CallOk Tryd.prog 115 := ⟨_, Tryd.func115, by kernel_rfl, by kernel_rfl⟩
theorem ck116 : CallOk Tryd.prog 116 := ⟨_, Tryd.func116, by kernel_rfl, by kernel_rfl⟩
theorem ck117 : CallOk Tryd.prog 117 := ⟨_, Tryd.func117, by kernel_rfl, by kernel_rfl⟩
theorem ck118 : CallOk Tryd.prog 118 := ⟨_, Tryd.func118, by kernel_rfl, by kernel_rfl⟩
theorem ck119 : CallOk Tryd.prog 119 := ⟨_, Tryd.func119, by kernel_rfl, by kernel_rfl⟩
theorem ck120 : CallOk Tryd.prog 120 := ⟨_, Tryd.func120, by kernel_rfl, by kernel_rfl⟩
theorem ck121 : CallOk Tryd.prog 121 := ⟨_, Tryd.func121, by kernel_rfl, by kernel_rfl⟩
theorem ck122 : CallOk Tryd.prog 122 := ⟨_, Tryd.func122, by kernel_rfl, by kernel_rfl⟩
theorem ck123 : CallOk Tryd.prog 123 := ⟨_, Tryd.func123, by kernel_rfl, by kernel_rfl⟩
theorem ck124 : CallOk Tryd.prog 124 := ⟨_, Tryd.func124, by kernel_rfl, by kernel_rfl⟩
theorem ck125 : CallOk Tryd.prog 125 := ⟨_, Tryd.func125, by kernel_rfl, by kernel_rfl⟩
theorem ck127 : CallOk Tryd.prog 127 := ⟨_, Tryd.func127, by kernel_rfl, by kernel_rfl⟩
theorem ck128 : CallOk Tryd.prog 128 := ⟨_, Tryd.func128, by kernel_rfl, by kernel_rfl⟩
theorem ck129 : CallOk Tryd.prog 129 := ⟨_, Tryd.func129, by kernel_rfl, by kernel_rfl⟩
theorem ck130 : CallOk Tryd.prog 130 := ⟨_, Tryd.func130, by kernel_rfl, by kernel_rfl⟩
theorem ck131 : CallOk Tryd.prog 131 := ⟨_, Tryd.func131, by kernel_rfl, by kernel_rfl⟩
theorem ck132 : CallOk Tryd.prog 132 := ⟨_, Tryd.func132, by kernel_rfl, by kernel_rfl⟩
theorem ck133 : CallOk Tryd.prog 133 := ⟨_, Tryd.func133, by kernel_rfl, by kernel_rfl⟩
theorem ck134 : CallOk Tryd.prog 134 := ⟨_, Tryd.func134, by kernel_rfl, by kernel_rfl⟩
theorem ck135 : CallOk Tryd.prog 135 := ⟨_, Tryd.func135, by kernel_rfl, by kernel_rfl⟩
theorem ck136 : CallOk Tryd.prog 136 := ⟨_, Tryd.func136, by kernel_rfl, by kernel_rfl⟩
theorem ck137 : CallOk Tryd.prog 137 := ⟨_, Tryd.func137, by kernel_rfl, by kernel_rfl⟩
theorem ck138 : CallOk Tryd.prog 138 := ⟨_, Tryd.func138, by kernel_rfl, by kernel_rfl⟩
theorem ck139 : CallOk Tryd.prog 139 := ⟨_, Tryd.func139, by kernel_rfl, by kernel_rfl⟩
theorem ck140 : CallOk Tryd.prog 140 := ⟨_, Tryd.func140, by kernel_rfl, by kernel_rfl⟩
theorem ck141 : CallOk Tryd.prog 141 := ⟨_, Tryd.func141, by kernel_rfl, by kernel_rfl⟩
theorem ck142 : CallOk Tryd.prog 142 := ⟨_, Tryd.func142, by kernel_rfl, by kernel_rfl⟩
theorem ck144 : CallOk Tryd.prog 144 := ⟨_, Tryd.func144, by kernel_rfl, by kernel_rfl⟩
theorem ck145 : CallOk Tryd.prog 145 := ⟨_, Tryd.func145, by kernel_rfl, by kernel_rfl⟩
theorem ck146 : CallOk Tryd.prog 146 := ⟨_, Tryd.func146, by kernel_rfl, by kernel_rfl⟩
theorem ck147 : CallOk Tryd.prog 147 := ⟨_, Tryd.func147, by kernel_rfl, by kernel_rfl⟩
theorem ck148 : CallOk Tryd.prog 148 := ⟨_, Tryd.func148, by kernel_rfl, by kernel_rfl⟩
theorem ck149 : CallOk Tryd.prog 149 := ⟨_, Tryd.func149, by kernel_rfl, by kernel_rfl⟩
theorem ck165 : CallOk Tryd.prog 165 := ⟨_, Tryd.func165, by kernel_rfl, by kernel_rfl⟩
theorem ck166 : CallOk Tryd.prog 166 := ⟨_, Tryd.func166, by kernel_rfl, by kernel_rfl⟩
theorem ck168 : CallOk Tryd.prog 168 := ⟨_, Tryd.func168, by kernel_rfl, by kernel_rfl⟩
theorem ck185 : CallOk Tryd.prog 185 := ⟨_, Tryd.func185, by kernel_rfl, by kernel_rfl⟩
theorem mixed0 : Tryd.prog.follows .mixedOrders = true := by kernel_rfl
end Go.Proofs.YtnfcbpgckomdfaaDoor
