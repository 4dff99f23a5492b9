/- Package quote: what stands between marks, piece by piece; the library's functions that it calls. -/
import Derived.Test.YtnfcbpgckomdfaaDoorPuB
namespace Go.Proofs.YtnfcbpgckomdfaaDoor
open Go.Lib (strCells)
set_option maxHeartbeats 1600000
set_option maxRecDepth 20000
/-- What the reading of a number answers: the number; or an error. -/
def puE (x : Option Nat) (r : Value) : Prop := match x with
  | some n => r = .tuple #[.int .u64 (n : Int), .nilIface]
  | none => ∃ m e, nilB e = some false ∧ r = .tuple #[.int .u64 m, e]
theorem parseUint_spec (bs : List UInt8) (b : Nat) (mx : Nat) (hb : 0 < b ∧ b < 40) (hmx : mx + 1 = 2 ^ b) (hl : bs.length ≤ 140737488355328) : Spec Tryd.prog 100 #[.string (str bs), .int .i64 16, .int .i64 (b : Int)] Env [] fun r _ => puE (pu16 mx bs) r := by
  refine Spec.go (vs := [_, _, _]) (hT := tyOk) (hm := mixed0) Tryd.func100 rfl Tryd.ntmps100 rfl ?_
  intro W p hF
  refine Good.on ?_
  refine Good.callP [] (iParseUint_spec bs b mx hb hmx hl) ck123 ?_
  rintro r L hr
  refine Good.mem (l' := []) (fun w h => Sat.dropL h) ?_
  cases hp : pu16 mx bs with
  | some n =>
    rw [hp] at hr
    subst hr
    refine Good.on ?_
    refine Good.val (Yv.ifaceNe rfl rfl rfl rfl rfl rfl) ?_
    refine Good.on ?_
    (refine Good.ifB (fun h => ?_) (fun h => ?_); exact absurd h (by decide))
    refine Good.on ?_
    refine Good.ret2 Tryd.results100 (Res.tmp rfl) (Res.tmp rfl) rfl (fun _ h => h)
  | none =>
    rw [hp] at hr
    obtain ⟨m, k, hk, rfl⟩ := hr
    refine Good.on ?_
    refine Good.val (Yv.ifaceNe (v := errV k) (b := false) rfl rfl rfl rfl rfl rfl) ?_
    refine Good.on ?_
    (refine Good.ifB (fun h => ?_) (fun h => ?_); rotate_left; exact absurd h (by decide))
    refine Good.on ?_
    refine Good.callK [] (toError_spec _ bs 16 b k hl hk) stays_env hF ck110 ?_
    rintro r L ⟨hr, A, B, rfl⟩
    refine Good.on ?_
    refine Good.ret2 Tryd.results100 (Res.tmp rfl) (Res.tmp rfl) ⟨_, _, hr, rfl⟩ (fun _ h => h)
theorem iHasPrefix_spec (bs ps : List UInt8) : Spec Tryd.prog 124 #[.string (str bs), .string (str ps)] noFacts [] fun r L => r = .bool (decide (bs.take ps.length = ps)) ∧ L = [] := by
  refine Spec.go (vs := [_, _]) (hT := tyOk) (hm := mixed0) Tryd.func124 rfl Tryd.ntmps124 rfl ?_
  intro W p _
  refine Good.on ?_
  rw [str_size, str_size]
  refine Good.partD (fun h => ?_) (fun h => ?_) <;> refine Good.on ?_
  · refine Good.val (Yv.sliceStr 0 ps.length rfl rfl rfl rfl rfl rfl rfl ⟨_, rfl⟩ (by omega) (by omega)) ?_
    refine Good.on ?_
    refine Good.ret1 Tryd.results124 (Res.tmp rfl) ⟨?_, rfl⟩ (fun _ h => h)
    rw [List.drop_zero, str_toList, str_toList]
    congr 1
    by_cases e : List.take ps.length bs = ps <;> simp [e]
  · refine Good.ret1 Tryd.results124 (Res.tmp rfl) ⟨?_, rfl⟩ (fun _ h => h)
    have : ¬ bs.take ps.length = ps := fun e => by have := congrArg List.length e; rw [List.length_take] at this; omega
    simp [this]
theorem hasPrefix_spec (bs ps : List UInt8) : Spec Tryd.prog 101 #[.string (str bs), .string (str ps)] noFacts [] fun r L => r = .bool (decide (bs.take ps.length = ps)) ∧ L = [] := by
  refine Spec.go (vs := [_, _]) (hT := tyOk) (hm := mixed0) Tryd.func101 rfl Tryd.ntmps101 rfl ?_
  intro W p _
  refine Good.on ?_
  refine Good.callP [] (iHasPrefix_spec bs ps) ck124 ?_
  rintro r L ⟨rfl, rfl⟩
  refine Good.on ?_
  refine Good.ret1 Tryd.results101 (Res.tmp rfl) ⟨rfl, rfl⟩ (fun _ h => h)
theorem iIndexByte_spec (bs : List UInt8) (c : UInt8) : Spec Tryd.prog 125 #[.string (str bs), .int .u8 (c.toNat : Int)] noFacts [] fun r L => r = .int .i64 (Lib.indexByte bs c) ∧ L = [] := by
  refine Spec.go (vs := [_, _]) (hT := tyOk) (hm := mixed0) Tryd.func125 rfl Tryd.ntmps125 rfl ?_
  intro W p _
  refine Good.on ?_
  refine Good.val (Yv.extern (ext := Extern.BytealgIndexByte.indexByte) (v := .int .i64 (Lib.indexByte bs c)) Tryd.func143 (by kernel_rfl) (by kernel_rfl) (by kernel_rfl) (by kernel_rfl) rfl rfl (fun w => ?_)) ?_
  · have := Lib.run_indexByteString (P := Tryd.prog) (str bs) (c.toNat : Int) w
    rw [str_data] at this
    simp only [Int.toNat_natCast, Nat.toUInt8_eq, UInt8.ofNat_toNat] at this
    exact this
  refine Good.on ?_
  refine Good.ret1 Tryd.results125 (Res.tmp rfl) ⟨rfl, rfl⟩ (fun _ h => h)
theorem indexByte_spec (bs : List UInt8) (c : UInt8) : Spec Tryd.prog 102 #[.string (str bs), .int .u8 (c.toNat : Int)] noFacts [] fun r L => r = .int .i64 (Lib.indexByte bs c) ∧ L = [] := by
  refine Spec.go (vs := [_, _]) (hT := tyOk) (hm := mixed0) Tryd.func102 rfl Tryd.ntmps102 rfl ?_
  intro W p _
  refine Good.on ?_
  refine Good.callP [] (iIndexByte_spec bs c) ck125 ?_
  rintro r L ⟨rfl, rfl⟩
  refine Good.on ?_
  refine Good.ret1 Tryd.results102 (Res.tmp rfl) ⟨rfl, rfl⟩ (fun _ h => h)
/-! ## numbers to the base 16 -/
def hexD (d : Nat) : UInt8 := if d < 10 then UInt8.ofNat (48 + d) else UInt8.ofNat (87 + d)
def hexL (n : Nat) : List UInt8 := if h : n < 16 then [hexD n] else hexL (n / 16) ++ [hexD (n % 16)]
termination_by n
theorem hexL_lt {n : Nat} (h : n < 16) : hexL n = [hexD n] := by rw [hexL, dif_pos h]
theorem hexL_ge {n : Nat} (h : ¬ n < 16) : hexL n = hexL (n / 16) ++ [hexD (n % 16)] := by rw [hexL, dif_neg h]
theorem hexL_len : ∀ (k n : Nat), n < 16 ^ (k + 1) → (hexL n).length ≤ k + 1 ∧ 0 < (hexL n).length
  | 0, n, h => by rw [hexL_lt (by simpa using h)]; simp
  | k + 1, n, h => by
    by_cases hn : n < 16
    · rw [hexL_lt hn]; simp
    · rw [hexL_ge hn]
      have := hexL_len k (n / 16) (by rw [Nat.div_lt_iff_lt_mul (by omega)]; rw [Nat.pow_succ] at h; exact h)
      simp only [List.length_append, List.length_singleton]; omega
theorem tz64_spec : Spec Tryd.prog 149 #[.int .u64 16] Env [] fun r L => r = .int .i64 4 ∧ L = [] := by
  refine Spec.go (vs := [_]) (hT := tyOk) (hm := mixed0) Tryd.func149 rfl Tryd.ntmps149 rfl ?_
  intro W p hF
  refine Good.on ?_
  (refine Good.ifB (fun h => ?_) (fun h => ?_); exact absurd h (by decide))
  refine Good.on ?_
  refine Good.val (Yv.indexArr rfl rfl rfl rfl rfl rfl (by decide) (by decide)) ?_
  refine Good.on ?_
  refine Good.loadC (v := .int .u8 4) (fun w hS => hF.2.1.cell (j := 15) rfl hS) ?_
  refine Good.on ?_
  refine Good.ret1 Tryd.results149 (Res.tmp rfl) ⟨rfl, rfl⟩ (fun _ h => h)
theorem tz_spec : Spec Tryd.prog 140 #[.int .u64 16] Env [] fun r L => r = .int .i64 4 ∧ L = [] := by
  refine Spec.go (vs := [_]) (hT := tyOk) (hm := mixed0) Tryd.func140 rfl Tryd.ntmps140 rfl ?_
  intro W p hF
  refine Good.on ?_
  refine Good.callK [] tz64_spec stays_env hF ck149 ?_
  rintro r L ⟨rfl, rfl⟩
  refine Good.on ?_
  refine Good.ret1 Tryd.results140 (Res.tmp rfl) ⟨rfl, rfl⟩ (fun _ h => h)
theorem isPow_spec : Spec Tryd.prog 139 #[.int .i64 16] noFacts [] fun r L => r = .bool true ∧ L = [] := by
  refine Spec.go (vs := [_]) (hT := tyOk) (hm := mixed0) Tryd.func139 rfl Tryd.ntmps139 rfl ?_
  intro W p _
  refine Good.on ?_
  refine Good.ret1 Tryd.results139 (Res.tmp rfl) ⟨?_, rfl⟩ (fun _ h => h)
  exact congrArg Value.bool (by decide)
end Go.Proofs.YtnfcbpgckomdfaaDoor
