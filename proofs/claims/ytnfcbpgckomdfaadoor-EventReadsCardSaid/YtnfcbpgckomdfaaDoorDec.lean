/- strconv: how many digits a number has. -/
import Derived.Test.YtnfcbpgckomdfaaDoorQuoB
namespace Go.Proofs.YtnfcbpgckomdfaaDoor
/-! ## numbers to the base 10 -/
def dig (d : Nat) : UInt8 := UInt8.ofNat (48 + d % 10)
/-- So many digits of a number, the lowest ones. -/
def decK : Nat → Nat → List UInt8
  | 0, _ => []
  | k + 1, n => decK k (n / 10) ++ [dig n]
theorem decK_len : ∀ k n, (decK k n).length = k
  | 0, _ => rfl
  | k + 1, n => by simp [decK, decK_len k]
/-- A number's digits. -/
def decL (n : Nat) : List UInt8 := if _h : n < 10 then [dig n] else decL (n / 10) ++ [dig n]
termination_by n
theorem decL_lt {n : Nat} (h : n < 10) : decL n = [dig n] := by rw [decL, dif_pos h]
theorem decL_ge {n : Nat} (h : ¬ n < 10) : decL n = decL (n / 10) ++ [dig n] := by rw [decL, dif_neg h]
theorem decK_decL : ∀ (k n : Nat), n < 10 ^ (k + 1) → (10 ^ k ≤ n ∨ k = 0) → decK (k + 1) n = decL n
  | 0, n, h, _ => by rw [decL_lt (by simpa using h)]; rfl
  | k + 1, n, h, h1 => by
    have h2 : 10 ^ (k + 1) ≤ n := by rcases h1 with h | h; · exact h
                                     · omega
    have hp : 10 ^ 1 ≤ 10 ^ (k + 1) := Nat.pow_le_pow_right (by omega) (by omega)
    rw [decL_ge (by simp at hp; omega)]
    show decK (k + 1) (n / 10) ++ [dig n] = _
    have hk : 10 ^ k ≤ n / 10 := by rw [Nat.le_div_iff_mul_le (by omega)]; rw [Nat.pow_succ] at h2; exact h2
    rw [decK_decL k (n / 10) (by rw [Nat.div_lt_iff_lt_mul (by omega)]; rw [Nat.pow_succ] at h; exact h) (.inl hk)]
def itoaL (n : Int) : List UInt8 := if n < 0 then 45 :: decL (-n).toNat else decL n.toNat
/-! ## how many bits -/
def bitL (n : Nat) : Nat := if n = 0 then 0 else Nat.log2 n + 1
def len8L : List UInt8 := (List.range 256).map fun n => UInt8.ofNat (bitL n)
theorem bitL_pos {n k : Nat} (h : 0 < n) : bitL n = k + 1 ↔ 2 ^ k ≤ n ∧ n < 2 ^ (k + 1) := by
  unfold bitL
  rw [if_neg (by omega)]
  constructor
  · intro e
    have e' : Nat.log2 n = k := by omega
    subst e'
    exact ⟨Nat.log2_self_le (by omega), Nat.lt_log2_self⟩
  · rintro ⟨h1, h2⟩
    have := (Nat.log2_eq_iff (n := n) (k := k) (by omega)).2 ⟨h1, h2⟩
    omega
theorem bitL_shift {n k : Nat} (h : 2 ^ k ≤ n) : bitL n = bitL (n / 2 ^ k) + k := by
  have hp : 0 < 2 ^ k := Nat.pow_pos (by omega)
  have hd : 0 < n / 2 ^ k := Nat.div_pos h hp
  obtain ⟨j, hj⟩ : ∃ j, bitL (n / 2 ^ k) = j + 1 := ⟨Nat.log2 (n / 2 ^ k), by unfold bitL; rw [if_neg (by omega)]⟩
  obtain ⟨h1, h2⟩ := (bitL_pos hd).1 hj
  rw [hj, show j + 1 + k = (j + k) + 1 from by omega, bitL_pos (by omega)]
  constructor
  · rw [Nat.pow_add]; exact (Nat.le_div_iff_mul_le hp).1 h1
  · rw [show j + k + 1 = (j + 1) + k from by omega, Nat.pow_add]; exact (Nat.div_lt_iff_lt_mul hp).1 h2
theorem len8_get (n : Nat) (h : n < 256) : len8L[n]? = some (UInt8.ofNat (bitL n)) := by simp [len8L, h]
theorem bitL_lt (n : Nat) (h : n < 256) : bitL n ≤ 8 := by
  by_cases h0 : n = 0
  · subst h0; decide
  · unfold bitL; rw [if_neg h0]
    have : Nat.log2 n < 8 := (Nat.log2_lt h0).2 (by omega)
    omega
set_option maxHeartbeats 1600000
set_option maxRecDepth 20000
theorem len64_spec (n : Nat) (hn : n < 18446744073709551616) : Spec Tryd.prog 137 #[.int .u64 (n : Int)] noFacts [] fun r L => r = .int .i64 (bitL n : Nat) ∧ L = [] := by
  have fin : ∀ (m : Nat), m < 256 → IntKind.u8.wrap (m : Int) = (m : Int) := fun m h => u8w m h
  have b8 : ∀ m, m < 256 → (UInt8.ofNat (bitL m)).toNat = bitL m := fun m h => by have := bitL_lt m h; rw [UInt8.toNat_ofNat']; omega
  refine Spec.go (vs := [_]) (hT := tyOk) (hm := mixed0) Tryd.func137 rfl Tryd.ntmps137 rfl ?_
  intro W p _
  refine Good.on ?_
  have key : ∀ (m : Nat) (a b : Int), m < 256 → bitL n = bitL m + a.toNat → 0 ≤ a → a ≤ 56 → b = a → IntKind.i64.wrap (b + IntKind.i64.wrap ((UInt8.ofNat (bitL m)).toNat : Int)) = ((bitL n : Nat) : Int) := fun m a b hm he h0 h1 hb => by
    have := bitL_lt m hm
    rw [b8 m hm, w64 (bitL m : Int) (by omega), w64 _ (by omega)]; omega
  refine Good.ifD (fun h1 => ?_) (fun h1 => ?_) <;> refine Good.on ?_
  · rw [show ((n : Nat) : Int).fdiv (2 ^ min (Int.toNat 32) IntKind.u64.bits) = ((n / 4294967296 : Nat) : Int) from fdivPow n 32]
    have e1 : bitL n = bitL (n / 4294967296) + 32 := bitL_shift (n := n) (k := 32) (by omega)
    have l1 : n / 4294967296 < 4294967296 := by omega
    generalize n / 4294967296 = m1 at e1 l1 ⊢
    refine Good.ifD (fun h2 => ?_) (fun h2 => ?_) <;> refine Good.on ?_
    · rw [show ((m1 : Nat) : Int).fdiv (2 ^ min (Int.toNat 16) IntKind.u64.bits) = ((m1 / 65536 : Nat) : Int) from fdivPow m1 16]
      have e2 : bitL m1 = bitL (m1 / 65536) + 16 := bitL_shift (n := m1) (k := 16) (by omega)
      have l2 : m1 / 65536 < 65536 := by omega
      generalize m1 / 65536 = m2 at e2 l2 ⊢
      refine Good.ifD (fun h3 => ?_) (fun h3 => ?_) <;> refine Good.on ?_
      · rw [show ((m2 : Nat) : Int).fdiv (2 ^ min (Int.toNat 8) IntKind.u64.bits) = ((m2 / 256 : Nat) : Int) from fdivPow m2 8]
        have e3 : bitL m2 = bitL (m2 / 256) + 8 := bitL_shift (n := m2) (k := 8) (by omega)
        have l3 : m2 / 256 < 256 := by omega
        generalize m2 / 256 = m3 at e3 l3 ⊢
        rw [u8w m3 (by omega)]
        refine Good.val (Yv.index (bs := len8L) rfl rfl rfl (by kernel_rfl) rfl (by omega) (by rw [Int.toNat_natCast]; exact len8_get m3 l3)) ?_
        refine Good.on ?_
        refine Good.ret1 Tryd.results137 (Res.tmp rfl) ⟨congrArg (Value.int .i64) (key m3 (32 + 16 + 8) _ l3 (by simp; omega) (by decide) (by decide) (by decide)), rfl⟩ (fun _ h => h)
      · have l3 : m2 < 256 := by omega
        rw [u8w m2 (by omega)]
        refine Good.val (Yv.index (bs := len8L) rfl rfl rfl (by kernel_rfl) rfl (by omega) (by rw [Int.toNat_natCast]; exact len8_get m2 l3)) ?_
        refine Good.on ?_
        refine Good.ret1 Tryd.results137 (Res.tmp rfl) ⟨congrArg (Value.int .i64) (key m2 (32 + 16) _ l3 (by simp; omega) (by decide) (by decide) (by decide)), rfl⟩ (fun _ h => h)
    · have l2 : m1 < 65536 := by omega
      refine Good.ifD (fun h3 => ?_) (fun h3 => ?_) <;> refine Good.on ?_
      · rw [show ((m1 : Nat) : Int).fdiv (2 ^ min (Int.toNat 8) IntKind.u64.bits) = ((m1 / 256 : Nat) : Int) from fdivPow m1 8]
        have e3 : bitL m1 = bitL (m1 / 256) + 8 := bitL_shift (n := m1) (k := 8) (by omega)
        have l3 : m1 / 256 < 256 := by omega
        generalize m1 / 256 = m3 at e3 l3 ⊢
        rw [u8w m3 (by omega)]
        refine Good.val (Yv.index (bs := len8L) rfl rfl rfl (by kernel_rfl) rfl (by omega) (by rw [Int.toNat_natCast]; exact len8_get m3 l3)) ?_
        refine Good.on ?_
        refine Good.ret1 Tryd.results137 (Res.tmp rfl) ⟨congrArg (Value.int .i64) (key m3 (32 + 8) _ l3 (by simp; omega) (by decide) (by decide) (by decide)), rfl⟩ (fun _ h => h)
      · have l3 : m1 < 256 := by omega
        rw [u8w m1 (by omega)]
        refine Good.val (Yv.index (bs := len8L) rfl rfl rfl (by kernel_rfl) rfl (by omega) (by rw [Int.toNat_natCast]; exact len8_get m1 l3)) ?_
        refine Good.on ?_
        refine Good.ret1 Tryd.results137 (Res.tmp rfl) ⟨congrArg (Value.int .i64) (key m1 32 _ l3 (by simp; omega) (by decide) (by decide) (by decide)), rfl⟩ (fun _ h => h)
  · have e1 : bitL n = bitL n + 0 := rfl
    have l1 : n < 4294967296 := by omega
    generalize hmm : n = m1 at l1 ⊢
    rw [hmm] at e1 key
    clear hmm
    refine Good.ifD (fun h2 => ?_) (fun h2 => ?_) <;> refine Good.on ?_
    · rw [show ((m1 : Nat) : Int).fdiv (2 ^ min (Int.toNat 16) IntKind.u64.bits) = ((m1 / 65536 : Nat) : Int) from fdivPow m1 16]
      have e2 : bitL m1 = bitL (m1 / 65536) + 16 := bitL_shift (n := m1) (k := 16) (by omega)
      have l2 : m1 / 65536 < 65536 := by omega
      generalize m1 / 65536 = m2 at e2 l2 ⊢
      refine Good.ifD (fun h3 => ?_) (fun h3 => ?_) <;> refine Good.on ?_
      · rw [show ((m2 : Nat) : Int).fdiv (2 ^ min (Int.toNat 8) IntKind.u64.bits) = ((m2 / 256 : Nat) : Int) from fdivPow m2 8]
        have e3 : bitL m2 = bitL (m2 / 256) + 8 := bitL_shift (n := m2) (k := 8) (by omega)
        have l3 : m2 / 256 < 256 := by omega
        generalize m2 / 256 = m3 at e3 l3 ⊢
        rw [u8w m3 (by omega)]
        refine Good.val (Yv.index (bs := len8L) rfl rfl rfl (by kernel_rfl) rfl (by omega) (by rw [Int.toNat_natCast]; exact len8_get m3 l3)) ?_
        refine Good.on ?_
        refine Good.ret1 Tryd.results137 (Res.tmp rfl) ⟨congrArg (Value.int .i64) (key m3 (0 + 16 + 8) _ l3 (by simp; omega) (by decide) (by decide) (by decide)), rfl⟩ (fun _ h => h)
      · have l3 : m2 < 256 := by omega
        rw [u8w m2 (by omega)]
        refine Good.val (Yv.index (bs := len8L) rfl rfl rfl (by kernel_rfl) rfl (by omega) (by rw [Int.toNat_natCast]; exact len8_get m2 l3)) ?_
        refine Good.on ?_
        refine Good.ret1 Tryd.results137 (Res.tmp rfl) ⟨congrArg (Value.int .i64) (key m2 (0 + 16) _ l3 (by simp; omega) (by decide) (by decide) (by decide)), rfl⟩ (fun _ h => h)
    · have l2 : m1 < 65536 := by omega
      refine Good.ifD (fun h3 => ?_) (fun h3 => ?_) <;> refine Good.on ?_
      · rw [show ((m1 : Nat) : Int).fdiv (2 ^ min (Int.toNat 8) IntKind.u64.bits) = ((m1 / 256 : Nat) : Int) from fdivPow m1 8]
        have e3 : bitL m1 = bitL (m1 / 256) + 8 := bitL_shift (n := m1) (k := 8) (by omega)
        have l3 : m1 / 256 < 256 := by omega
        generalize m1 / 256 = m3 at e3 l3 ⊢
        rw [u8w m3 (by omega)]
        refine Good.val (Yv.index (bs := len8L) rfl rfl rfl (by kernel_rfl) rfl (by omega) (by rw [Int.toNat_natCast]; exact len8_get m3 l3)) ?_
        refine Good.on ?_
        refine Good.ret1 Tryd.results137 (Res.tmp rfl) ⟨congrArg (Value.int .i64) (key m3 (0 + 8) _ l3 (by simp; omega) (by decide) (by decide) (by decide)), rfl⟩ (fun _ h => h)
      · have l3 : m1 < 256 := by omega
        rw [u8w m1 (by omega)]
        refine Good.val (Yv.index (bs := len8L) rfl rfl rfl (by kernel_rfl) rfl (by omega) (by rw [Int.toNat_natCast]; exact len8_get m1 l3)) ?_
        refine Good.on ?_
        refine Good.ret1 Tryd.results137 (Res.tmp rfl) ⟨congrArg (Value.int .i64) (key m1 0 _ l3 (by simp) (by decide) (by decide) (by decide)), rfl⟩ (fun _ h => h)
/-- How many digits, by how many bits. -/
def lg (b : Nat) : Nat := b * 78913 / 262144
theorem log10_spec (b : Nat) (hb : b ≤ 64) : Spec Tryd.prog 136 #[.int .i64 (b : Int)] noFacts [] fun r L => r = .int .i64 (lg b : Nat) ∧ L = [] := by
  refine Spec.go (vs := [_]) (hT := tyOk) (hm := mixed0) Tryd.func136 rfl Tryd.ntmps136 rfl ?_
  intro W p _
  refine Good.on ?_
  refine Good.ret1 Tryd.results136 (Res.tmp rfl) ⟨?_, rfl⟩ (fun _ h => h)
  have h1 : IntKind.i64.wrap ((b : Int) * 78913) = ((b * 78913 : Nat) : Int) := by rw [w64 _ (by omega)]; simp
  rw [h1]
  exact congrArg (Value.int .i64) (fdivPow (b * 78913) 18)
theorem bool2_spec (b : Bool) : Spec Tryd.prog 138 #[.bool b] noFacts [] fun r L => r = .int .i64 (if b then 1 else 0) ∧ L = [] := by
  refine Spec.go (vs := [_]) (hT := tyOk) (hm := mixed0) Tryd.func138 rfl Tryd.ntmps138 rfl ?_
  intro W p _
  refine Good.on ?_
  refine Good.ifB (fun h => ?_) (fun h => ?_) <;> refine Good.on ?_
  · refine Good.ret1 Tryd.results138 (Res.tmp rfl) ⟨by rw [h]; rfl, rfl⟩ (fun _ h => h)
  · refine Good.ret1 Tryd.results138 (Res.tmp rfl) ⟨by rw [h]; rfl, rfl⟩ (fun _ h => h)
/-- How many digits a number has. -/
def ndL (n : Nat) : Nat := lg (bitL n) + if 10 ^ lg (bitL n) ≤ n then 1 else 0
theorem lg_lt : ∀ b : Fin 65, lg b.val < 20 := by decide
theorem lg_bounds : ∀ b : Fin 64, 10 ^ (lg (b.val + 1) - 1) ≤ 2 ^ b.val ∧ 2 ^ (b.val + 1) ≤ 10 ^ (lg (b.val + 1) + 1) := by decide
theorem bitL_64 (n : Nat) (h : n < 18446744073709551616) : bitL n ≤ 64 := by
  by_cases h0 : n = 0
  · subst h0; decide
  · unfold bitL; rw [if_neg h0]
    have : Nat.log2 n < 64 := (Nat.log2_lt h0).2 (by omega)
    omega
theorem ndL_ok (n : Nat) (h0 : 0 < n) (h : n < 18446744073709551616) : ∃ k, ndL n = k + 1 ∧ n < 10 ^ (k + 1) ∧ (10 ^ k ≤ n ∨ k = 0) ∧ k ≤ 19 := by
  have h64 := bitL_64 n h
  obtain ⟨b, hb⟩ : ∃ b, bitL n = b + 1 := ⟨Nat.log2 n, by unfold bitL; rw [if_neg (by omega)]⟩
  obtain ⟨h1, h2⟩ := (bitL_pos h0).1 hb
  have hl := lg_bounds ⟨b, by omega⟩
  have hlt := lg_lt ⟨b + 1, by omega⟩
  simp only at hl hlt
  unfold ndL
  rw [hb]
  generalize lg (b + 1) = t at hl hlt ⊢
  by_cases ht : 10 ^ t ≤ n
  · rw [if_pos ht]
    exact ⟨t, rfl, by omega, .inl ht, by omega⟩
  · rw [if_neg ht]
    cases t with
    | zero => simp at ht; omega
    | succ t => exact ⟨t, rfl, by omega, .inl (by simp at hl; omega), by omega⟩
theorem numDigits_spec (n : Nat) (hn : n < 18446744073709551616) : Spec Tryd.prog 119 #[.int .u64 (n : Int)] Env [] fun r L => r = .int .i64 (ndL n : Nat) ∧ L = [] := by
  refine Spec.go (vs := [_]) (hT := tyOk) (hm := mixed0) Tryd.func119 rfl Tryd.ntmps119 rfl ?_
  intro W p hF
  have h64 := bitL_64 n hn
  have hlt := lg_lt ⟨bitL n, by omega⟩
  simp only at hlt
  refine Good.on ?_
  refine Good.callP [] (len64_spec n hn) ck137 ?_
  rintro r L ⟨rfl, rfl⟩
  refine Good.on ?_
  refine Good.callP [] (log10_spec (bitL n) h64) ck136 ?_
  rintro r L ⟨rfl, rfl⟩
  refine Good.on ?_
  refine Good.val (Yv.indexArr rfl rfl rfl rfl rfl rfl (by omega) (by omega)) ?_
  refine Good.on ?_
  refine Good.loadC (v := .int .u64 (10 ^ lg (bitL n) : Nat)) (fun w hS => ?_) ?_
  · have := hF.1.2.cell (j := lg (bitL n)) (v := .int .u64 (10 ^ lg (bitL n) : Nat)) (by simp [pow10C, hlt]) hS
    simpa [ti170] using this
  refine Good.on ?_
  refine Good.callP [] (bool2_spec _) ck138 ?_
  rintro r L ⟨rfl, rfl⟩
  refine Good.on ?_
  refine Good.ret1 Tryd.results119 (Res.tmp rfl) ⟨?_, rfl⟩ (fun _ h => h)
  unfold ndL
  by_cases h : 10 ^ lg (bitL n) ≤ n
  · have : ((n : Int) ≥ ((10 ^ lg (bitL n) : Nat) : Int)) := by omega
    rw [if_pos h]
    simp only [this, decide_true, if_true]
    rw [w64 _ (by omega)]; rfl
  · have : ¬ ((n : Int) ≥ ((10 ^ lg (bitL n) : Nat) : Int)) := by omega
    rw [if_neg h]
    simp only [this, decide_false, Bool.false_eq_true, if_false]
    rw [w64 _ (by omega)]; simp
end Go.Proofs.YtnfcbpgckomdfaaDoor
