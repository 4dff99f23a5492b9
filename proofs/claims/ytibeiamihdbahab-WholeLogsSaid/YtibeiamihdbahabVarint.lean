/- Package varint: what its calls do. -/
import Derived.Test.YtibeiamihdbahabBits
namespace Go.Proofs.Ytibeiamihdbahab
/-- A number's digits to the base 128. -/
def putL (n : Nat) : List Int := if h : n < 128 then [(n : Int)] else ((n % 128 + 128 : Nat) : Int) :: putL (n / 128)
termination_by n
theorem putL_lt {n : Nat} (h : n < 128) : putL n = [(n : Int)] := by rw [putL, dif_pos h]
theorem putL_ge {n : Nat} (h : ¬ n < 128) : putL n = ((n % 128 + 128 : Nat) : Int) :: putL (n / 128) := by rw [putL, dif_neg h]
theorem putL_len : ∀ (k n : Nat), n < 128 ^ (k + 1) → (putL n).length ≤ k + 1
  | 0, n, h => by rw [putL_lt (by simpa using h)]; simp
  | k + 1, n, h => by
    by_cases hn : n < 128
    · rw [putL_lt hn]; simp
    · rw [putL_ge hn]
      have := putL_len k (n / 128) (by rw [Nat.div_lt_iff_lt_mul (by omega)]; rw [Nat.pow_succ] at h; exact h)
      simp only [List.length_cons]; omega
theorem putL_len10 {n : Nat} (h : n < 18446744073709551616) : (putL n).length ≤ 10 := putL_len 9 n (by omega)
theorem or80 (m : Nat) : IntKind.u8.wrap (BitVec.ofInt IntKind.u8.bits (IntKind.u8.wrap (m : Int)) ||| BitVec.ofInt IntKind.u8.bits 128).toNat = ((m % 128 + 128 : Nat) : Int) := by
  have h1 : IntKind.u8.wrap (m : Int) = ((m % 256 : Nat) : Int) := by simp [IntKind.wrap, IntKind.bits, IntKind.signed]
  have key : ∀ x : Fin 256, x.val ||| 128 = x.val % 128 + 128 := by decide +kernel
  rw [h1]
  have h2 : (BitVec.ofInt IntKind.u8.bits ((m % 256 : Nat) : Int) ||| BitVec.ofInt IntKind.u8.bits 128).toNat = (m % 256) % 128 + 128 := by
    rw [← key ⟨m % 256, Nat.mod_lt _ (by omega)⟩, BitVec.toNat_or, BitVec.toNat_ofInt, BitVec.toNat_ofInt]
    have h3 : (((m % 256 : Nat) : Int) % ((2 ^ IntKind.u8.bits : Nat) : Int)).toNat = m % 256 := by simp [IntKind.bits]; omega
    rw [h3]; rfl
  rw [h2]
  simp [IntKind.wrap, IntKind.bits, IntKind.signed]
  omega
theorem low8 (m : Nat) (h : m < 128) : IntKind.u8.wrap (m : Int) = (m : Int) := by
  simp [IntKind.wrap, IntKind.bits, IntKind.signed]; omega
theorem shr7 (m : Nat) : (m : Int).fdiv (2 ^ min (Int.toNat 7) IntKind.u64.bits) = ((m / 128 : Nat) : Int) := by
  simp [IntKind.bits, Int.fdiv_eq_ediv_of_nonneg]
set_option maxHeartbeats 400000
def bytesC (ns : List Int) : List Value := ns.map (Value.int .u8)
theorem varintPut_spec (v : Value) (ns : List Int) (n : Nat) (hn : n < 18446744073709551616) (hl : ns.length ≤ 70368744177664) :
    Spec Try.prog 15 #[v, .int .u64 n] noFacts [slc 5 1 v (bytesC ns)] fun r L => L = [slc 5 1 r (bytesC (ns ++ putL n))] := by
  refine Spec.go (vs := [_, _]) (hT := tyOk) (hm := mixed0) Try.func15 rfl Try.ntmps15 rfl ?_
  intro W p _
  refine Good.on ?_
  refine Good.loop (ι := Value × List Int × Nat) (fun x => [(0, .v x.1), (1, .v (.int .u64 x.2.2))]) (fun x => [slc 5 1 x.1 (bytesC x.2.1)]) (fun x => x.2.2 < 18446744073709551616 ∧ x.2.1 ++ putL x.2.2 = ns ++ putL n) (fun x => x.2.2) (v, ns, n) ⟨hn, rfl⟩ ⟨rfl, rfl, trivial⟩ (fun _ h => h) ?_
  rintro ⟨v1, ms, m⟩ ⟨hm, he⟩
  have hlen : ms.length ≤ 70368744177664 + 10 := by
    have h1 := congrArg List.length he
    have h2 := putL_len10 hn
    simp only [List.length_append] at h1
    omega
  dsimp only at hm he hlen ⊢
  refine Good.on ?_
  refine Good.ifD (fun h => ?_) (fun h => ?_) <;> refine Good.on ?_
  · refine Good.push 0 (fun g v' => ?_) ?_
    rotate_left
    · simp [bytesC, ti5]; omega
    refine Good.on ?_
    have hm' : ¬ m < 128 := by omega
    refine Good.again (v', ms ++ [((m % 128 + 128 : Nat) : Int)], m / 128) ⟨⟨by dsimp only; omega, by dsimp only; rw [List.append_assoc, ← he, putL_ge hm']; rfl⟩, by dsimp only; omega⟩ ⟨rfl, ?_, trivial⟩ (fun w h => ?_)
    · show some (Value.int .u64 _) = _
      rw [shr7]; rfl
    · rw [or80] at h; simpa [bytesC] using h
  · refine Good.push 0 (fun g v' => ?_) ?_
    rotate_left
    · simp [bytesC, ti5]; omega
    refine Good.on ?_
    refine Good.ret1 Try.results15 (Res.tmp rfl) rfl (fun w h => ?_)
    rw [low8 m (by omega)] at h
    rw [← he, putL_lt (by omega)]; simpa [bytesC] using h

/-! ## numbers with a sign -/
def fold (n : Int) : Nat := if 0 ≤ n then (2 * n).toNat else (-2 * n - 1).toNat
def back (n : Nat) : Int := if n % 2 = 0 then ((n / 2 : Nat) : Int) else -((n / 2 : Nat) : Int) - 1
theorem back_fold (n : Int) : back (fold n) = n := by
  unfold back fold
  split <;> split <;> omega
theorem fold_lt {n : Int} (h : -9223372036854775808 ≤ n ∧ n ≤ 9223372036854775807) : fold n < 18446744073709551616 := by unfold fold; split <;> omega
theorem fold_back {n : Nat} : fold (back n) = n := by
  unfold back fold
  split <;> split <;> omega
theorem xorOnes (x : Nat) (h : x < 2 ^ 64) : (BitVec.ofInt 64 (x : Int) ^^^ BitVec.ofInt 64 (-1)).toNat = 2 ^ 64 - 1 - x := by
  have h1 : BitVec.ofInt 64 (-1) = BitVec.allOnes 64 := by decide
  rw [h1, BitVec.xor_allOnes, BitVec.toNat_not, ofInt_nat _ _ h]
theorem varintFold_spec (n : Int) (h : -9223372036854775808 ≤ n ∧ n ≤ 9223372036854775807) : Spec Try.prog 30 #[.int .i64 n] noFacts [] fun r L => r = .int .u64 (fold n) ∧ L = [] := by
  refine Spec.go (vs := [_]) (hT := tyOk) (hm := mixed0) Try.func30 rfl Try.ntmps30 rfl ?_
  intro W p _
  refine Good.on ?_
  refine Good.ret1 Try.results30 (Res.tmp rfl) ⟨?_, rfl⟩ (fun _ h => h)
  congr 1
  have h1 : (2 : Int) ^ min (Int.toNat 1) IntKind.i64.bits = 2 := by decide
  have h2 : (2 : Int) ^ min (Int.toNat 63) IntKind.i64.bits = 9223372036854775808 := by decide
  rw [h1, h2]
  by_cases hn : 0 ≤ n
  · obtain ⟨m, rfl⟩ := Int.eq_ofNat_of_zero_le hn
    have h3 : IntKind.u64.wrap (IntKind.i64.wrap ((m : Int) * 2)) = ((2 * m : Nat) : Int) := by
      simp [IntKind.wrap, IntKind.bits, IntKind.signed]; omega
    have h4 : (m : Int).fdiv 9223372036854775808 = ((0 : Nat) : Int) := by rw [Int.fdiv_eq_ediv_of_nonneg _ (by omega)]; omega
    rw [h3, h4, wrapU rfl 0 (by decide)]
    have hx : (BitVec.ofInt IntKind.u64.bits ((2 * m : Nat) : Int) ^^^ BitVec.ofInt IntKind.u64.bits ((0 : Nat) : Int)).toNat = 2 * m := by
      rw [BitVec.toNat_xor, ofInt_nat _ _ (by simp [IntKind.bits]; omega), ofInt_nat _ _ (by decide)]; simp
    rw [hx, wrapU rfl _ (by simp [IntKind.bits]; omega)]
    unfold fold; rw [if_pos hn]; omega
  · have h3 : IntKind.u64.wrap (IntKind.i64.wrap (n * 2)) = ((18446744073709551616 + 2 * n).toNat : Int) := by
      simp [IntKind.wrap, IntKind.bits, IntKind.signed]; omega
    have h4 : n.fdiv 9223372036854775808 = -1 := by rw [Int.fdiv_eq_ediv_of_nonneg _ (by omega)]; omega
    have h5 : IntKind.u64.wrap (-1) = ((2 ^ 64 - 1 : Nat) : Int) := by decide
    rw [h3, h4, h5]
    have hx : (BitVec.ofInt IntKind.u64.bits (((18446744073709551616 + 2 * n).toNat : Nat) : Int) ^^^ BitVec.ofInt IntKind.u64.bits ((2 ^ 64 - 1 : Nat) : Int)).toNat = 2 ^ 64 - 1 - (18446744073709551616 + 2 * n).toNat := by
      have := xorOnes (18446744073709551616 + 2 * n).toNat (by omega)
      have e : BitVec.ofInt IntKind.u64.bits ((2 ^ 64 - 1 : Nat) : Int) = BitVec.ofInt 64 (-1) := by show BitVec.ofInt 64 ((2 ^ 64 - 1 : Nat) : Int) = BitVec.ofInt 64 (-1); decide
      rw [e]; exact this
    rw [hx, wrapU rfl _ (by simp [IntKind.bits]; omega)]
    unfold fold; rw [if_neg hn]; omega
theorem varintPutInt_spec (v : Value) (ns : List Int) (n : Int) (h : -9223372036854775808 ≤ n ∧ n ≤ 9223372036854775807) (hl : ns.length ≤ 70368744177664) :
    Spec Try.prog 14 #[v, .int .i64 n] noFacts [slc 5 1 v (bytesC ns)] fun r L => L = [slc 5 1 r (bytesC (ns ++ putL (fold n)))] := by
  refine Spec.go (vs := [_, _]) (hT := tyOk) (hm := mixed0) Try.func14 rfl Try.ntmps14 rfl ?_
  intro W p _
  refine Good.on ?_
  refine Good.call0 (varintFold_spec n h) ck30 ?_
  rintro v1 L ⟨rfl, rfl⟩
  refine Good.on ?_
  refine Good.call1 0 (varintPut_spec v ns (fold n) (fold_lt h) hl) ck15 ?_
  rintro v2 L rfl
  refine Good.on ?_
  exact Good.ret1 Try.results14 (Res.tmp rfl) rfl (fun _ h => h)
theorem varintBack_spec (n : Nat) (h : n < 18446744073709551616) : Spec Try.prog 46 #[.int .u64 n] noFacts [] fun r L => r = .int .i64 (back n) ∧ L = [] := by
  refine Spec.go (vs := [_]) (hT := tyOk) (hm := mixed0) Try.func46 rfl Try.ntmps46 rfl ?_
  intro W p _
  refine Good.on ?_
  refine Good.ret1 Try.results46 (Res.tmp rfl) ⟨?_, rfl⟩ (fun _ h => h)
  congr 1
  have h0 : (1 : Int) = ((1 : Nat) : Int) := rfl
  have ha := andU (k := .u64) rfl n 1 (by simp [IntKind.bits]; omega) (by decide)
  rw [← h0] at ha
  rw [show (n : Int).fdiv (2 ^ min (Int.toNat 1) IntKind.u64.bits) = ((n / 2 : Nat) : Int) from by have := fdivPow n 1; simpa [IntKind.bits] using this]
  rw [ha, and1]
  rw [show IntKind.i64.wrap ((n / 2 : Nat) : Int) = ((n / 2 : Nat) : Int) from w64 _ (by omega)]
  rw [show IntKind.i64.wrap ((n % 2 : Nat) : Int) = ((n % 2 : Nat) : Int) from w64 _ (by omega)]
  unfold back
  rcases Nat.mod_two_eq_zero_or_one n with e | e
  · rw [e, if_pos rfl]
    have hx : (BitVec.ofInt IntKind.i64.bits ((n / 2 : Nat) : Int) ^^^ BitVec.ofInt IntKind.i64.bits (IntKind.i64.wrap (0 - ((0 : Nat) : Int)))).toNat = n / 2 := by
      rw [BitVec.toNat_xor, ofInt_nat _ _ (by simp [IntKind.bits]; omega)]
      rw [show (BitVec.ofInt IntKind.i64.bits (IntKind.i64.wrap (0 - ((0 : Nat) : Int)))).toNat = 0 from by decide]
      simp
    rw [hx]; exact w64 _ (by omega)
  · rw [e, if_neg (by omega)]
    have hx : (BitVec.ofInt IntKind.i64.bits ((n / 2 : Nat) : Int) ^^^ BitVec.ofInt IntKind.i64.bits (IntKind.i64.wrap (0 - ((1 : Nat) : Int)))).toNat = 2 ^ 64 - 1 - n / 2 := by
      have := xorOnes (n / 2) (by omega)
      rw [show BitVec.ofInt IntKind.i64.bits (IntKind.i64.wrap (0 - ((1 : Nat) : Int))) = BitVec.ofInt 64 (-1) from by show BitVec.ofInt 64 (IntKind.i64.wrap (0 - ((1 : Nat) : Int))) = BitVec.ofInt 64 (-1); decide]
      exact this
    rw [hx]
    simp [IntKind.wrap, IntKind.bits, IntKind.signed]; omega
end Go.Proofs.Ytibeiamihdbahab
