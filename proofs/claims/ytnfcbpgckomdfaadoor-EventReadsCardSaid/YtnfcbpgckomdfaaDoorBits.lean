/- Numbers of Go's kinds as Lean's. For all of this seat's walks. -/
import Derived.Test.YtnfcbpgckomdfaaDoorTypes
namespace Go.Proofs.YtnfcbpgckomdfaaDoor
theorem w64 (x : Int) (h : -9223372036854775808 ≤ x ∧ x ≤ 9223372036854775807) : IntKind.i64.wrap x = x := by
  unfold IntKind.wrap; simp [IntKind.bits, IntKind.signed]; omega
theorem wrapU {k : IntKind} (hk : k.signed = false) (n : Nat) (h : n < 2 ^ k.bits) : k.wrap (n : Int) = (n : Int) := by
  unfold IntKind.wrap
  simp only [hk, Bool.false_and, Bool.false_eq_true, if_false]
  have : ((2 : Int) ^ k.bits) = ((2 ^ k.bits : Nat) : Int) := by simp
  rw [this, ← Int.natCast_emod, Nat.mod_eq_of_lt h]
theorem ofInt_nat (b n : Nat) (h : n < 2 ^ b) : (BitVec.ofInt b (n : Int)).toNat = n := by
  rw [BitVec.toNat_ofInt, ← Int.natCast_emod, Int.toNat_natCast, Nat.mod_eq_of_lt h]
theorem andU {k : IntKind} (hk : k.signed = false) (a b : Nat) (ha : a < 2 ^ k.bits) (hb : b < 2 ^ k.bits) : k.wrap (BitVec.ofInt k.bits (a : Int) &&& BitVec.ofInt k.bits (b : Int)).toNat = ((a &&& b : Nat) : Int) := by
  rw [BitVec.toNat_and, ofInt_nat _ _ ha, ofInt_nat _ _ hb, wrapU hk _ (Nat.lt_of_le_of_lt Nat.and_le_left ha)]
theorem orU {k : IntKind} (hk : k.signed = false) (a b : Nat) (ha : a < 2 ^ k.bits) (hb : b < 2 ^ k.bits) : k.wrap (BitVec.ofInt k.bits (a : Int) ||| BitVec.ofInt k.bits (b : Int)).toNat = ((a ||| b : Nat) : Int) := by
  rw [BitVec.toNat_or, ofInt_nat _ _ ha, ofInt_nat _ _ hb, wrapU hk _ (Nat.or_lt_two_pow ha hb)]
theorem and127 (n : Nat) : n &&& 127 = n % 128 := Nat.and_two_pow_sub_one_eq_mod n 7
theorem and1 (n : Nat) : n &&& 1 = n % 2 := Nat.and_two_pow_sub_one_eq_mod n 1
theorem fdivPow (a k : Nat) : (a : Int).fdiv (2 ^ k) = ((a / 2 ^ k : Nat) : Int) := by
  have : ((2 : Int) ^ k) = ((2 ^ k : Nat) : Int) := by simp
  rw [this, Int.fdiv_eq_ediv_of_nonneg _ (Int.natCast_nonneg _), Int.natCast_ediv]
/-- Bytes as cells. -/
def bytesC (ns : List Int) : List Value := ns.map (Value.int .u8)
end Go.Proofs.YtnfcbpgckomdfaaDoor
