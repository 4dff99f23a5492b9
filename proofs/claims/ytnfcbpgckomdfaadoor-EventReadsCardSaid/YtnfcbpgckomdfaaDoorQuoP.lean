/- The plain law of quote: what it writes is read again. -/
import Derived.Test.YtnfcbpgckomdfaaDoorPiece
namespace Go.Proofs.YtnfcbpgckomdfaaDoor
theorem dec_bounds (t : List UInt8) (h : t ≠ []) : 1 ≤ (dec t).2 ∧ (dec t).2 ≤ t.length ∧ (dec t).2 ≤ 4 ∧ (dec t).1 ≤ 1114111 := by
  have h1 : 0 < t.length := List.length_pos_iff.2 h
  have hb := byteAt_lt t 0
  by_cases h128 : byteAt t 0 < 128
  · rw [dec_ascii t h128]; simp; omega
  rw [dec_form t (by omega)]
  have m1 := Nat.mod_lt (byteAt t 1) (show 0 < 64 by omega)
  have m2 := Nat.mod_lt (byteAt t 2) (show 0 < 64 by omega)
  have m0 := Nat.mod_lt (byteAt t 0) (show 0 < 32 by omega)
  generalize byteAt t 1 % 64 = a1 at *
  generalize byteAt t 2 % 64 = a2 at *
  generalize byteAt t 3 % 64 = a3 at *
  generalize byteAt t 0 % 32 = c5 at *
  generalize byteAt t 0 % 16 = c4 at *
  generalize byteAt t 0 % 8 = c3 at *
  generalize byteAt t 1 / 64 = q1 at *
  generalize byteAt t 2 / 64 = q2 at *
  generalize byteAt t 3 / 64 = q3 at *
  repeat' split
  all_goals (refine ⟨?_, ?_, ?_, ?_⟩ <;> dsimp only <;> omega)
end Go.Proofs.YtnfcbpgckomdfaaDoor
