/- tidewaiterref19: numbers and rules in words. -/
import Derived.Test.YtnfcbpgckomdfaaDoorItoa
namespace Go.Proofs.YtnfcbpgckomdfaaDoor
open Go.Lib (strCells)
theorem decL_len : ∀ (k n : Nat), n < 10 ^ (k + 1) → (decL n).length ≤ k + 1
  | 0, n, h => by rw [decL_lt (by simpa using h)]; simp
  | k + 1, n, h => by
    by_cases hn : n < 10
    · rw [decL_lt hn]; simp
    · rw [decL_ge hn]
      have := decL_len k (n / 10) (by rw [Nat.div_lt_iff_lt_mul (by omega)]; rw [Nat.pow_succ] at h; exact h)
      simp only [List.length_append, List.length_singleton]; omega
def I64 (n : Int) : Prop := -9223372036854775808 ≤ n ∧ n ≤ 9223372036854775807
theorem itoaL_len {n : Int} (h : I64 n) : (itoaL n).length ≤ 20 := by
  obtain ⟨h1, h2⟩ := h
  unfold itoaL
  split
  · have := decL_len 18 (-n).toNat (by omega)
    simp only [List.length_cons]; omega
  · have := decL_len 18 n.toNat (by omega)
    omega
/-- So a cell is. -/
def CellAt (ad : Addr) (v : Value) (w : World) : Prop := w.cell? ad = some v
theorem u8wi (x : Int) (h : 0 ≤ x ∧ x < 256) : IntKind.u8.wrap x = x := by
  obtain ⟨n, rfl⟩ := Int.eq_ofNat_of_zero_le h.1; exact u8w n (by omega)
theorem tmod_neg (m : Nat) : (-(m : Int)).tmod 10 = -((m % 10 : Nat) : Int) := by rw [Int.neg_tmod]; rfl
theorem tmod_pos (m : Nat) : ((m : Int)).tmod 10 = ((m % 10 : Nat) : Int) := rfl
theorem tdiv_neg (m : Nat) : (-(m : Int)).tdiv 10 = -((m / 10 : Nat) : Int) := by rw [Int.neg_tdiv]; rfl
theorem tdiv_pos (m : Nat) : ((m : Int)).tdiv 10 = ((m / 10 : Nat) : Int) := rfl
theorem dig_ofNat (m : Nat) : UInt8.ofNat (48 + m % 10) = dig m := rfl
theorem itoaL_pos {m : Nat} : itoaL (m : Int) = decL m := by rw [itoaL, if_neg (by omega)]; rfl
theorem itoaL_neg {m : Nat} (h : 0 < m) : itoaL (-(m : Int)) = 45 :: decL m := by rw [itoaL, if_pos (by omega)]; rw [show (- -(m : Int)).toNat = m from by omega]
set_option maxHeartbeats 1600000
set_option maxRecDepth 20000
theorem num_spec (n : Int) (hn : I64 n) : Spec Tryd.prog 54 #[.int .i64 n] noFacts [] fun r L => r = .string (str (itoaL n)) ∧ L = [] := by
  induction hk : n.natAbs using Nat.strongRecOn generalizing n with
  | ind k ih =>
  subst hk
  have hn' := hn
  obtain ⟨hn1, hn2⟩ := hn'
  refine Spec.go (vs := [_]) (hT := tyOk) (hm := mixed0) Tryd.func54 rfl Tryd.ntmps54 rfl ?_
  intro W p _
  refine Good.on ?_
  refine Good.ifD (fun h => ?_) (fun h => ?_) <;> refine Good.on ?_
  · obtain ⟨m, rfl⟩ : ∃ m : Nat, n = -(m : Int) := ⟨n.natAbs, by omega⟩
    rw [tmod_neg, w64 _ (by omega), u8wi (48 - -((m % 10 : Nat) : Int)) (by omega)]
    refine Good.op rfl (OpW.lit rfl rfl rfl fun g => ?_)
    refine Good.mem (l' := [slc 5 1 (.slice (some ⟨g, 0, none⟩) 1 1) (([(48 - -((m % 10 : Nat) : Int))]).map (Value.int .u8))]) (fun w h => Sat.rowSlc rfl (by unfold maxLen; omega) h) ?_
    refine Good.on ?_
    refine Good.bytesStr 0 (ns := [(48 - -((m % 10 : Nat) : Int))]) ?_
    rw [show (List.map (fun n : Int => UInt8.ofNat n.toNat) [(48 - -((m % 10 : Nat) : Int))]) = [dig m] from by rw [← dig_ofNat]; simp only [List.map_cons, List.map_nil]; congr 2; omega]
    refine Good.on ?_
    refine Good.ifD (fun h10 => ?_) (fun h10 => ?_) <;> refine Good.on ?_
    · refine Good.val (Yv.concat (a := [45]) (b := [dig m]) rfl rfl rfl (by simp)) ?_
      refine Good.on ?_
      refine Good.ret1 Tryd.results54 (Res.tmp rfl) ⟨?_, rfl⟩ (fun _ h => h.clear)
      rw [itoaL_neg (by omega), decL_lt (by omega)]; rfl
    · rw [tdiv_neg, w64 _ (by omega)]
      refine Good.callP [] (ih _ (by omega) (-((m / 10 : Nat) : Int)) ⟨by omega, by omega⟩ rfl) ck54 ?_
      rintro r L ⟨rfl, rfl⟩
      refine Good.on ?_
      have hl := itoaL_len (n := -((m / 10 : Nat) : Int)) ⟨by omega, by omega⟩
      refine Good.val (Yv.concat (b := [dig m]) rfl rfl rfl (by simp only [List.length_singleton]; omega)) ?_
      refine Good.on ?_
      refine Good.ret1 Tryd.results54 (Res.tmp rfl) ⟨?_, rfl⟩ (fun _ h => h.clear)
      rw [itoaL_neg (by omega), itoaL_neg (by omega), decL_ge (n := m) (by omega)]; rfl
  · obtain ⟨m, rfl⟩ : ∃ m : Nat, n = (m : Int) := ⟨n.natAbs, by omega⟩
    rw [tmod_pos, w64 _ (by omega), u8wi (48 + ((m % 10 : Nat) : Int)) (by omega)]
    refine Good.op rfl (OpW.lit rfl rfl rfl fun g => ?_)
    refine Good.mem (l' := [slc 5 1 (.slice (some ⟨g, 0, none⟩) 1 1) (([(48 + ((m % 10 : Nat) : Int))]).map (Value.int .u8))]) (fun w h => Sat.rowSlc rfl (by unfold maxLen; omega) h) ?_
    refine Good.on ?_
    refine Good.bytesStr 0 (ns := [(48 + ((m % 10 : Nat) : Int))]) ?_
    rw [show (List.map (fun n : Int => UInt8.ofNat n.toNat) [(48 + ((m % 10 : Nat) : Int))]) = [dig m] from by rw [← dig_ofNat]; simp only [List.map_cons, List.map_nil]; congr 2]
    refine Good.on ?_
    refine Good.ifD (fun h10 => ?_) (fun h10 => ?_) <;> refine Good.on ?_
    · refine Good.ret1 Tryd.results54 (Res.tmp rfl) ⟨?_, rfl⟩ (fun _ h => h.clear)
      rw [itoaL_pos, decL_lt (by omega)]
    · rw [tdiv_pos, w64 _ (by omega)]
      refine Good.callP [] (ih _ (by omega) (((m / 10 : Nat) : Int)) ⟨by omega, by omega⟩ rfl) ck54 ?_
      rintro r L ⟨rfl, rfl⟩
      refine Good.on ?_
      have hl := itoaL_len (n := ((m / 10 : Nat) : Int)) ⟨by omega, by omega⟩
      refine Good.val (Yv.concat (b := [dig m]) rfl rfl rfl (by simp only [List.length_singleton]; omega)) ?_
      refine Good.on ?_
      refine Good.ret1 Tryd.results54 (Res.tmp rfl) ⟨?_, rfl⟩ (fun _ h => h.clear)
      rw [itoaL_pos, itoaL_pos, decL_ge (n := m) (by omega)]
end Go.Proofs.YtnfcbpgckomdfaaDoor
