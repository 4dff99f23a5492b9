/- unicode/utf8: the tables' answer is the form's. -/
import Derived.Test.YtnfcbpgckomdfaaDoorUtf
namespace Go.Proofs.YtnfcbpgckomdfaaDoor
theorem and_bool (p q : Prop) [Decidable p] [Decidable q] : (decide p && decide q) = decide (p ∧ q) := by by_cases h : p <;> by_cases h' : q <;> simp [h, h']
theorem beq_dec (a b : Nat) : (a == b) = decide (a = b) := by by_cases h : a = b <;> simp [h]
theorem validN (c : Nat) : Utf8.valid (c : Int) = decide (c < 55296 ∨ 57344 ≤ c ∧ c ≤ 1114111) := by
  unfold Utf8.valid
  rw [Bool.eq_iff_iff]
  simp
  omega
theorem ranges : (loN (2 / 16) = 128 ∧ hiN (2 / 16) = 191) ∧ (loN (19 / 16) = 160 ∧ hiN (19 / 16) = 191) ∧ (loN (35 / 16) = 128 ∧ hiN (35 / 16) = 159) ∧ (loN (3 / 16) = 128 ∧ hiN (3 / 16) = 191) ∧ (loN (52 / 16) = 144 ∧ hiN (52 / 16) = 191) ∧ (loN (4 / 16) = 128 ∧ hiN (4 / 16) = 191) ∧ (loN (68 / 16) = 128 ∧ hiN (68 / 16) = 143) := by decide +kernel
theorem classes (b : Nat) (h : 128 ≤ b) : (firstN b = 241 ∧ 128 ≤ b ∧ (b < 194 ∨ 244 < b)) ∨ (firstN b = 2 ∧ firstN b % 8 = 2 ∧ loN (firstN b / 16) = 128 ∧ hiN (firstN b / 16) = 191 ∧ 194 ≤ b ∧ b < 224) ∨ (firstN b = 19 ∧ firstN b % 8 = 3 ∧ loN (firstN b / 16) = 160 ∧ hiN (firstN b / 16) = 191 ∧ b = 224) ∨ (firstN b = 35 ∧ firstN b % 8 = 3 ∧ loN (firstN b / 16) = 128 ∧ hiN (firstN b / 16) = 159 ∧ b = 237) ∨ (firstN b = 3 ∧ firstN b % 8 = 3 ∧ loN (firstN b / 16) = 128 ∧ hiN (firstN b / 16) = 191 ∧ 224 < b ∧ b < 240 ∧ b ≠ 237) ∨ (firstN b = 52 ∧ firstN b % 8 = 4 ∧ loN (firstN b / 16) = 144 ∧ hiN (firstN b / 16) = 191 ∧ b = 240) ∨ (firstN b = 4 ∧ firstN b % 8 = 4 ∧ loN (firstN b / 16) = 128 ∧ hiN (firstN b / 16) = 191 ∧ 240 < b ∧ b < 244) ∨ (firstN b = 68 ∧ firstN b % 8 = 4 ∧ loN (firstN b / 16) = 128 ∧ hiN (firstN b / 16) = 143 ∧ b = 244) := by
  obtain ⟨⟨a0, b0⟩, ⟨a1, b1⟩, ⟨a2, b2⟩, ⟨a3, b3⟩, ⟨a4, b4⟩, ⟨a5, b5⟩, a6, b6⟩ := ranges
  rcases firstN_cases b h with ⟨h, hc⟩ | ⟨h, hc⟩ | ⟨h, hc⟩ | ⟨h, hc⟩ | ⟨h, hc⟩ | ⟨h, hc⟩ | ⟨h, hc⟩ | ⟨h, hc⟩
  · exact .inl ⟨h, by assumption, hc⟩
  · exact .inr (.inl ⟨h, by rw [h], by rw [h]; exact a0, by rw [h]; exact b0, hc⟩)
  · exact .inr (.inr (.inl ⟨h, by rw [h], by rw [h]; exact a1, by rw [h]; exact b1, hc⟩))
  · exact .inr (.inr (.inr (.inl ⟨h, by rw [h], by rw [h]; exact a2, by rw [h]; exact b2, hc⟩)))
  · exact .inr (.inr (.inr (.inr (.inl ⟨h, by rw [h], by rw [h]; exact a3, by rw [h]; exact b3, hc⟩))))
  · exact .inr (.inr (.inr (.inr (.inr (.inl ⟨h, by rw [h], by rw [h]; exact a4, by rw [h]; exact b4, hc⟩)))))
  · exact .inr (.inr (.inr (.inr (.inr (.inr (.inl ⟨h, by rw [h], by rw [h]; exact a5, by rw [h]; exact b5, hc⟩))))))
  · exact .inr (.inr (.inr (.inr (.inr (.inr (.inr ⟨h, by rw [h], by rw [h]; exact a6, by rw [h]; exact b6, hc⟩))))))
theorem dec_slow (bs : List UInt8) (h1 : 0 < bs.length) (h128 : 128 ≤ byteAt bs 0) : dec bs = slowL bs := by
  have hb0 := byteAt_lt bs 0
  have core := dec_core bs.length (byteAt bs 0) (byteAt bs 1 / 64) (byteAt bs 1 % 64) (byteAt bs 2 / 64) (byteAt bs 2 % 64) (byteAt bs 3 / 64) (byteAt bs 3 % 64) (byteAt bs 0 % 32) (byteAt bs 0 % 16) (byteAt bs 0 % 8) (firstN (byteAt bs 0)) (firstN (byteAt bs 0) % 8) (Nat.mod_lt _ (by omega)) (Nat.mod_lt _ (by omega)) (Nat.mod_lt _ (by omega)) h1 hb0 (by omega) (by omega) (by omega) (loN (firstN (byteAt bs 0) / 16)) (hiN (firstN (byteAt bs 0) / 16)) (classes _ h128)
  have d1 : ∀ k, 64 * (byteAt bs k / 64) + byteAt bs k % 64 = byteAt bs k := fun k => by omega
  rw [d1, d1, d1] at core
  have e32 : (byteAt bs 0 / 32 = 6) = (192 ≤ byteAt bs 0 ∧ byteAt bs 0 < 224) := by rw [eq_iff_iff]; omega
  have e16 : (byteAt bs 0 / 16 = 14) = (224 ≤ byteAt bs 0 ∧ byteAt bs 0 < 240) := by rw [eq_iff_iff]; omega
  have e8 : (byteAt bs 0 / 8 = 30) = (240 ≤ byteAt bs 0 ∧ byteAt bs 0 < 248) := by rw [eq_iff_iff]; omega
  unfold dec Utf8.decode slowL
  simp only [get!_str, Nat.zero_add, str_size]
  rw [if_neg (show ¬ bs.length < 1 by omega), if_neg (show ¬ byteAt bs 0 < 128 by omega), ← core]
  simp only [validN, beq_dec, and_bool, decide_eq_true_eq, Utf8.runeError, ge_iff_le, e32, e16, e8]
/-- A sign of more than one byte, by its bytes. -/
theorem dec_form (bs : List UInt8) (h128 : 128 ≤ byteAt bs 0) : dec bs =
    (if (192 ≤ byteAt bs 0 ∧ byteAt bs 0 < 224) ∧ 1 < bs.length ∧ byteAt bs 1 / 64 = 2 then (if 128 ≤ byteAt bs 0 % 32 * 64 + byteAt bs 1 % 64 then (byteAt bs 0 % 32 * 64 + byteAt bs 1 % 64, 2) else (65533, 1))
      else if ((224 ≤ byteAt bs 0 ∧ byteAt bs 0 < 240) ∧ 1 < bs.length ∧ byteAt bs 1 / 64 = 2) ∧ 2 < bs.length ∧ byteAt bs 2 / 64 = 2 then (if 2048 ≤ byteAt bs 0 % 16 * 4096 + byteAt bs 1 % 64 * 64 + byteAt bs 2 % 64 ∧ (byteAt bs 0 % 16 * 4096 + byteAt bs 1 % 64 * 64 + byteAt bs 2 % 64 < 55296 ∨ 57344 ≤ byteAt bs 0 % 16 * 4096 + byteAt bs 1 % 64 * 64 + byteAt bs 2 % 64 ∧ byteAt bs 0 % 16 * 4096 + byteAt bs 1 % 64 * 64 + byteAt bs 2 % 64 ≤ 1114111) then (byteAt bs 0 % 16 * 4096 + byteAt bs 1 % 64 * 64 + byteAt bs 2 % 64, 3) else (65533, 1))
      else if (((240 ≤ byteAt bs 0 ∧ byteAt bs 0 < 248) ∧ 1 < bs.length ∧ byteAt bs 1 / 64 = 2) ∧ 2 < bs.length ∧ byteAt bs 2 / 64 = 2) ∧ 3 < bs.length ∧ byteAt bs 3 / 64 = 2 then (if 65536 ≤ byteAt bs 0 % 8 * 262144 + byteAt bs 1 % 64 * 4096 + byteAt bs 2 % 64 * 64 + byteAt bs 3 % 64 ∧ (byteAt bs 0 % 8 * 262144 + byteAt bs 1 % 64 * 4096 + byteAt bs 2 % 64 * 64 + byteAt bs 3 % 64 < 55296 ∨ 57344 ≤ byteAt bs 0 % 8 * 262144 + byteAt bs 1 % 64 * 4096 + byteAt bs 2 % 64 * 64 + byteAt bs 3 % 64 ∧ byteAt bs 0 % 8 * 262144 + byteAt bs 1 % 64 * 4096 + byteAt bs 2 % 64 * 64 + byteAt bs 3 % 64 ≤ 1114111) then (byteAt bs 0 % 8 * 262144 + byteAt bs 1 % 64 * 4096 + byteAt bs 2 % 64 * 64 + byteAt bs 3 % 64, 4) else (65533, 1))
      else (65533, 1)) := by
  have hb0 := byteAt_lt bs 0
  have e32 : (byteAt bs 0 / 32 = 6) = (192 ≤ byteAt bs 0 ∧ byteAt bs 0 < 224) := by rw [eq_iff_iff]; omega
  have e16 : (byteAt bs 0 / 16 = 14) = (224 ≤ byteAt bs 0 ∧ byteAt bs 0 < 240) := by rw [eq_iff_iff]; omega
  have e8 : (byteAt bs 0 / 8 = 30) = (240 ≤ byteAt bs 0 ∧ byteAt bs 0 < 248) := by rw [eq_iff_iff]; omega
  unfold dec Utf8.decode
  simp only [get!_str, Nat.zero_add, str_size]
  rw [if_neg (show ¬ byteAt bs 0 < 128 by omega)]
  simp only [validN, beq_dec, and_bool, decide_eq_true_eq, Utf8.runeError, ge_iff_le, e32, e16, e8]
theorem dec_ascii (bs : List UInt8) (h : byteAt bs 0 < 128) : dec bs = (byteAt bs 0, 1) := by
  unfold dec Utf8.decode
  simp only [get!_str, Nat.zero_add, h, if_true]
set_option maxRecDepth 20000
theorem decodeRune_spec (bs : List UInt8) (h0 : bs ≠ []) (hl : bs.length ≤ 9223372036854775807) : Spec Tryd.prog 97 #[.string (str bs)] Utf [] fun r L => r = runeV (dec bs) ∧ L = [] := by
  refine Spec.go (vs := [_]) (hT := tyOk) (hm := mixed0) Tryd.func97 rfl Tryd.ntmps97 rfl ?_
  intro W p hF
  have h1 : 0 < bs.length := List.length_pos_iff.2 h0
  obtain ⟨g0, e0⟩ := byteAt_get h1
  refine Good.on ?_
  rw [str_toList]
  refine Good.partB (fun h => ?_) (fun h => ?_)
  rotate_left
  · exact absurd h (by simp [h0])
  refine Good.on ?_
  refine Good.val (Yv.index rfl rfl rfl rfl rfl (by omega) g0) ?_
  rw [← e0]
  refine Good.on ?_
  refine Good.ifD (fun h => ?_) (fun h => ?_) <;> refine Good.on ?_
  · refine Good.val (Yv.index rfl rfl rfl rfl rfl (by omega) g0) ?_
    rw [← e0]
    refine Good.on ?_
    refine Good.ret2 Tryd.results97 (Res.tmp rfl) (Res.tmp rfl) ⟨?_, rfl⟩ (fun _ h => h)
    rw [dec_ascii bs (by omega), w32 _ (by omega)]; rfl
  · refine Good.callK [] (decodeSlow_spec bs (.inr (by omega)) hl) stays_utf hF ck117 ?_
    rintro v L ⟨rfl, rfl⟩
    refine Good.on ?_
    refine Good.ret2 Tryd.results97 (Res.tmp rfl) (Res.tmp rfl) ⟨?_, rfl⟩ (fun _ h => h)
    rw [dec_slow bs h1 (by omega)]; rfl
/-- Stands there a byte of no sign? -/
def strayB (bs : List UInt8) : Bool := decide ((dec bs).1 = 65533) && decide ((dec bs).2 = 1)
theorem stray_spec (bs : List UInt8) (i : Nat) (hi : i < bs.length) (hl : bs.length ≤ 9223372036854775807) : Spec Tryd.prog 74 #[.string (str bs), .int .i64 (i : Int), .int .i32 ((dec (bs.drop i)).1 : Int)] Utf [] fun r L => r = .bool (strayB (bs.drop i)) ∧ L = [] := by
  refine Spec.go (vs := [_, _, _]) (hT := tyOk) (hm := mixed0) Tryd.func74 rfl Tryd.ntmps74 rfl ?_
  intro W p hF
  refine Good.on ?_
  refine Good.ifB (fun h => ?_) (fun h => ?_) <;> refine Good.on ?_
  · refine Good.ret1 Tryd.results74 (Res.tmp rfl) ⟨?_, rfl⟩ (fun _ h => h)
    have : (dec (bs.drop i)).1 ≠ 65533 := fun e => by rw [e] at h; simp at h
    simp [strayB, this]
  · have he : (dec (bs.drop i)).1 = 65533 := by simp at h; omega
    refine Good.val (Yv.sliceStr i bs.length rfl rfl rfl rfl rfl rfl ⟨_, rfl⟩ rfl (by omega) (by omega)) ?_
    rw [List.take_length]
    refine Good.on ?_
    refine Good.callK [] (decodeRune_spec (bs.drop i) (fun e => by have := congrArg List.length e; simp at this; omega) (by rw [List.length_drop]; omega)) stays_utf hF ck97 ?_
    rintro v L ⟨rfl, rfl⟩
    refine Good.on ?_
    refine Good.ret1 Tryd.results74 (Res.tmp rfl) ⟨?_, rfl⟩ (fun _ h => h)
    rw [strayB, he]
    simp
    congr 1
    by_cases h2 : (dec (bs.drop i)).2 = 1 <;> simp [h2]
    omega
end Go.Proofs.YtnfcbpgckomdfaaDoor
