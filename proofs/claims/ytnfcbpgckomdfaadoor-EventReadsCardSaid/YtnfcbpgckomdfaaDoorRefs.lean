/- Merged: RefF RefS RefQ RefU. -/
import Derived.Test.YtnfcbpgckomdfaaDoorNum
import Derived.Test.YtnfcbpgckomdfaaDoorQuote
import Derived.Test.YtnfcbpgckomdfaaDoorCfg
import Derived.Test.YtnfcbpgckomdfaaDoorCfgs
namespace Go.Proofs.YtnfcbpgckomdfaaDoor
open Go.Lib (strCells)
def moreN (bs : List UInt8) (i : Nat) : Int := if i < bs.length ∧ byteAt bs i / 64 = 2 then ((byteAt bs i % 64 : Nat) : Int) else -1
def contL (bs : List UInt8) : Nat → Nat → Nat → Option Nat
  | 0, _, acc => some acc
  | k + 1, i, acc => if i < bs.length ∧ byteAt bs i / 64 = 2 then contL bs k (i + 1) (acc * 64 + byteAt bs i % 64) else none
def firstG (bs : List UInt8) (many n0 low : Nat) : Nat × Nat := match contL bs (many - 1) 1 n0 with
  | none => (0, 0)
  | some n => if n < low ∨ 1114111 < n ∨ (55296 ≤ n ∧ n ≤ 57343) then (0, 0) else (n, many)
/-- A text's first sign and how many bytes it has; none: no bytes. -/
def firstR (bs : List UInt8) : Nat × Nat :=
  if byteAt bs 0 < 128 then (byteAt bs 0, 1)
  else if 192 ≤ byteAt bs 0 ∧ byteAt bs 0 < 224 then firstG bs 2 (byteAt bs 0 - 192) 128
  else if 224 ≤ byteAt bs 0 ∧ byteAt bs 0 < 240 then firstG bs 3 (byteAt bs 0 - 224) 2048
  else if 240 ≤ byteAt bs 0 ∧ byteAt bs 0 < 248 then firstG bs 4 (byteAt bs 0 - 240) 65536
  else (0, 0)
def pairV (x : Nat × Nat) : Value := .tuple #[.int .i64 (x.1 : Int), .int .i64 (x.2 : Int)]
set_option maxHeartbeats 3200000
set_option maxRecDepth 20000
theorem more_spec (bs : List UInt8) (i : Nat) (hi : i < 1000) : Spec Tryd.prog 134 #[.string (str bs), .int .i64 (i : Int)] noFacts [] fun r L => r = .int .i64 (moreN bs i) ∧ L = [] := by
  refine Spec.go (vs := [_, _]) (hT := tyOk) (hm := mixed0) Tryd.func134 rfl Tryd.ntmps134 rfl ?_
  intro W p _
  refine Good.on ?_
  rw [str_size]
  refine Good.partD (fun h => ?_) (fun h => ?_) <;> refine Good.on ?_
  · refine Good.ret1 Tryd.results134 (Res.tmp rfl) ⟨by rw [moreN, if_neg (by omega)], rfl⟩ (fun _ h => h.clear)
  obtain ⟨gi, ei⟩ := byteAt_get (bs := bs) (k := i) (by omega)
  have hb := byteAt_lt bs i
  refine Good.val (Yv.index rfl rfl rfl rfl rfl (by omega) (by rw [Int.toNat_natCast]; exact gi)) ?_
  rw [← ei]
  refine Good.on ?_
  refine Good.partD (fun h1 => ?_) (fun h1 => ?_) <;> refine Good.on ?_
  · refine Good.ret1 Tryd.results134 (Res.tmp rfl) ⟨by rw [moreN, if_neg (by omega)], rfl⟩ (fun _ h => h.clear)
  refine Good.val (Yv.index rfl rfl rfl rfl rfl (by omega) (by rw [Int.toNat_natCast]; exact gi)) ?_
  rw [← ei]
  refine Good.on ?_
  refine Good.ifD (fun h2 => ?_) (fun h2 => ?_) <;> refine Good.on ?_
  · refine Good.ret1 Tryd.results134 (Res.tmp rfl) ⟨by rw [moreN, if_neg (by omega)], rfl⟩ (fun _ h => h.clear)
  refine Good.val (Yv.index rfl rfl rfl rfl rfl (by omega) (by rw [Int.toNat_natCast]; exact gi)) ?_
  rw [← ei]
  refine Good.on ?_
  refine Good.ret1 Tryd.results134 (Res.tmp rfl) ⟨?_, rfl⟩ (fun _ h => h.clear)
  rw [moreN, if_pos ⟨by omega, by omega⟩, w64 (byteAt bs i : Int) (by omega), w64 _ (by omega)]
  congr 1; omega
theorem first_spec (bs : List UInt8) (h0 : bs ≠ []) : Spec Tryd.prog 111 #[.string (str bs)] noFacts [] fun r L => r = pairV (firstR bs) ∧ L = [] := by
  refine Spec.go (vs := [_]) (hT := tyOk) (hm := mixed0) Tryd.func111 rfl Tryd.ntmps111 rfl ?_
  intro W p _
  have hp : 0 < bs.length := List.length_pos_iff.2 h0
  obtain ⟨g0, e0⟩ := byteAt_get hp
  have hb0 := byteAt_lt bs 0
  refine Good.on ?_
  refine Good.val (Yv.index rfl rfl rfl rfl rfl (by decide) g0) ?_
  rw [← e0]
  refine Good.on ?_
  rw [w64 (byteAt bs 0 : Int) (by omega)]
  refine Good.ifD (fun h => ?_) (fun h => ?_) <;> refine Good.on ?_
  · refine Good.ret2 Tryd.results111 (Res.tmp rfl) (Res.tmp rfl) ⟨by rw [firstR, if_pos (by omega)]; rfl, rfl⟩ (fun _ h => h.clear)
  refine Good.partD (fun ha => ?_) (fun ha => ?_) <;> refine Good.on ?_
  · refine Good.ifD (fun hb' => ?_) (fun hb' => ?_) <;> refine Good.on ?_
    · have hb : firstR bs = firstG bs 2 (byteAt bs 0 - 192) 128 := by rw [firstR, if_neg (by omega), if_pos (by omega)]
      rw [w64 _ (by omega), show (byteAt bs 0 : Int) - 192 = ((byteAt bs 0 - 192 : Nat) : Int) from by omega]
      refine Good.loop (ι := Nat × Nat) (fun x => [(0, .v (.string (str bs))), (5, .v (.int .i64 2)), (6, .v (.int .i64 (x.2 : Int))), (7, .v (.int .i64 128)), (8, .v (.int .i64 (x.1 : Int)))]) (fun _ => [])
        (fun x => 1 ≤ x.1 ∧ x.1 ≤ 2 ∧ x.2 < 64 ^ (x.1 + 1) ∧ contL bs (2 - x.1) x.1 x.2 = contL bs (2 - 1) 1 (byteAt bs 0 - 192)) (fun x => 2 - x.1) (1, byteAt bs 0 - 192) ⟨Nat.le_refl _, by simp, by simp; omega, rfl⟩ ⟨rfl, rfl, rfl, rfl, rfl, trivial⟩ (fun _ h => h) ?_
      rintro ⟨i, n⟩ ⟨h1, h2, h3, h4⟩
      dsimp only at h1 h2 h3 h4 ⊢
      have hp : 64 ^ (i + 1) ≤ 64 ^ 5 := Nat.pow_le_pow_right (by decide) (by omega)
      have hp5 : 64 ^ 5 = 1073741824 := by decide
      refine Good.on ?_
      refine Good.ifD (fun h => ?_) (fun h => ?_) <;> refine Good.on ?_
      · obtain ⟨k, hk⟩ : ∃ k, 2 - i = k + 1 := ⟨2 - i - 1, by omega⟩
        rw [hk, contL] at h4
        refine Good.callP [] (more_spec bs i (by omega)) ck134 ?_
        rintro v L ⟨rfl, rfl⟩
        refine Good.on ?_
        by_cases hm : i < bs.length ∧ byteAt bs i / 64 = 2
        · rw [if_pos hm] at h4
          rw [moreN, if_pos hm]
          refine Good.ifD (fun hx => ?_) (fun hx => ?_)
          · omega
          refine Good.on ?_
          rw [w64 ((n : Int) * 64) (by omega), w64 ((n : Int) * 64 + ((byteAt bs i % 64 : Nat) : Int)) (by omega), show (n : Int) * 64 + ((byteAt bs i % 64 : Nat) : Int) = ((n * 64 + byteAt bs i % 64 : Nat) : Int) from by omega]
          refine Good.again (i + 1, n * 64 + byteAt bs i % 64) ⟨⟨by dsimp only; omega, by dsimp only; omega, by dsimp only; rw [Nat.pow_succ]; omega, by dsimp only; rw [show 2 - (i + 1) = k from by omega]; exact h4⟩, by dsimp only; omega⟩ ⟨rfl, rfl, rfl, rfl, ?_, trivial⟩ (fun _ h => h)
          show some (Value.int .i64 _) = _
          rw [w64 _ (by omega)]; rfl
        · rw [if_neg hm] at h4
          rw [moreN, if_neg hm]
          (refine Good.ifB (fun h => ?_) (fun h => ?_); rotate_left; exact absurd h (by decide))
          refine Good.on ?_
          refine Good.ret2 Tryd.results111 (Res.tmp rfl) (Res.tmp rfl) ⟨?_, rfl⟩ (fun _ h => h.clear)
          rw [hb, firstG, ← h4]; rfl
      · have hi : i = 2 := by omega
        subst hi
        rw [Nat.sub_self, contL] at h4
        refine Good.partD (fun hx => ?_) (fun hx => ?_) <;> refine Good.on ?_
        · refine Good.ret2 Tryd.results111 (Res.tmp rfl) (Res.tmp rfl) ⟨?_, rfl⟩ (fun _ h => h.clear)
          rw [hb, firstG, ← h4]; simp only; rw [if_pos (.inl (by omega))]; rfl
        refine Good.partD (fun hy => ?_) (fun hy => ?_) <;> refine Good.on ?_
        · refine Good.ret2 Tryd.results111 (Res.tmp rfl) (Res.tmp rfl) ⟨?_, rfl⟩ (fun _ h => h.clear)
          rw [hb, firstG, ← h4]; simp only; rw [if_pos (.inr (.inl (by omega)))]; rfl
        refine Good.partD (fun hz => ?_) (fun hz => ?_) <;> refine Good.on ?_
        rotate_left
        · refine Good.ret2 Tryd.results111 (Res.tmp rfl) (Res.tmp rfl) ⟨?_, rfl⟩ (fun _ h => h.clear)
          rw [hb, firstG, ← h4]; simp only; rw [if_neg (by omega)]; rfl
        refine Good.ifD (fun hw => ?_) (fun hw => ?_) <;> refine Good.on ?_
        · refine Good.ret2 Tryd.results111 (Res.tmp rfl) (Res.tmp rfl) ⟨?_, rfl⟩ (fun _ h => h.clear)
          rw [hb, firstG, ← h4]; simp only; rw [if_pos (.inr (.inr (by omega)))]; rfl
        · refine Good.ret2 Tryd.results111 (Res.tmp rfl) (Res.tmp rfl) ⟨?_, rfl⟩ (fun _ h => h.clear)
          rw [hb, firstG, ← h4]; simp only; rw [if_neg (by omega)]; rfl
    refine Good.partD (fun hc => ?_) (fun hc => ?_)
    rotate_left
    · omega
    refine Good.on ?_
    refine Good.ifD (fun hd' => ?_) (fun hd' => ?_) <;> refine Good.on ?_
    · have hb : firstR bs = firstG bs 3 (byteAt bs 0 - 224) 2048 := by rw [firstR, if_neg (by omega), if_neg (by omega), if_pos (by omega)]
      rw [w64 _ (by omega), show (byteAt bs 0 : Int) - 224 = ((byteAt bs 0 - 224 : Nat) : Int) from by omega]
      refine Good.loop (ι := Nat × Nat) (fun x => [(0, .v (.string (str bs))), (5, .v (.int .i64 3)), (6, .v (.int .i64 (x.2 : Int))), (7, .v (.int .i64 2048)), (8, .v (.int .i64 (x.1 : Int)))]) (fun _ => [])
        (fun x => 1 ≤ x.1 ∧ x.1 ≤ 3 ∧ x.2 < 64 ^ (x.1 + 1) ∧ contL bs (3 - x.1) x.1 x.2 = contL bs (3 - 1) 1 (byteAt bs 0 - 224)) (fun x => 3 - x.1) (1, byteAt bs 0 - 224) ⟨Nat.le_refl _, by simp, by simp; omega, rfl⟩ ⟨rfl, rfl, rfl, rfl, rfl, trivial⟩ (fun _ h => h) ?_
      rintro ⟨i, n⟩ ⟨h1, h2, h3, h4⟩
      dsimp only at h1 h2 h3 h4 ⊢
      have hp : 64 ^ (i + 1) ≤ 64 ^ 5 := Nat.pow_le_pow_right (by decide) (by omega)
      have hp5 : 64 ^ 5 = 1073741824 := by decide
      refine Good.on ?_
      refine Good.ifD (fun h => ?_) (fun h => ?_) <;> refine Good.on ?_
      · obtain ⟨k, hk⟩ : ∃ k, 3 - i = k + 1 := ⟨3 - i - 1, by omega⟩
        rw [hk, contL] at h4
        refine Good.callP [] (more_spec bs i (by omega)) ck134 ?_
        rintro v L ⟨rfl, rfl⟩
        refine Good.on ?_
        by_cases hm : i < bs.length ∧ byteAt bs i / 64 = 2
        · rw [if_pos hm] at h4
          rw [moreN, if_pos hm]
          refine Good.ifD (fun hx => ?_) (fun hx => ?_)
          · omega
          refine Good.on ?_
          rw [w64 ((n : Int) * 64) (by omega), w64 ((n : Int) * 64 + ((byteAt bs i % 64 : Nat) : Int)) (by omega), show (n : Int) * 64 + ((byteAt bs i % 64 : Nat) : Int) = ((n * 64 + byteAt bs i % 64 : Nat) : Int) from by omega]
          refine Good.again (i + 1, n * 64 + byteAt bs i % 64) ⟨⟨by dsimp only; omega, by dsimp only; omega, by dsimp only; rw [Nat.pow_succ]; omega, by dsimp only; rw [show 3 - (i + 1) = k from by omega]; exact h4⟩, by dsimp only; omega⟩ ⟨rfl, rfl, rfl, rfl, ?_, trivial⟩ (fun _ h => h)
          show some (Value.int .i64 _) = _
          rw [w64 _ (by omega)]; rfl
        · rw [if_neg hm] at h4
          rw [moreN, if_neg hm]
          (refine Good.ifB (fun h => ?_) (fun h => ?_); rotate_left; exact absurd h (by decide))
          refine Good.on ?_
          refine Good.ret2 Tryd.results111 (Res.tmp rfl) (Res.tmp rfl) ⟨?_, rfl⟩ (fun _ h => h.clear)
          rw [hb, firstG, ← h4]; rfl
      · have hi : i = 3 := by omega
        subst hi
        rw [Nat.sub_self, contL] at h4
        refine Good.partD (fun hx => ?_) (fun hx => ?_) <;> refine Good.on ?_
        · refine Good.ret2 Tryd.results111 (Res.tmp rfl) (Res.tmp rfl) ⟨?_, rfl⟩ (fun _ h => h.clear)
          rw [hb, firstG, ← h4]; simp only; rw [if_pos (.inl (by omega))]; rfl
        refine Good.partD (fun hy => ?_) (fun hy => ?_) <;> refine Good.on ?_
        · refine Good.ret2 Tryd.results111 (Res.tmp rfl) (Res.tmp rfl) ⟨?_, rfl⟩ (fun _ h => h.clear)
          rw [hb, firstG, ← h4]; simp only; rw [if_pos (.inr (.inl (by omega)))]; rfl
        refine Good.partD (fun hz => ?_) (fun hz => ?_) <;> refine Good.on ?_
        rotate_left
        · refine Good.ret2 Tryd.results111 (Res.tmp rfl) (Res.tmp rfl) ⟨?_, rfl⟩ (fun _ h => h.clear)
          rw [hb, firstG, ← h4]; simp only; rw [if_neg (by omega)]; rfl
        refine Good.ifD (fun hw => ?_) (fun hw => ?_) <;> refine Good.on ?_
        · refine Good.ret2 Tryd.results111 (Res.tmp rfl) (Res.tmp rfl) ⟨?_, rfl⟩ (fun _ h => h.clear)
          rw [hb, firstG, ← h4]; simp only; rw [if_pos (.inr (.inr (by omega)))]; rfl
        · refine Good.ret2 Tryd.results111 (Res.tmp rfl) (Res.tmp rfl) ⟨?_, rfl⟩ (fun _ h => h.clear)
          rw [hb, firstG, ← h4]; simp only; rw [if_neg (by omega)]; rfl
    refine Good.partD (fun he => ?_) (fun he => ?_)
    rotate_left
    · omega
    refine Good.on ?_
    refine Good.ifD (fun hf' => ?_) (fun hf' => ?_) <;> refine Good.on ?_
    · have hb : firstR bs = firstG bs 4 (byteAt bs 0 - 240) 65536 := by rw [firstR, if_neg (by omega), if_neg (by omega), if_neg (by omega), if_pos (by omega)]
      rw [w64 _ (by omega), show (byteAt bs 0 : Int) - 240 = ((byteAt bs 0 - 240 : Nat) : Int) from by omega]
      refine Good.loop (ι := Nat × Nat) (fun x => [(0, .v (.string (str bs))), (5, .v (.int .i64 4)), (6, .v (.int .i64 (x.2 : Int))), (7, .v (.int .i64 65536)), (8, .v (.int .i64 (x.1 : Int)))]) (fun _ => [])
        (fun x => 1 ≤ x.1 ∧ x.1 ≤ 4 ∧ x.2 < 64 ^ (x.1 + 1) ∧ contL bs (4 - x.1) x.1 x.2 = contL bs (4 - 1) 1 (byteAt bs 0 - 240)) (fun x => 4 - x.1) (1, byteAt bs 0 - 240) ⟨Nat.le_refl _, by simp, by simp; omega, rfl⟩ ⟨rfl, rfl, rfl, rfl, rfl, trivial⟩ (fun _ h => h) ?_
      rintro ⟨i, n⟩ ⟨h1, h2, h3, h4⟩
      dsimp only at h1 h2 h3 h4 ⊢
      have hp : 64 ^ (i + 1) ≤ 64 ^ 5 := Nat.pow_le_pow_right (by decide) (by omega)
      have hp5 : 64 ^ 5 = 1073741824 := by decide
      refine Good.on ?_
      refine Good.ifD (fun h => ?_) (fun h => ?_) <;> refine Good.on ?_
      · obtain ⟨k, hk⟩ : ∃ k, 4 - i = k + 1 := ⟨4 - i - 1, by omega⟩
        rw [hk, contL] at h4
        refine Good.callP [] (more_spec bs i (by omega)) ck134 ?_
        rintro v L ⟨rfl, rfl⟩
        refine Good.on ?_
        by_cases hm : i < bs.length ∧ byteAt bs i / 64 = 2
        · rw [if_pos hm] at h4
          rw [moreN, if_pos hm]
          refine Good.ifD (fun hx => ?_) (fun hx => ?_)
          · omega
          refine Good.on ?_
          rw [w64 ((n : Int) * 64) (by omega), w64 ((n : Int) * 64 + ((byteAt bs i % 64 : Nat) : Int)) (by omega), show (n : Int) * 64 + ((byteAt bs i % 64 : Nat) : Int) = ((n * 64 + byteAt bs i % 64 : Nat) : Int) from by omega]
          refine Good.again (i + 1, n * 64 + byteAt bs i % 64) ⟨⟨by dsimp only; omega, by dsimp only; omega, by dsimp only; rw [Nat.pow_succ]; omega, by dsimp only; rw [show 4 - (i + 1) = k from by omega]; exact h4⟩, by dsimp only; omega⟩ ⟨rfl, rfl, rfl, rfl, ?_, trivial⟩ (fun _ h => h)
          show some (Value.int .i64 _) = _
          rw [w64 _ (by omega)]; rfl
        · rw [if_neg hm] at h4
          rw [moreN, if_neg hm]
          (refine Good.ifB (fun h => ?_) (fun h => ?_); rotate_left; exact absurd h (by decide))
          refine Good.on ?_
          refine Good.ret2 Tryd.results111 (Res.tmp rfl) (Res.tmp rfl) ⟨?_, rfl⟩ (fun _ h => h.clear)
          rw [hb, firstG, ← h4]; rfl
      · have hi : i = 4 := by omega
        subst hi
        rw [Nat.sub_self, contL] at h4
        refine Good.partD (fun hx => ?_) (fun hx => ?_) <;> refine Good.on ?_
        · refine Good.ret2 Tryd.results111 (Res.tmp rfl) (Res.tmp rfl) ⟨?_, rfl⟩ (fun _ h => h.clear)
          rw [hb, firstG, ← h4]; simp only; rw [if_pos (.inl (by omega))]; rfl
        refine Good.partD (fun hy => ?_) (fun hy => ?_) <;> refine Good.on ?_
        · refine Good.ret2 Tryd.results111 (Res.tmp rfl) (Res.tmp rfl) ⟨?_, rfl⟩ (fun _ h => h.clear)
          rw [hb, firstG, ← h4]; simp only; rw [if_pos (.inr (.inl (by omega)))]; rfl
        refine Good.partD (fun hz => ?_) (fun hz => ?_) <;> refine Good.on ?_
        rotate_left
        · refine Good.ret2 Tryd.results111 (Res.tmp rfl) (Res.tmp rfl) ⟨?_, rfl⟩ (fun _ h => h.clear)
          rw [hb, firstG, ← h4]; simp only; rw [if_neg (by omega)]; rfl
        refine Good.ifD (fun hw => ?_) (fun hw => ?_) <;> refine Good.on ?_
        · refine Good.ret2 Tryd.results111 (Res.tmp rfl) (Res.tmp rfl) ⟨?_, rfl⟩ (fun _ h => h.clear)
          rw [hb, firstG, ← h4]; simp only; rw [if_pos (.inr (.inr (by omega)))]; rfl
        · refine Good.ret2 Tryd.results111 (Res.tmp rfl) (Res.tmp rfl) ⟨?_, rfl⟩ (fun _ h => h.clear)
          rw [hb, firstG, ← h4]; simp only; rw [if_neg (by omega)]; rfl
    refine Good.ret2 Tryd.results111 (Res.tmp rfl) (Res.tmp rfl) ⟨by rw [firstR, if_neg (by omega), if_neg (by omega), if_neg (by omega), if_neg (by omega)]; rfl, rfl⟩ (fun _ h => h.clear)
  refine Good.partD (fun hc => ?_) (fun hc => ?_)
  · omega
  refine Good.on ?_
  refine Good.partD (fun he => ?_) (fun he => ?_)
  · omega
  refine Good.on ?_
  refine Good.ret2 Tryd.results111 (Res.tmp rfl) (Res.tmp rfl) ⟨by rw [firstR, if_neg (by omega), if_neg (by omega), if_neg (by omega), if_neg (by omega)]; rfl, rfl⟩ (fun _ h => h.clear)
end Go.Proofs.YtnfcbpgckomdfaaDoor
namespace Go.Proofs.YtnfcbpgckomdfaaDoor
open Go.Lib (strCells)
theorem contL_one (bs : List UInt8) (n0 : Nat) : contL bs 1 1 n0 = if 1 < bs.length ∧ byteAt bs 1 / 64 = 2 then some (n0 * 64 + byteAt bs 1 % 64) else none := by
  simp only [contL]
theorem contL_two (bs : List UInt8) (n0 : Nat) : contL bs 2 1 n0 = if (1 < bs.length ∧ byteAt bs 1 / 64 = 2) ∧ 2 < bs.length ∧ byteAt bs 2 / 64 = 2 then some ((n0 * 64 + byteAt bs 1 % 64) * 64 + byteAt bs 2 % 64) else none := by
  simp only [contL]
  by_cases h1 : 1 < bs.length ∧ byteAt bs 1 / 64 = 2
  · rw [if_pos h1]
    by_cases h2 : 2 < bs.length ∧ byteAt bs 2 / 64 = 2
    · rw [if_pos h2, if_pos ⟨h1, h2⟩]
    · rw [if_neg h2, if_neg (fun h => h2 h.2)]
  · rw [if_neg h1, if_neg (fun h => h1 h.1)]
theorem contL_three (bs : List UInt8) (n0 : Nat) : contL bs 3 1 n0 = if ((1 < bs.length ∧ byteAt bs 1 / 64 = 2) ∧ 2 < bs.length ∧ byteAt bs 2 / 64 = 2) ∧ 3 < bs.length ∧ byteAt bs 3 / 64 = 2 then some (((n0 * 64 + byteAt bs 1 % 64) * 64 + byteAt bs 2 % 64) * 64 + byteAt bs 3 % 64) else none := by
  simp only [contL]
  by_cases h1 : 1 < bs.length ∧ byteAt bs 1 / 64 = 2
  · rw [if_pos h1]
    by_cases h2 : 2 < bs.length ∧ byteAt bs 2 / 64 = 2
    · rw [if_pos h2]
      by_cases h3 : 3 < bs.length ∧ byteAt bs 3 / 64 = 2
      · rw [if_pos h3, if_pos ⟨⟨h1, h2⟩, h3⟩]
      · rw [if_neg h3, if_neg (fun h => h3 h.2)]
    · rw [if_neg h2, if_neg (fun h => h2 h.1.2)]
  · rw [if_neg h1, if_neg (fun h => h1 h.1.1)]
/-- The document's first sign is the program's, but where bytes are no sign. -/
theorem first_law (bs : List UInt8) : (strayB bs = true ∧ firstR bs = (0, 0) ∧ (dec bs).2 = 1) ∨ (strayB bs = false ∧ firstR bs = dec bs ∧ 0 < (dec bs).2) := by
  have hb0 := byteAt_lt bs 0
  by_cases h : byteAt bs 0 < 128
  · right
    have hd := dec_ascii bs h
    refine ⟨?_, by rw [firstR, if_pos h, hd], by rw [hd]; exact Nat.one_pos⟩
    unfold strayB; rw [hd]; simp; omega
  have bad : dec bs = (65533, 1) → firstR bs = (0, 0) → (strayB bs = true ∧ firstR bs = (0, 0) ∧ (dec bs).2 = 1) ∨ (strayB bs = false ∧ firstR bs = dec bs ∧ 0 < (dec bs).2) := fun h1 h2 => by
    left; refine ⟨?_, h2, by rw [h1]⟩; unfold strayB; rw [h1]; rfl
  have good : ∀ n m, dec bs = (n, m + 2) → firstR bs = (n, m + 2) → (strayB bs = true ∧ firstR bs = (0, 0) ∧ (dec bs).2 = 1) ∨ (strayB bs = false ∧ firstR bs = dec bs ∧ 0 < (dec bs).2) := fun n m h1 h2 => by
    right; refine ⟨?_, by rw [h1, h2], by rw [h1]; exact Nat.succ_pos _⟩; unfold strayB; rw [h1]; simp
  have hd := dec_form bs (by omega)
  by_cases h2 : 192 ≤ byteAt bs 0 ∧ byteAt bs 0 < 224
  · have hf : firstR bs = firstG bs 2 (byteAt bs 0 - 192) 128 := by rw [firstR, if_neg h, if_pos h2]
    rw [firstG, contL_one] at hf
    by_cases hc : 1 < bs.length ∧ byteAt bs 1 / 64 = 2
    · rw [if_pos ⟨h2, hc⟩] at hd
      rw [if_pos hc] at hf
      simp only at hf
      rw [show (byteAt bs 0 - 192) * 64 + byteAt bs 1 % 64 = byteAt bs 0 % 32 * 64 + byteAt bs 1 % 64 from by omega] at hf
      by_cases hn : 128 ≤ byteAt bs 0 % 32 * 64 + byteAt bs 1 % 64
      · rw [if_pos hn] at hd
        rw [if_neg (by omega)] at hf
        exact good _ 0 hd hf
      · rw [if_neg hn] at hd
        rw [if_pos (.inl (by omega))] at hf
        exact bad hd hf
    · rw [if_neg (fun h => hc h.2), if_neg (fun h => by have := h.1.1; omega), if_neg (fun h => by have := h.1.1.1; omega)] at hd
      rw [if_neg hc] at hf
      exact bad hd hf
  by_cases h3 : 224 ≤ byteAt bs 0 ∧ byteAt bs 0 < 240
  · have hf : firstR bs = firstG bs 3 (byteAt bs 0 - 224) 2048 := by rw [firstR, if_neg h, if_neg h2, if_pos h3]
    rw [firstG, contL_two] at hf
    rw [if_neg (fun h => h2 h.1)] at hd
    by_cases hc : (1 < bs.length ∧ byteAt bs 1 / 64 = 2) ∧ 2 < bs.length ∧ byteAt bs 2 / 64 = 2
    · rw [if_pos ⟨⟨h3, hc.1⟩, hc.2⟩] at hd
      rw [if_pos hc] at hf
      simp only at hf
      rw [show ((byteAt bs 0 - 224) * 64 + byteAt bs 1 % 64) * 64 + byteAt bs 2 % 64 = byteAt bs 0 % 16 * 4096 + byteAt bs 1 % 64 * 64 + byteAt bs 2 % 64 from by omega] at hf
      generalize byteAt bs 0 % 16 * 4096 + byteAt bs 1 % 64 * 64 + byteAt bs 2 % 64 = n at hd hf
      by_cases hn : 2048 ≤ n ∧ (n < 55296 ∨ 57344 ≤ n ∧ n ≤ 1114111)
      · rw [if_pos hn] at hd
        rw [if_neg (by omega)] at hf
        exact good _ 1 hd hf
      · rw [if_neg hn] at hd
        rw [if_pos (by omega)] at hf
        exact bad hd hf
    · rw [if_neg (fun h => hc ⟨h.1.2, h.2⟩), if_neg (fun h => by have := h.1.1.1; omega)] at hd
      rw [if_neg hc] at hf
      exact bad hd hf
  by_cases h4 : 240 ≤ byteAt bs 0 ∧ byteAt bs 0 < 248
  · have hf : firstR bs = firstG bs 4 (byteAt bs 0 - 240) 65536 := by rw [firstR, if_neg h, if_neg h2, if_neg h3, if_pos h4]
    rw [firstG, contL_three] at hf
    rw [if_neg (fun h => h2 h.1), if_neg (fun h => h3 h.1.1)] at hd
    by_cases hc : ((1 < bs.length ∧ byteAt bs 1 / 64 = 2) ∧ 2 < bs.length ∧ byteAt bs 2 / 64 = 2) ∧ 3 < bs.length ∧ byteAt bs 3 / 64 = 2
    · rw [if_pos ⟨⟨⟨h4, hc.1.1⟩, hc.1.2⟩, hc.2⟩] at hd
      rw [if_pos hc] at hf
      simp only at hf
      rw [show (((byteAt bs 0 - 240) * 64 + byteAt bs 1 % 64) * 64 + byteAt bs 2 % 64) * 64 + byteAt bs 3 % 64 = byteAt bs 0 % 8 * 262144 + byteAt bs 1 % 64 * 4096 + byteAt bs 2 % 64 * 64 + byteAt bs 3 % 64 from by omega] at hf
      generalize byteAt bs 0 % 8 * 262144 + byteAt bs 1 % 64 * 4096 + byteAt bs 2 % 64 * 64 + byteAt bs 3 % 64 = n at hd hf
      by_cases hn : 65536 ≤ n ∧ (n < 55296 ∨ 57344 ≤ n ∧ n ≤ 1114111)
      · rw [if_pos hn] at hd
        rw [if_neg (by omega)] at hf
        exact good _ 2 hd hf
      · rw [if_neg hn] at hd
        rw [if_pos (by omega)] at hf
        exact bad hd hf
    · rw [if_neg (fun h => hc ⟨⟨h.1.1.2, h.1.2⟩, h.2⟩)] at hd
      rw [if_neg hc] at hf
      exact bad hd hf
  · have hf : firstR bs = (0, 0) := by rw [firstR, if_neg h, if_neg h2, if_neg h3, if_neg h4]
    rw [if_neg (fun h => h2 h.1), if_neg (fun h => h3 h.1.1), if_neg (fun h => h4 h.1.1.1)] at hd
    exact bad hd hf
/-- A text's signs; a byte that is none counts below zero. -/
def signsN : Nat → List UInt8 → List Int
  | 0, _ => []
  | k + 1, t => if t = [] then [] else if (firstR t).2 = 0 then (-(byteAt t 0 : Int) - 1) :: signsN k (t.drop 1) else ((firstR t).1 : Int) :: signsN k (t.drop (firstR t).2)
def oneR (n : Int) : List UInt8 :=
  if n < 0 then [92, 120] ++ hexL (-n - 1).toNat
  else if n = 34 ∨ n = 92 then [92, UInt8.ofNat n.toNat]
  else if n < 32 ∨ 126 < n then [92, 117, 123] ++ hexL n.toNat ++ [125]
  else [UInt8.ofNat n.toNat]
theorem signs_law : ∀ (k : Nat) (t : List UInt8), (signsN k t).flatMap oneR = quoteN k t
  | 0, _ => rfl
  | k + 1, t => by
    unfold signsN quoteN
    by_cases h : t = []
    · rw [if_pos h, if_pos h]; rfl
    rw [if_neg h, if_neg h]
    rcases first_law t with ⟨h1, h2, h3⟩ | ⟨h1, h2, h3⟩
    · rw [if_pos (by rw [h2]), List.flatMap_cons, signs_law k, h3]
      congr 1
      rw [oneQ, if_pos h1, oneR, if_pos (by omega), show (-(-(byteAt t 0 : Int) - 1) - 1).toNat = byteAt t 0 from by omega]
    · rw [h2, if_neg (by omega), List.flatMap_cons, signs_law k]
      congr 1
      rw [oneQ, if_neg (by rw [h1]; decide), oneR, if_neg (by omega), Int.toNat_natCast]
      by_cases a : (dec t).1 = 34 ∨ (dec t).1 = 92
      · rw [if_pos a, if_pos (by omega)]
      · rw [if_neg a, if_neg (by omega)]
        by_cases b : (dec t).1 < 32 ∨ 126 < (dec t).1
        · rw [if_pos b, if_pos (by omega)]
        · rw [if_neg b, if_neg (by omega)]
end Go.Proofs.YtnfcbpgckomdfaaDoor
namespace Go.Proofs.YtnfcbpgckomdfaaDoor
open Go.Lib (strCells)
theorem hexD_lo {d : Nat} (h : d < 10) : hexD d = UInt8.ofNat (48 + d) := if_pos h
theorem hexD_hi {d : Nat} (h : ¬ d < 10) : hexD d = UInt8.ofNat (87 + d) := if_neg h
theorem tmod16 (m : Nat) : ((m : Int)).tmod 16 = ((m % 16 : Nat) : Int) := rfl
theorem tdiv16 (m : Nat) : ((m : Int)).tdiv 16 = ((m / 16 : Nat) : Int) := rfl
theorem hexL_len16 {n : Nat} (h : n < 18446744073709551616) : (hexL n).length ≤ 16 := (hexL_len 15 n (by omega)).1
theorem one_str (k : Nat) : (List.map (fun n : Int => UInt8.ofNat n.toNat) [(k : Int)]) = [UInt8.ofNat k] := by simp
set_option maxHeartbeats 3200000
set_option maxRecDepth 20000
theorem refHex_spec (n : Nat) (hn : n < 9223372036854775808) : Spec Tryd.prog 90 #[.int .i64 (n : Int)] noFacts [] fun r L => r = .string (str (hexL n)) ∧ L = [] := by
  induction n using Nat.strongRecOn with
  | ind n ih =>
  refine Spec.go (vs := [_]) (hT := tyOk) (hm := mixed0) Tryd.func90 rfl Tryd.ntmps90 rfl ?_
  intro W p _
  refine Good.on ?_
  rw [tmod16]
  have hd16 : n % 16 < 16 := Nat.mod_lt _ (by omega)
  have hdig : hexL n = if n < 16 then [hexD (n % 16)] else hexL (n / 16) ++ [hexD (n % 16)] := by
    by_cases h : n < 16
    · rw [if_pos h, hexL_lt h, Nat.mod_eq_of_lt h]
    · rw [if_neg h, hexL_ge h]
  generalize n % 16 = d at hdig hd16 ⊢
  rw [w64 (48 + (d : Int)) (by omega), show (48 : Int) + (d : Int) = ((48 + d : Nat) : Int) from by omega, u8w (48 + d) (by omega)]
  refine Good.ifD (fun h9 => ?_) (fun h9 => ?_) <;> refine Good.on ?_
  · rw [w64 (97 + (d : Int)) (by omega), w64 (97 + (d : Int) - 10) (by omega), show (97 : Int) + (d : Int) - 10 = ((87 + d : Nat) : Int) from by omega, u8w (87 + d) (by omega)]
    rw [hexD_hi (by omega)] at hdig
    refine Good.op rfl (OpW.lit rfl rfl rfl fun g => ?_)
    refine Good.mem (l' := [slc 5 1 (.slice (some ⟨g, 0, none⟩) 1 1) (([((87 + d : Nat) : Int)]).map (Value.int .u8))]) (fun w h => Sat.rowSlc rfl (by unfold maxLen; omega) h) ?_
    refine Good.on ?_
    refine Good.bytesStr 0 (ns := [((87 + d : Nat) : Int)]) ?_
    rw [one_str]
    refine Good.on ?_
    refine Good.ifD (fun h => ?_) (fun h => ?_) <;> refine Good.on ?_
    · refine Good.ret1 Tryd.results90 (Res.tmp rfl) ⟨by rw [hdig, if_pos (by omega)], rfl⟩ (fun _ h => h.clear)
    · rw [tdiv16, w64 _ (by omega)]
      refine Good.call0 (ih (n / 16) (by omega) (by omega)) ck90 ?_
      rintro r L ⟨rfl, rfl⟩
      refine Good.on ?_
      have hl := hexL_len16 (n := n / 16) (by omega)
      refine Good.val (Yv.concat (b := [UInt8.ofNat (87 + d)]) rfl rfl rfl (by simp only [List.length_singleton]; omega)) ?_
      refine Good.on ?_
      refine Good.ret1 Tryd.results90 (Res.tmp rfl) ⟨by rw [hdig, if_neg (by omega)], rfl⟩ (fun _ h => h.clear)
  · rw [hexD_lo (by omega)] at hdig
    refine Good.op rfl (OpW.lit rfl rfl rfl fun g => ?_)
    refine Good.mem (l' := [slc 5 1 (.slice (some ⟨g, 0, none⟩) 1 1) (([((48 + d : Nat) : Int)]).map (Value.int .u8))]) (fun w h => Sat.rowSlc rfl (by unfold maxLen; omega) h) ?_
    refine Good.on ?_
    refine Good.bytesStr 0 (ns := [((48 + d : Nat) : Int)]) ?_
    rw [one_str]
    refine Good.on ?_
    refine Good.ifD (fun h => ?_) (fun h => ?_) <;> refine Good.on ?_
    · refine Good.ret1 Tryd.results90 (Res.tmp rfl) ⟨by rw [hdig, if_pos (by omega)], rfl⟩ (fun _ h => h.clear)
    · rw [tdiv16, w64 _ (by omega)]
      refine Good.call0 (ih (n / 16) (by omega) (by omega)) ck90 ?_
      rintro r L ⟨rfl, rfl⟩
      refine Good.on ?_
      have hl := hexL_len16 (n := n / 16) (by omega)
      refine Good.val (Yv.concat (b := [UInt8.ofNat (48 + d)]) rfl rfl rfl (by simp only [List.length_singleton]; omega)) ?_
      refine Good.on ?_
      refine Good.ret1 Tryd.results90 (Res.tmp rfl) ⟨by rw [hdig, if_neg (by omega)], rfl⟩ (fun _ h => h.clear)
theorem signsN_fuel : ∀ (k m : Nat) (t : List UInt8), t.length ≤ k → t.length ≤ m → signsN k t = signsN m t
  | 0, m, t, h, _ => by
    have : t = [] := List.length_eq_zero_iff.1 (by omega)
    subst this; cases m <;> simp [signsN]
  | k + 1, 0, t, _, h => by
    have : t = [] := List.length_eq_zero_iff.1 (by omega)
    subst this; simp [signsN]
  | k + 1, m + 1, t, h1, h2 => by
    simp only [signsN]
    split
    · rfl
    rename_i h0
    have hp : 0 < t.length := List.length_pos_iff.2 h0
    split
    · rw [signsN_fuel k m _ (by rw [List.length_drop]; omega) (by rw [List.length_drop]; omega)]
    · rw [signsN_fuel k m _ (by rw [List.length_drop]; omega) (by rw [List.length_drop]; omega)]
def signsL (t : List UInt8) : List Int := signsN t.length t
theorem signsL_cons {t : List UInt8} (h : t ≠ []) : signsL t = if (firstR t).2 = 0 then (-(byteAt t 0 : Int) - 1) :: signsL (t.drop 1) else ((firstR t).1 : Int) :: signsL (t.drop (firstR t).2) := by
  have hp : 0 < t.length := List.length_pos_iff.2 h
  obtain ⟨k, hk⟩ : ∃ k, t.length = k + 1 := ⟨t.length - 1, by omega⟩
  have e : signsL t = signsN (k + 1) t := by rw [signsL, hk]
  rw [e, signsN, if_neg h]
  split
  · rw [signsL, signsN_fuel k _ _ (by rw [List.length_drop]; omega) (Nat.le_refl _)]
  · rw [signsL, signsN_fuel k _ _ (by rw [List.length_drop]; omega) (Nat.le_refl _)]
theorem signsN_ok : ∀ (k : Nat) (t : List UInt8), (∀ n ∈ signsN k t, -256 ≤ n ∧ n ≤ 1114111) ∧ (signsN k t).length ≤ k
  | 0, _ => by simp [signsN]
  | k + 1, t => by
    unfold signsN
    by_cases h : t = []
    · rw [if_pos h]; simp
    rw [if_neg h]
    have hb := byteAt_lt t 0
    split
    · have ih := signsN_ok k (t.drop 1)
      refine ⟨fun n hn => ?_, by simp only [List.length_cons]; omega⟩
      rw [List.mem_cons] at hn
      rcases hn with rfl | hn
      · omega
      · exact ih.1 n hn
    · rename_i hm
      have ih := signsN_ok k (t.drop (firstR t).2)
      refine ⟨fun n hn => ?_, by simp only [List.length_cons]; omega⟩
      rw [List.mem_cons] at hn
      rcases hn with rfl | hn
      · have hd := dec_bounds t h
        rcases first_law t with ⟨_, h2, _⟩ | ⟨_, h2, _⟩
        · rw [h2] at hm; exact absurd rfl hm
        · rw [h2]; omega
      · exact ih.1 n hn
theorem firstR_bounds {t : List UInt8} (h : t ≠ []) : (firstR t).2 ≤ t.length ∧ (firstR t).1 ≤ 1114111 := by
  have hd := dec_bounds t h
  rcases first_law t with ⟨_, h2, _⟩ | ⟨_, h2, _⟩
  · rw [h2]; exact ⟨Nat.zero_le _, Nat.zero_le _⟩
  · rw [h2]; omega
theorem refSigns_spec (bs : List UInt8) (hl : bs.length ≤ 1000000000) : Spec Tryd.prog 89 #[.string (str bs)] noFacts [] fun r L => L = [slc 3 1 r (intsC (signsL bs))] := by
  refine Spec.go (vs := [_]) (hT := tyOk) (hm := mixed0) Tryd.func89 rfl Tryd.ntmps89 rfl ?_
  intro W p _
  refine Good.on ?_
  refine Good.op rfl (OpW.lit rfl rfl rfl fun g => ?_)
  refine Good.mem (l' := [slc 3 1 (.slice (some ⟨g, 0, none⟩) 0 0) (intsC [])]) (fun w h => Sat.rowSlc rfl (by unfold maxLen; omega) h) ?_
  refine Good.on ?_
  refine Good.loop (ι := Nat × List Int × Value) (fun x => [(0, .v (.string (str bs))), (3, .v x.2.2), (4, .v (.int .i64 (x.1 : Int)))]) (fun x => [slc 3 1 x.2.2 (intsC x.2.1)])
    (fun x => x.1 ≤ bs.length ∧ x.2.1.length ≤ x.1 ∧ signsL bs = x.2.1 ++ signsL (bs.drop x.1)) (fun x => bs.length - x.1) (0, [], .slice (some ⟨g, 0, none⟩) 0 0) ⟨by simp, by simp, rfl⟩ ⟨rfl, rfl, rfl, trivial⟩ (fun _ h => h) ?_
  rintro ⟨i, out, v⟩ ⟨hi, hol, he⟩
  dsimp only at hi hol he ⊢
  refine Good.on ?_
  rw [str_size]
  refine Good.ifD (fun h => ?_) (fun h => ?_) <;> refine Good.on ?_
  rotate_left
  · have hd : bs.drop i = [] := List.drop_eq_nil_of_le (by omega)
    rw [hd, show signsL [] = [] from rfl, List.append_nil] at he
    refine Good.ret1 Tryd.results89 (Res.tmp rfl) (by rw [he]) (fun _ h => h)
  have hi' : i < bs.length := by omega
  have hne : bs.drop i ≠ [] := by intro e; have := congrArg List.length e; rw [List.length_drop] at this; simp at this; omega
  rw [signsL_cons hne] at he
  have hfb := firstR_bounds hne
  have hb0 := byteAt_lt (bs.drop i) 0
  have hbi : bs[i]? = some (bs[i]) := List.getElem?_eq_getElem hi'
  have hbe : byteAt (bs.drop i) 0 = (bs[i]).toNat := by unfold byteAt; rw [List.getElem?_drop, Nat.add_zero, hbi]; rfl
  rw [List.length_drop] at hfb
  refine Good.val (Yv.sliceStr i bs.length rfl rfl rfl rfl rfl rfl ⟨_, rfl⟩ rfl (by omega) (by omega)) ?_
  rw [List.take_length]
  refine Good.on ?_
  refine Good.callP [] (first_spec (bs.drop i) hne) ck111 ?_
  rintro r L ⟨rfl, rfl⟩
  obtain ⟨n, m, hf⟩ : ∃ n m, firstR (bs.drop i) = (n, m) := ⟨_, _, rfl⟩
  rw [hf] at he hfb ⊢
  dsimp only at he hfb
  simp only [pairV]
  refine Good.on ?_
  refine Good.ifB (fun h0 => ?_) (fun h0 => ?_) <;> refine Good.on ?_
  · have hm : m = 0 := by simpa using h0
    rw [if_pos hm] at he
    refine Good.val (Yv.index rfl rfl rfl rfl rfl (by omega) (by rw [Int.toNat_natCast]; exact hbi)) ?_
    rw [← hbe]
    refine Good.on ?_
    rw [w64 ((byteAt (bs.drop i) 0 : Nat) : Int) (by omega), w64 (0 - ((byteAt (bs.drop i) 0 : Nat) : Int)) (by omega), w64 (0 - ((byteAt (bs.drop i) 0 : Nat) : Int) - 1) (by omega)]
    rw [show (0 : Int) - ((byteAt (bs.drop i) 0 : Nat) : Int) - 1 = -(byteAt (bs.drop i) 0 : Int) - 1 from by omega]
    refine Good.push 0 (fun g' v' => ?_) ?_
    rotate_left
    · simp [intsC, ti3]; omega
    refine Good.on ?_
    refine Good.again (i + 1, out ++ [-(byteAt (bs.drop i) 0 : Int) - 1], v') ⟨⟨by dsimp only; omega, by simp; omega, ?_⟩, by dsimp only; omega⟩ ⟨rfl, rfl, ?_, trivial⟩ (fun w h => ?_)
    · dsimp only; rw [he, List.drop_drop, List.append_assoc]; rfl
    · show some (Value.int .i64 _) = _
      rw [w64 _ (by omega)]; rfl
    · simpa [intsC] using h
  · have hm : m ≠ 0 := by simpa using h0
    rw [if_neg hm] at he
    refine Good.push 0 (fun g' v' => ?_) ?_
    rotate_left
    · simp [intsC, ti3]; omega
    refine Good.on ?_
    refine Good.again (i + m, out ++ [(n : Int)], v') ⟨⟨by dsimp only; omega, by simp; omega, ?_⟩, by dsimp only; omega⟩ ⟨rfl, rfl, ?_, trivial⟩ (fun w h => ?_)
    · dsimp only; rw [he, List.drop_drop, List.append_assoc]; rfl
    · show some (Value.int .i64 _) = _
      rw [w64 _ (by omega)]; simp [Ent.val]
    · simpa [intsC] using h
end Go.Proofs.YtnfcbpgckomdfaaDoor
namespace Go.Proofs.YtnfcbpgckomdfaaDoor
open Go.Lib (strCells)
theorem oneR_len {n : Int} (h : -256 ≤ n ∧ n ≤ 1114111) : (oneR n).length ≤ 20 := by
  unfold oneR
  split
  · have := hexL_len16 (n := (-n - 1).toNat) (by omega)
    simp only [List.length_append, List.length_cons, List.length_nil]; omega
  split
  · simp
  split
  · have := hexL_len16 (n := n.toNat) (by omega)
    simp only [List.length_append, List.length_cons, List.length_nil]; omega
  · simp
theorem onesR_len : ∀ (l : List Int), (∀ n ∈ l, -256 ≤ n ∧ n ≤ 1114111) → (l.flatMap oneR).length ≤ l.length * 20
  | [], _ => by simp
  | n :: l, h => by
    have h1 := oneR_len (h n (by simp))
    have h2 := onesR_len l (fun m hm => h m (by simp [hm]))
    simp only [List.flatMap_cons, List.length_append, List.length_cons]; omega
theorem onesR_take (l : List Int) (i : Nat) (hi : i < l.length) : (l.take (i + 1)).flatMap oneR = (l.take i).flatMap oneR ++ oneR l[i] := by
  rw [List.take_succ_eq_append_getElem hi, List.flatMap_append]; simp only [List.flatMap_cons, List.flatMap_nil, List.append_nil]
set_option maxHeartbeats 3200000
set_option maxRecDepth 20000
theorem refQuote_spec (bs : List UInt8) (hl : bs.length ≤ 1000000) : Spec Tryd.prog 62 #[.string (str bs)] noFacts [] fun r L => r = .string (str (quoteL bs)) ∧ L = [] := by
  refine Spec.go (vs := [_]) (hT := tyOk) (hm := mixed0) Tryd.func62 rfl Tryd.ntmps62 rfl ?_
  intro W p _
  refine Good.on ?_
  refine Good.callP [] (refSigns_spec bs (by omega)) ck89 ?_
  rintro v L rfl
  have hok := signsN_ok bs.length bs
  obtain ⟨ns, hns⟩ : ∃ ns, signsL bs = ns := ⟨_, rfl⟩
  have hq : quoteL bs = [34] ++ ns.flatMap oneR ++ [34] := by rw [quoteL, ← hns, signsL, signs_law]
  rw [show signsN bs.length bs = ns from hns] at hok
  rw [hns]
  refine Good.know (fun w' h => h.slcIs (m := ns.length) 0 rfl (by decide) (by simp [intsC])) ?_
  rintro ⟨a, c, rfl, hc, hg⟩
  refine Good.on ?_
  refine Good.loop (ι := Nat × List UInt8) (fun x => [(3, .v (.string (str x.2))), (4, .v (.slice a ns.length c)), (5, .v (.int .i64 (x.1 : Int)))]) (fun x => [slc 3 1 (.slice a ns.length c) (intsC ns)])
    (fun x => x.1 ≤ ns.length ∧ x.2 = [34] ++ (ns.take x.1).flatMap oneR) (fun x => ns.length - x.1) (0, [34]) ⟨by simp, by simp⟩ ⟨rfl, rfl, rfl, trivial⟩ (fun _ h => h) ?_
  rintro ⟨i, acc⟩ ⟨hi, hacc⟩
  dsimp only at hi hacc ⊢
  have hlt := onesR_len (ns.take i) (fun n hn => hok.1 n (List.mem_of_mem_take hn))
  have htl : (ns.take i).length ≤ i := by simp; omega
  have hal : acc.length ≤ 1 + i * 20 := by rw [hacc, List.length_append]; simp only [List.length_singleton]; omega
  refine Good.on ?_
  refine Good.ifD (fun h => ?_) (fun h => ?_) <;> refine Good.on ?_
  rotate_left
  · have hi' : i = ns.length := by omega
    subst hi'
    refine Good.val (Yv.concat (b := [34]) rfl rfl rfl (by simp only [List.length_singleton]; omega)) ?_
    refine Good.on ?_
    refine Good.ret1 Tryd.results62 (Res.tmp rfl) ⟨by rw [hq, hacc, List.take_length], rfl⟩ (fun _ h => h.clear)
  have hi' : i < ns.length := by omega
  obtain ⟨g, rfl⟩ := hg (by intro e; have := congrArg List.length e; simp [intsC] at this; subst this; simp at hi')
  obtain ⟨n, hn⟩ : ∃ n, ns[i] = n := ⟨_, rfl⟩
  have hnb := hok.1 n (by rw [← hn]; exact List.getElem_mem hi')
  have hnext : ∀ x, x = acc ++ oneR n → x = [34] ++ (ns.take (i + 1)).flatMap oneR := fun x hx => by
    rw [hx, onesR_take ns i hi', hn, hacc, List.append_assoc]
  refine Good.val (Yv.indexAddr rfl rfl rfl rfl rfl rfl (by omega) (by omega)) ?_
  rw [show ((i : Int)).toNat * ti3.size = i from by simp [ti3], Nat.zero_add]
  refine Good.on ?_
  refine Good.loadC (ad := ⟨g, i, none⟩) (v := .int .i64 n) (fun w' h => h.slcCell (j := i) 0 rfl rfl (by rw [← hn]; simp [intsC, hi'])) ?_
  refine Good.on ?_
  refine Good.ifD (fun h0 => ?_) (fun h0 => ?_) <;> refine Good.on ?_
  · refine Good.val (Yv.concat (b := [92, 120]) rfl rfl rfl (by simp; omega)) ?_
    refine Good.on ?_
    rw [w64 (0 - n) (by omega), w64 (0 - n - 1) (by omega)]
    obtain ⟨k, hk⟩ := Int.eq_ofNat_of_zero_le (show 0 ≤ 0 - n - 1 by omega)
    rw [hk]
    refine Good.call0 (refHex_spec k (by omega)) ck90 ?_
    rintro r L ⟨rfl, rfl⟩
    have hhl := hexL_len16 (n := k) (by omega)
    refine Good.on ?_
    refine Good.val (Yv.concat (b := hexL k) rfl rfl rfl (by simp; omega)) ?_
    refine Good.on ?_
    refine Good.again (i + 1, acc ++ [92, 120] ++ hexL k) ⟨⟨by dsimp only; omega, hnext _ ?_⟩, by dsimp only; omega⟩ ⟨rfl, rfl, ?_, trivial⟩ (fun _ h => h)
    · rw [oneR, if_pos h0, show (-n - 1).toNat = k from by omega, List.append_assoc]
    · show some (Value.int .i64 _) = _
      rw [w64 _ (by omega)]; rfl
  obtain ⟨m, rfl⟩ := Int.eq_ofNat_of_zero_le (Int.not_lt.1 h0)
  refine Good.partB (fun h34 => ?_) (fun h34 => ?_) <;> refine Good.on ?_
  · have hm : m = 34 := by simp at h34; omega
    subst hm
    refine Good.val (Yv.concat (b := [92]) rfl rfl rfl (by simp; omega)) ?_
    refine Good.on ?_
    refine Good.op rfl (OpW.lit rfl rfl rfl fun g1 => ?_)
    refine Good.mem (l' := [slc 5 1 (.slice (some ⟨g1, 0, none⟩) 1 1) (([(34 : Int)]).map (Value.int .u8)), slc 3 1 (.slice (some ⟨g, 0, none⟩) ns.length c) (intsC ns)]) (fun w h => Sat.rowSlc rfl (by unfold maxLen; omega) h) ?_
    refine Good.on ?_
    refine Good.bytesStr 0 (ns := [(34 : Int)]) ?_
    refine Good.on ?_
    refine Good.val (Yv.concat (b := [34]) rfl rfl rfl (by simp; omega)) ?_
    refine Good.on ?_
    refine Good.again (i + 1, acc ++ [92] ++ [34]) ⟨⟨by dsimp only; omega, hnext _ ?_⟩, by dsimp only; omega⟩ ⟨rfl, rfl, ?_, trivial⟩ (fun _ h => h.tail)
    · rw [oneR, if_neg h0, if_pos (.inl rfl), List.append_assoc]; rfl
    · show some (Value.int .i64 _) = _
      rw [w64 _ (by omega)]; rfl
  have hm34 : m ≠ 34 := by simp at h34; omega
  refine Good.ifB (fun h92 => ?_) (fun h92 => ?_) <;> refine Good.on ?_
  · have hm : m = 92 := by simp at h92; omega
    subst hm
    refine Good.val (Yv.concat (b := [92]) rfl rfl rfl (by simp; omega)) ?_
    refine Good.on ?_
    refine Good.op rfl (OpW.lit rfl rfl rfl fun g1 => ?_)
    refine Good.mem (l' := [slc 5 1 (.slice (some ⟨g1, 0, none⟩) 1 1) (([(92 : Int)]).map (Value.int .u8)), slc 3 1 (.slice (some ⟨g, 0, none⟩) ns.length c) (intsC ns)]) (fun w h => Sat.rowSlc rfl (by unfold maxLen; omega) h) ?_
    refine Good.on ?_
    refine Good.bytesStr 0 (ns := [(92 : Int)]) ?_
    refine Good.on ?_
    refine Good.val (Yv.concat (b := [92]) rfl rfl rfl (by simp; omega)) ?_
    refine Good.on ?_
    refine Good.again (i + 1, acc ++ [92] ++ [92]) ⟨⟨by dsimp only; omega, hnext _ ?_⟩, by dsimp only; omega⟩ ⟨rfl, rfl, ?_, trivial⟩ (fun _ h => h.tail)
    · rw [oneR, if_neg h0, if_pos (.inr rfl), List.append_assoc]; rfl
    · show some (Value.int .i64 _) = _
      rw [w64 _ (by omega)]; rfl
  have hm92 : m ≠ 92 := by simp at h92; omega
  have big : (m < 32 ∨ 126 < m) → oneR (m : Int) = [92, 117, 123] ++ hexL m ++ [125] := fun hb => by
    rw [oneR, if_neg h0, if_neg (by omega), if_pos (by omega)]; rfl
  have small : ¬ (m < 32 ∨ 126 < m) → oneR (m : Int) = [UInt8.ofNat m] := fun hb => by
    rw [oneR, if_neg h0, if_neg (by omega), if_neg (by omega)]; rfl
  have hhl := hexL_len16 (n := m) (by omega)
  refine Good.partD (fun h32 => ?_) (fun h32 => ?_) <;> refine Good.on ?_
  · refine Good.val (Yv.concat (b := [92, 117, 123]) rfl rfl rfl (by simp; omega)) ?_
    refine Good.on ?_
    refine Good.call0 (refHex_spec m (by omega)) ck90 ?_
    rintro r L ⟨rfl, rfl⟩
    refine Good.on ?_
    refine Good.val (Yv.concat (b := hexL m) rfl rfl rfl (by simp; omega)) ?_
    refine Good.on ?_
    refine Good.val (Yv.concat (b := [125]) rfl rfl rfl (by simp; omega)) ?_
    refine Good.on ?_
    refine Good.again (i + 1, acc ++ [92, 117, 123] ++ hexL m ++ [125]) ⟨⟨by dsimp only; omega, hnext _ ?_⟩, by dsimp only; omega⟩ ⟨rfl, rfl, ?_, trivial⟩ (fun _ h => h)
    · rw [big (.inl (by omega))]; simp
    · show some (Value.int .i64 _) = _
      rw [w64 _ (by omega)]; rfl
  refine Good.ifD (fun h126 => ?_) (fun h126 => ?_) <;> refine Good.on ?_
  · refine Good.val (Yv.concat (b := [92, 117, 123]) rfl rfl rfl (by simp; omega)) ?_
    refine Good.on ?_
    refine Good.call0 (refHex_spec m (by omega)) ck90 ?_
    rintro r L ⟨rfl, rfl⟩
    refine Good.on ?_
    refine Good.val (Yv.concat (b := hexL m) rfl rfl rfl (by simp; omega)) ?_
    refine Good.on ?_
    refine Good.val (Yv.concat (b := [125]) rfl rfl rfl (by simp; omega)) ?_
    refine Good.on ?_
    refine Good.again (i + 1, acc ++ [92, 117, 123] ++ hexL m ++ [125]) ⟨⟨by dsimp only; omega, hnext _ ?_⟩, by dsimp only; omega⟩ ⟨rfl, rfl, ?_, trivial⟩ (fun _ h => h)
    · rw [big (.inr (by omega))]; simp
    · show some (Value.int .i64 _) = _
      rw [w64 _ (by omega)]; rfl
  · rw [u8w m (by omega)]
    refine Good.op rfl (OpW.lit rfl rfl rfl fun g1 => ?_)
    refine Good.mem (l' := [slc 5 1 (.slice (some ⟨g1, 0, none⟩) 1 1) (([(m : Int)]).map (Value.int .u8)), slc 3 1 (.slice (some ⟨g, 0, none⟩) ns.length c) (intsC ns)]) (fun w h => Sat.rowSlc rfl (by unfold maxLen; omega) h) ?_
    refine Good.on ?_
    refine Good.bytesStr 0 (ns := [(m : Int)]) ?_
    rw [one_str]
    refine Good.on ?_
    refine Good.val (Yv.concat (b := [UInt8.ofNat m]) rfl rfl rfl (by simp; omega)) ?_
    refine Good.on ?_
    refine Good.again (i + 1, acc ++ [UInt8.ofNat m]) ⟨⟨by dsimp only; omega, hnext _ ?_⟩, by dsimp only; omega⟩ ⟨rfl, rfl, ?_, trivial⟩ (fun _ h => h.tail)
    · rw [small (by omega)]
    · show some (Value.int .i64 _) = _
      rw [w64 _ (by omega)]; rfl
end Go.Proofs.YtnfcbpgckomdfaaDoor
