/- Package varint: reading numbers. -/
import Derived.Test.YtibeiamihdbahabVarint
namespace Go.Proofs.Ytibeiamihdbahab
/-- The number with which bytes begin, how many bytes, and the error. -/
def getGo (i a : Nat) : List UInt8 → Nat × Nat × Int
  | [] => (0, 0, 1)
  | c :: r =>
    if 9 < i ∨ (i = 9 ∧ 1 < c.toNat % 128) then (0, 0, 2)
    else if c.toNat < 128 then (if c.toNat = 0 ∧ 0 < i then (0, 0, 2) else (a + c.toNat % 128 * 128 ^ i, i + 1, 0))
    else getGo (i + 1) (a + c.toNat % 128 * 128 ^ i) r
def getL (bs : List UInt8) : Nat × Nat × Int := getGo 0 0 bs
def getV3 (x : Nat × Nat × Int) : Value := .tuple #[.int .u64 x.1, .int .i64 x.2.1, .int .i64 x.2.2]
theorem pow128 (i : Nat) : 128 ^ i = 2 ^ (7 * i) := by rw [Nat.pow_mul]
theorem nextDigit {i a x : Nat} (hi : i ≤ 9) (ha : a < 128 ^ i) (hx : x < 128) (h9 : i = 9 → x ≤ 1) : a + x * 128 ^ i < 18446744073709551616 := by
  rcases Nat.lt_or_ge i 9 with h | h
  · have h1 : a + x * 128 ^ i < 128 ^ (i + 1) := by rw [Nat.pow_succ]; have := Nat.mul_le_mul_right (128 ^ i) (Nat.le_of_lt_succ (show x < 127 + 1 from hx)); omega
    have h2 : 128 ^ (i + 1) ≤ 128 ^ 9 := Nat.pow_le_pow_right (by omega) (by omega)
    have : (128 : Nat) ^ 9 = 9223372036854775808 := by decide
    omega
  · have : i = 9 := by omega
    subst this
    have := h9 rfl
    have h3 : (128 : Nat) ^ 9 = 9223372036854775808 := by decide
    rw [h3] at ha ⊢
    omega
theorem orDigit {i a x : Nat} (ha : a < 128 ^ i) : a ||| x * 128 ^ i = a + x * 128 ^ i := by
  rw [pow128] at ha ⊢
  have := Nat.two_pow_add_eq_or_of_lt ha x
  rw [Nat.mul_comm x, Nat.or_comm, ← this, Nat.add_comm]
theorem shlE (x i : Nat) (hi : i ≤ 9) (hx : x * 128 ^ i < 18446744073709551616) : binE .shl (.int .u64 (x : Int)) (.int .u64 ((7 * i : Nat) : Int)) = some (.int .u64 ((x * 128 ^ i : Nat) : Int)) := by
  have h0 : decide (((7 * i : Nat) : Int) < 0) = false := by simp; omega
  simp only [binE, isShift, intShift, h0]
  congr 2
  rw [show min (((7 * i : Nat) : Int)).toNat IntKind.u64.bits = 7 * i from by simp [IntKind.bits]; omega]
  rw [show ((x : Int) * 2 ^ (7 * i)) = ((x * 128 ^ i : Nat) : Int) from by rw [pow128]; simp]
  exact wrapU rfl _ (by simpa [IntKind.bits] using hx)
set_option maxHeartbeats 800000
theorem varintGet_spec (bs : List UInt8) (hl : bs.length ≤ 140737488355328) : Spec Try.prog 33 #[.string (str bs)] noFacts [] fun r L => r = getV3 (getL bs) ∧ L = [] := by
  refine Spec.go (vs := [_]) (hT := tyOk) (hm := mixed0) Try.func33 rfl Try.ntmps33 rfl ?_
  intro W p _
  refine Good.on ?_
  refine Good.loop (ι := Nat × Nat) (fun x => [(0, .v (.string (str bs))), (5, .v (.int .u64 (x.2 : Int))), (9, .v (.int .i64 bs.length)), (10, .v (.int .i64 (x.1 : Int)))]) (fun _ => []) (fun x => x.1 ≤ bs.length ∧ x.1 ≤ 10 ∧ (x.2 < 128 ^ x.1 ∨ x.1 = 10) ∧ getGo x.1 x.2 (bs.drop x.1) = getL bs) (fun x => bs.length - x.1) (0, 0) ⟨by simp, by simp, .inl (by simp), rfl⟩ ⟨rfl, rfl, ?_, rfl, trivial⟩ (fun _ h => h) ?_
  · show some (Value.int .i64 _) = _; rw [str_size]; rfl
  rintro ⟨i, a⟩ ⟨hi, hi10, ha, hg⟩
  dsimp only at hi hi10 ha hg ⊢
  refine Good.on ?_
  refine Good.ifD (fun h => ?_) (fun h => ?_) <;> refine Good.on ?_
  · have hi' : i < bs.length := by omega
    obtain ⟨c, hc⟩ : ∃ c, bs[i]? = some c := ⟨_, List.getElem?_eq_getElem hi'⟩
    have hd : bs.drop i = c :: bs.drop (i + 1) := by
      rw [List.drop_eq_getElem_cons hi']; congr 1
      rw [List.getElem?_eq_getElem hi'] at hc; exact Option.some.inj hc
    have hcb : c.toNat < 256 := UInt8.toNat_lt c
    rw [hd] at hg
    have hw : IntKind.u64.wrap (c.toNat : Int) = (c.toNat : Int) := wrapU rfl _ (by simp [IntKind.bits]; omega)
    have hand : IntKind.u64.wrap (BitVec.ofInt IntKind.u64.bits (c.toNat : Int) &&& BitVec.ofInt IntKind.u64.bits 127).toNat = ((c.toNat % 128 : Nat) : Int) := by
      have := andU (k := .u64) rfl c.toNat 127 (by simp [IntKind.bits]; omega) (by decide)
      rw [and127] at this; exact this
    refine Good.val (Yv.index rfl rfl rfl rfl rfl (by omega) (by simpa using hc)) ?_
    refine Good.on ?_
    rw [hw]
    refine Good.partD (fun h9 => ?_) (fun h9 => ?_) <;> refine Good.on ?_
    · refine Good.ret3 Try.results33 (Res.tmp rfl) (Res.tmp rfl) (Res.tmp rfl) ⟨?_, rfl⟩ (fun _ h => h)
      rw [← hg, getGo, if_pos (.inl (by omega))]; rfl
    have hn : ¬ 9 < i := by omega
    refine Good.partB (fun h => ?_) (fun h => ?_) <;> refine Good.on ?_
    have h9 : i = 9 := by simp at h; omega
    rw [hand]
    refine Good.ifD (fun hx => ?_) (fun hx => ?_) <;> refine Good.on ?_
    · refine Good.ret3 Try.results33 (Res.tmp rfl) (Res.tmp rfl) (Res.tmp rfl) ⟨?_, rfl⟩ (fun _ h => h)
      rw [← hg, getGo, if_pos (.inr ⟨h9, by omega⟩)]; rfl
    have hx' : i = 9 → c.toNat % 128 ≤ 1 := fun _ => by omega
    rotate_left
    have hx' : i = 9 → c.toNat % 128 ≤ 1 := fun h9 => by subst h9; simp at h
    all_goals
      have hi9 : i ≤ 9 := by omega
      have ha' : a < 128 ^ i := ha.resolve_right (by omega)
      have hxl : c.toNat % 128 < 128 := Nat.mod_lt _ (by omega)
      have hsum := nextDigit hi9 ha' hxl hx'
      have h7 : IntKind.u64.wrap (IntKind.i64.wrap (7 * (i : Int))) = ((7 * i : Nat) : Int) := by rw [w64 _ (by omega)]; exact wrapU rfl (7 * i) (by simp [IntKind.bits]; omega)
      have hor : IntKind.u64.wrap (BitVec.ofInt IntKind.u64.bits (a : Int) ||| BitVec.ofInt IntKind.u64.bits ((c.toNat % 128 * 128 ^ i : Nat) : Int)).toNat = ((a + c.toNat % 128 * 128 ^ i : Nat) : Int) := by
        rw [orU (k := .u64) rfl a _ (by simp [IntKind.bits]; omega) (by simp only [IntKind.bits]; omega), orDigit ha']
      have hno : ¬ (9 < i ∨ (i = 9 ∧ 1 < c.toNat % 128)) := by rintro (h | ⟨h, h'⟩); · omega
                                                               · have := hx' h; omega
      rw [hand, h7]
      refine Good.val (Yv.bin rfl rfl rfl (shlE _ i hi9 (by omega))) ?_
      refine Good.on ?_
      rw [hor]
      refine Good.ifD (fun hc1 => ?_) (fun hc1 => ?_) <;> refine Good.on ?_
      · refine Good.partB (fun hz => ?_) (fun hz => ?_) <;> refine Good.on ?_
        · refine Good.ifD (fun hp => ?_) (fun hp => ?_) <;> refine Good.on ?_
          · refine Good.ret3 Try.results33 (Res.tmp rfl) (Res.tmp rfl) (Res.tmp rfl) ⟨?_, rfl⟩ (fun _ h => h)
            rw [← hg, getGo, if_neg hno, if_pos (by omega), if_pos ⟨by simp at hz; omega, by omega⟩]; rfl
          · refine Good.ret3 Try.results33 (Res.tmp rfl) (Res.tmp rfl) (Res.tmp rfl) ⟨?_, rfl⟩ (fun _ h => h)
            rw [← hg, getGo, if_neg hno, if_pos (by omega), if_neg (by omega), w64 _ (by omega)]; rfl
        · refine Good.ret3 Try.results33 (Res.tmp rfl) (Res.tmp rfl) (Res.tmp rfl) ⟨?_, rfl⟩ (fun _ h => h)
          rw [← hg, getGo, if_neg hno, if_pos (by omega), if_neg (by simp at hz; omega), w64 _ (by omega)]; rfl
      · refine Good.again (i + 1, a + c.toNat % 128 * 128 ^ i) ⟨⟨by dsimp only; omega, by dsimp only; omega, ?_, ?_⟩, by dsimp only; omega⟩ ⟨rfl, rfl, rfl, ?_, trivial⟩ (fun _ h => h)
        · left; dsimp only; rw [Nat.pow_succ]
          have := Nat.mul_le_mul_right (128 ^ i) (show c.toNat % 128 ≤ 127 by omega); omega
        · dsimp only; rw [← hg, getGo.eq_2, if_neg hno, if_neg (by omega)]
        · show some (Value.int .i64 _) = _; rw [w64 _ (by omega)]; rfl
  · have hd : bs.drop i = [] := List.drop_eq_nil_of_le (by omega)
    rw [hd] at hg
    refine Good.ret3 Try.results33 (Res.tmp rfl) (Res.tmp rfl) (Res.tmp rfl) ⟨?_, rfl⟩ (fun _ h => h)
    rw [← hg, getGo]; rfl
theorem getGo_lt : ∀ (bs : List UInt8) (i a : Nat), i ≤ 10 → (a < 128 ^ i ∨ i = 10) → (getGo i a bs).1 < 18446744073709551616 ∧ (getGo i a bs).2.1 ≤ i + bs.length
  | [], i, a, _, _ => by simp [getGo]
  | c :: r, i, a, hi, ha => by
    rw [getGo]
    split
    · simp
    · rename_i hno
      have hi9 : i ≤ 9 := by omega
      have ha' : a < 128 ^ i := ha.resolve_right (by omega)
      have hxl : c.toNat % 128 < 128 := Nat.mod_lt _ (by omega)
      have hsum := nextDigit hi9 ha' hxl (fun h9 => by omega)
      split
      · split
        · simp
        · exact ⟨hsum, by simp⟩
      · have := getGo_lt r (i + 1) (a + c.toNat % 128 * 128 ^ i) (by omega) (by
          left; rw [Nat.pow_succ]
          have := Nat.mul_le_mul_right (128 ^ i) (show c.toNat % 128 ≤ 127 by omega); omega)
        exact ⟨this.1, by have := this.2; simp only [List.length_cons]; omega⟩
theorem getL_lt (bs : List UInt8) : (getL bs).1 < 18446744073709551616 ∧ (getL bs).2.1 ≤ bs.length := by
  have := getGo_lt bs 0 0 (by omega) (.inl (by simp))
  simpa [getL] using this
def getIntV (x : Nat × Nat × Int) : Value := .tuple #[.int .i64 (back x.1), .int .i64 x.2.1, .int .i64 x.2.2]
theorem varintGetInt_spec (bs : List UInt8) (hl : bs.length ≤ 140737488355328) : Spec Try.prog 41 #[.string (str bs)] noFacts [] fun r L => r = getIntV (getL bs) ∧ L = [] := by
  refine Spec.go (vs := [_]) (hT := tyOk) (hm := mixed0) Try.func41 rfl Try.ntmps41 rfl ?_
  intro W p _
  refine Good.on ?_
  refine Good.call0 (varintGet_spec bs hl) ck33 ?_
  rintro v1 L ⟨rfl, rfl⟩
  refine Good.on ?_
  refine Good.call0 (varintBack_spec (getL bs).1 (getL_lt bs).1) ck46 ?_
  rintro v2 L ⟨rfl, rfl⟩
  refine Good.on ?_
  exact Good.ret3 Try.results41 (Res.tmp rfl) (Res.tmp rfl) (Res.tmp rfl) ⟨rfl, rfl⟩ (fun _ h => h)
end Go.Proofs.Ytibeiamihdbahab
