/- The plain law: reading what was written; no program here. -/
import Derived.Test.YtibeiamihdbahabLogB
namespace Go.Proofs.Ytibeiamihdbahab
theorem toB_cons (n : Int) (ns : List Int) : toB (n :: ns) = UInt8.ofNat n.toNat :: toB ns := rfl
theorem toB_length (ns : List Int) : (toB ns).length = ns.length := by simp [toB]
theorem ofNat_toNat {n : Nat} (h : n < 256) : (UInt8.ofNat n).toNat = n := by simp; omega
theorem getGo_putL : ∀ (k n i a : Nat) (rest : List UInt8), n < k → i ≤ 9 → a + n * 128 ^ i < 18446744073709551616 → (n ≠ 0 ∨ i = 0) → getGo i a (toB (putL n) ++ rest) = (a + n * 128 ^ i, i + (putL n).length, 0)
  | 0, n, i, a, rest, h, _, _, _ => by omega
  | k + 1, n, i, a, rest, h, hi, ha, h0 => by
    have h9 : i = 9 → n ≤ 1 := fun e => by subst e; omega
    by_cases hn : n < 128
    · rw [putL_lt hn, toB_cons]
      have hc : (UInt8.ofNat (n : Int).toNat).toNat = n := ofNat_toNat (by omega)
      simp only [List.cons_append, getGo, hc]
      rw [if_neg (by omega), if_pos hn, if_neg (by omega), Nat.mod_eq_of_lt hn]
      simp
    · rw [putL_ge hn, toB_cons]
      have hc : (UInt8.ofNat (((n % 128 + 128 : Nat) : Int)).toNat).toNat = n % 128 + 128 := ofNat_toNat (by omega)
      have hm : (n % 128 + 128) % 128 = n % 128 := by omega
      simp only [List.cons_append, getGo, hc, hm]
      have hi8 : i ≤ 8 := by omega
      have hv : a + n % 128 * 128 ^ i + n / 128 * 128 ^ (i + 1) = a + n * 128 ^ i := by
        rw [Nat.pow_succ, Nat.add_assoc, Nat.mul_comm (128 ^ i) 128, ← Nat.mul_assoc, ← Nat.add_mul]
        congr 2; omega
      rw [if_neg (by omega), if_neg (by omega), getGo_putL k (n / 128) (i + 1) _ rest (by omega) (by omega) (by rw [hv]; exact ha) (by omega), hv]
      simp; omega
theorem getL_putL (n : Nat) (rest : List UInt8) (h : n < 18446744073709551616) : getL (toB (putL n) ++ rest) = (n, (putL n).length, 0) := by
  have := getGo_putL (n + 1) n 0 0 rest (by omega) (by omega) (by simpa using h) (.inr rfl)
  simpa [getL] using this
theorem openL_sealL (b : List UInt8) : openL (sealL b) = some b := by
  have h4 : (sealL b).length - 4 = b.length := by rw [sealL_length]; omega
  have ht : (sealL b).take b.length = b := by rw [sealL, List.take_left]
  unfold openL
  rw [h4, ht, if_neg (by rw [sealL_length]; omega), if_pos rfl]
theorem putL_pos (n : Nat) : 1 ≤ (putL n).length := by
  by_cases h : n < 128
  · rw [putL_lt h]; simp
  · rw [putL_ge h]; simp
theorem kind_two {k : Int} (h : kindB k = true) : k = 1 ∨ k = 2 := by simpa [kindB] using h
theorem openR_body (r : Rec) (hr : r.ok) (hk : kindB r.kind = true) : openR (bodyL r) = (r, 0) := by
  have hc : ((UInt8.ofNat (IntKind.u8.wrap r.kind).toNat).toNat : Int) = r.kind := by rcases kind_two hk with h | h <;> rw [h] <;> decide
  unfold bodyL
  rw [toB_cons, List.cons_append]
  simp only [openR, hc, hk, if_true]
  rw [getL_putL _ _ (fold_lt hr.2)]
  simp only [if_true, back_fold]
  rw [show (toB (putL (fold r.time)) ++ r.text).drop (putL (fold r.time)).length = r.text from by rw [← toB_length, List.drop_left]]
theorem encB_length (r : Rec) : (encB r).length = (putL (bodyL r).length).length + (bodyL r).length + 4 := by
  rw [encB, List.length_append, toB_length, sealL_length]; omega
theorem getR_encB (r : Rec) (rest : List UInt8) (hr : r.ok) (hk : kindB r.kind = true) (hb : (bodyL r).length ≤ 65536) : getR (encB r ++ rest) = (r, (encB r).length, 0) := by
  have h2 : 2 ≤ (bodyL r).length := by
    have := putL_pos (fold r.time)
    simp only [bodyL, toB_cons, List.length_append, List.length_cons, toB_length]; omega
  have hg : getL (encB r ++ rest) = ((bodyL r).length, (putL (bodyL r).length).length, 0) := by
    rw [encB, List.append_assoc]; exact getL_putL _ _ (by omega)
  have hd : ((encB r ++ rest).take ((putL (bodyL r).length).length + (bodyL r).length + 4)).drop (putL (bodyL r).length).length = sealL (bodyL r) := by
    rw [← encB_length, List.take_left, encB, ← toB_length, List.drop_left]
  unfold getR
  simp only [hg]
  rw [if_neg (by simp), if_neg (by omega), if_neg (by rw [List.length_append, encB_length]; omega), hd, openL_sealL]
  simp only [openR_body r hr hk, encB_length]
  rw [if_neg (by simp)]
/-- What encode gives where it gives no error. -/
theorem encode_ok {r : Rec} (h : (encode r).2 = 0) : (encode r).1 = encB r ∧ kindB r.kind = true ∧ (bodyL r).length ≤ 65536 := by
  unfold encode at h ⊢
  split at h
  · rename_i hk
    split at h
    · rename_i hb; rw [if_pos hk, if_pos hb]; exact ⟨rfl, hk, hb⟩
    · simp at h
  · simp at h
theorem encB_ne (r : Rec) : encB r ≠ [] := by
  intro h; have := congrArg List.length h; rw [encB_length] at this; simp at this
theorem buildN_ok : ∀ (l : List Rec) (acc s : List UInt8), (∀ r ∈ l, r.ok) → buildN acc l = (s, 0) → ∃ t, s = acc ++ t ∧ (∀ r ∈ l, (encode r).2 = 0) ∧ ∀ more, parseL (t ++ more) = (l ++ (parseL more).1, t.length + (parseL more).2.1, (parseL more).2.2)
  | [], acc, s, _, h => by
    simp [buildN] at h; subst h
    exact ⟨[], by simp, by simp, fun more => by simp⟩
  | r :: l, acc, s, hr, h => by
    rw [buildN] at h
    by_cases he : (encode r).2 = 0
    · rw [if_neg (by simpa using he)] at h
      obtain ⟨t, h1, h2, h3⟩ := buildN_ok l _ s (fun x hx => hr x (List.mem_cons_of_mem _ hx)) h
      obtain ⟨e1, e2, e3⟩ := encode_ok he
      refine ⟨encB r ++ t, by rw [h1, e1, List.append_assoc], ?_, fun more => ?_⟩
      · intro x hx
        rcases List.mem_cons.1 hx with rfl | hx
        · exact he
        · exact h2 x hx
      · have hg := getR_encB r (t ++ more) (hr r List.mem_cons_self) e2 e3
        rw [List.append_assoc]
        have hne : encB r ++ (t ++ more) ≠ [] := by simp [encB_ne]
        rw [parseL_good hne (by rw [hg]), hg]
        simp only [List.drop_left, h3 more, List.length_append]
        simp [Nat.add_assoc]
    · rw [if_pos he] at h
      exact absurd (congrArg Prod.snd h) he
theorem buildN_len : ∀ (l : List Rec) (acc : List UInt8), (buildN acc l).1.length ≤ acc.length + l.length * 65560
  | [], acc => by simp [buildN]
  | r :: l, acc => by
    rw [buildN]
    split
    · simp
    · have := buildN_len l (acc ++ (encode r).1)
      have h2 := encode_len r
      rw [List.length_append] at this
      simp only [List.length_cons]; omega
/-- No text is another's beginning, but its own. -/
theorem encB_apart (x y : Rec) (hx : x.ok) (hy : y.ok) (ex : (encode x).2 = 0) (ey : (encode y).2 = 0) :
    ((encode x).1.take (min (encode x).1.length (encode y).1.length) = (encode y).1.take (min (encode x).1.length (encode y).1.length)) ↔ x = y := by
  obtain ⟨a1, a2, a3⟩ := encode_ok ex
  obtain ⟨b1, b2, b3⟩ := encode_ok ey
  rw [a1, b1]
  constructor
  · intro h
    rcases Nat.le_total (encB x).length (encB y).length with hl | hl
    · rw [Nat.min_eq_left hl, List.take_length] at h
      have hy' : encB y = encB x ++ (encB y).drop (encB x).length := by
        conv => lhs; rw [← List.take_append_drop (encB x).length (encB y), ← h]
      have g1 := getR_encB y [] hy b2 b3
      rw [List.append_nil, hy', getR_encB x _ hx a2 a3] at g1
      exact congrArg Prod.fst g1
    · rw [Nat.min_eq_right hl, List.take_length] at h
      have hx' : encB x = encB y ++ (encB x).drop (encB y).length := by
        conv => lhs; rw [← List.take_append_drop (encB y).length (encB x), h]
      have g1 := getR_encB x [] hx a2 a3
      rw [List.append_nil, hx', getR_encB y _ hy b2 b3] at g1
      exact (congrArg Prod.fst g1).symm
  · rintro rfl; rfl
/-- The record of the first test. -/
theorem encode_one : encode ⟨1, 0, []⟩ = (encB ⟨1, 0, []⟩, 0) ∧ (encB ⟨1, 0, []⟩).length = 7 := by
  have hp : putL 0 = [0] := putL_lt (by omega)
  have hb : bodyL ⟨1, 0, []⟩ = [1, 0] := by
    simp only [bodyL, show fold 0 = 0 from rfl, hp]; rfl
  have hl : putL 2 = [2] := putL_lt (by omega)
  refine ⟨?_, ?_⟩
  · unfold encode
    rw [if_pos (show kindB 1 = true from rfl), if_pos (by rw [hb]; simp)]
  · rw [encB_length, hb]; simp [hl]
end Go.Proofs.Ytibeiamihdbahab
