/- The plain law: what is in marks is read again. -/
import Derived.Test.YtnfcbpgckomdfaaDoorUnq
namespace Go.Proofs.YtnfcbpgckomdfaaDoor
theorem puGo_append : ∀ (l r : List UInt8) (mx acc : Nat), puGo mx acc (l ++ r) = (puGo mx acc l).bind fun a => puGo mx a r
  | [], r, mx, acc => rfl
  | c :: l, r, mx, acc => by
    simp only [List.cons_append, puGo]
    split
    · rfl
    · split
      · rfl
      · split
        · rfl
        · exact puGo_append l r mx _
theorem digN_hexD (d : Nat) (h : d < 16) : digN (hexD d).toNat = some d := by
  have : ∀ d : Fin 16, digN (hexD d.val).toNat = some d.val := by decide
  exact this ⟨d, h⟩
theorem puGo_hex (mx : Nat) : ∀ (k n : Nat), n < 16 ^ k → n ≤ mx → puGo mx 0 (hexL n) = some n
  | 0, n, h, hm => by
    have : n = 0 := by simpa using h
    subst this
    rw [hexL_lt (by omega), puGo, digN_hexD 0 (by omega)]
    simp [puGo]
  | k + 1, n, h, hm => by
    by_cases hn : n < 16
    · rw [hexL_lt hn, puGo, digN_hexD n hn]
      simp only
      rw [if_neg (by omega), if_neg (by omega)]
      simp [puGo]
    · have hd : n / 16 < 16 ^ k := by rw [Nat.div_lt_iff_lt_mul (by omega)]; rw [Nat.pow_succ] at h; exact h
      rw [hexL_ge hn, puGo_append, puGo_hex mx k (n / 16) hd (by omega)]
      simp only [Option.bind_some, puGo]
      rw [digN_hexD _ (Nat.mod_lt _ (by omega))]
      simp only
      rw [if_neg (by omega), if_neg (by omega)]
      simp only [Option.some.injEq]; omega
theorem pu16_hex (mx n : Nat) (h : n < 16 ^ 16) (hm : n ≤ mx) : pu16 mx (hexL n) = some n := by
  have := hexL_len 15 n h
  rw [pu16, if_neg (fun e => by rw [e] at this; simp at this), puGo_hex mx 16 n h hm]
theorem take1 {t : List UInt8} (h : 1 ≤ t.length) : t.take 1 = [UInt8.ofNat (byteAt t 0)] := by
  match t, h with
  | a :: r, _ => simp [byteAt]
theorem take2 {t : List UInt8} (h : 2 ≤ t.length) : t.take 2 = [UInt8.ofNat (byteAt t 0), UInt8.ofNat (byteAt t 1)] := by
  match t, h with
  | a :: b :: r, _ => simp [byteAt]
theorem take3 {t : List UInt8} (h : 3 ≤ t.length) : t.take 3 = [UInt8.ofNat (byteAt t 0), UInt8.ofNat (byteAt t 1), UInt8.ofNat (byteAt t 2)] := by
  match t, h with
  | a :: b :: c :: r, _ => simp [byteAt]
theorem take4 {t : List UInt8} (h : 4 ≤ t.length) : t.take 4 = [UInt8.ofNat (byteAt t 0), UInt8.ofNat (byteAt t 1), UInt8.ofNat (byteAt t 2), UInt8.ofNat (byteAt t 3)] := by
  match t, h with
  | a :: b :: c :: d :: r, _ => simp [byteAt]
/-- A sign that is none of a stray byte is its bytes. -/
theorem enc_dec (t : List UInt8) (h : t ≠ []) (hs : strayB t = false) : encL (dec t).1 = t.take (dec t).2 := by
  have h1 : 0 < t.length := List.length_pos_iff.2 h
  have b0 := byteAt_lt t 0
  have b1 := byteAt_lt t 1
  have b2 := byteAt_lt t 2
  have b3 := byteAt_lt t 3
  obtain ⟨c, hc, he⟩ := encL_cases (dec t).1
  rw [validN] at hc
  have hns : ¬ ((dec t).1 = 65533 ∧ (dec t).2 = 1) := fun e => by simp [strayB, e.1, e.2] at hs
  by_cases h128 : byteAt t 0 < 128
  · rw [dec_ascii t h128] at hc he ⊢
    rw [if_pos (by simp; omega)] at hc
    simp only [Int.toNat_natCast] at hc
    rw [he, if_pos (by omega), hc, take1 (by omega)]
  rw [dec_form t (by omega)] at hc he hns ⊢
  by_cases p1 : (192 ≤ byteAt t 0 ∧ byteAt t 0 < 224) ∧ 1 < t.length ∧ byteAt t 1 / 64 = 2
  · rw [if_pos p1] at hc he hns ⊢
    by_cases p2 : 128 ≤ byteAt t 0 % 32 * 64 + byteAt t 1 % 64
    · rw [if_pos p2] at hc he hns ⊢
      rw [if_pos (by simp; omega)] at hc
      simp only [Int.toNat_natCast] at hc
      rw [he, if_neg (by omega), if_pos (by omega), take2 (by omega)]
      rw [show 192 + c / 64 = byteAt t 0 from by omega, show 128 + c % 64 = byteAt t 1 from by omega]
    · rw [if_neg p2] at hns; exact absurd ⟨rfl, rfl⟩ hns
  rw [if_neg p1] at hc he hns ⊢
  by_cases p3 : ((224 ≤ byteAt t 0 ∧ byteAt t 0 < 240) ∧ 1 < t.length ∧ byteAt t 1 / 64 = 2) ∧ 2 < t.length ∧ byteAt t 2 / 64 = 2
  · rw [if_pos p3] at hc he hns ⊢
    by_cases p2 : 2048 ≤ byteAt t 0 % 16 * 4096 + byteAt t 1 % 64 * 64 + byteAt t 2 % 64 ∧ (byteAt t 0 % 16 * 4096 + byteAt t 1 % 64 * 64 + byteAt t 2 % 64 < 55296 ∨ 57344 ≤ byteAt t 0 % 16 * 4096 + byteAt t 1 % 64 * 64 + byteAt t 2 % 64 ∧ byteAt t 0 % 16 * 4096 + byteAt t 1 % 64 * 64 + byteAt t 2 % 64 ≤ 1114111)
    · rw [if_pos p2] at hc he hns ⊢
      rw [if_pos (by simp; omega)] at hc
      simp only [Int.toNat_natCast] at hc
      rw [he, if_neg (by omega), if_neg (by omega), if_pos (by omega), take3 (by omega)]
      rw [show 224 + c / 4096 = byteAt t 0 from by omega, show 128 + c / 64 % 64 = byteAt t 1 from by omega, show 128 + c % 64 = byteAt t 2 from by omega]
    · rw [if_neg p2] at hns; exact absurd ⟨rfl, rfl⟩ hns
  rw [if_neg p3] at hc he hns ⊢
  by_cases p4 : (((240 ≤ byteAt t 0 ∧ byteAt t 0 < 248) ∧ 1 < t.length ∧ byteAt t 1 / 64 = 2) ∧ 2 < t.length ∧ byteAt t 2 / 64 = 2) ∧ 3 < t.length ∧ byteAt t 3 / 64 = 2
  · rw [if_pos p4] at hc he hns ⊢
    by_cases p2 : 65536 ≤ byteAt t 0 % 8 * 262144 + byteAt t 1 % 64 * 4096 + byteAt t 2 % 64 * 64 + byteAt t 3 % 64 ∧ (byteAt t 0 % 8 * 262144 + byteAt t 1 % 64 * 4096 + byteAt t 2 % 64 * 64 + byteAt t 3 % 64 < 55296 ∨ 57344 ≤ byteAt t 0 % 8 * 262144 + byteAt t 1 % 64 * 4096 + byteAt t 2 % 64 * 64 + byteAt t 3 % 64 ∧ byteAt t 0 % 8 * 262144 + byteAt t 1 % 64 * 4096 + byteAt t 2 % 64 * 64 + byteAt t 3 % 64 ≤ 1114111)
    · rw [if_pos p2] at hc he hns ⊢
      rw [if_pos (by simp; omega)] at hc
      simp only [Int.toNat_natCast] at hc
      rw [he, if_neg (by omega), if_neg (by omega), if_neg (by omega), take4 (by omega)]
      rw [show 240 + c / 262144 = byteAt t 0 from by omega, show 128 + c / 4096 % 64 = byteAt t 1 from by omega, show 128 + c / 64 % 64 = byteAt t 2 from by omega, show 128 + c % 64 = byteAt t 3 from by omega]
    · rw [if_neg p2] at hns; exact absurd ⟨rfl, rfl⟩ hns
  rw [if_neg p4] at hns
  exact absurd ⟨rfl, rfl⟩ hns
theorem dec_small (t : List UInt8) (hc : (dec t).1 < 128) : (dec t).2 = 1 ∧ byteAt t 0 = (dec t).1 := by
  by_cases h128 : byteAt t 0 < 128
  · rw [dec_ascii t h128]; exact ⟨rfl, rfl⟩
  exfalso
  rw [dec_form t (by omega)] at hc
  by_cases p1 : (192 ≤ byteAt t 0 ∧ byteAt t 0 < 224) ∧ 1 < t.length ∧ byteAt t 1 / 64 = 2
  · rw [if_pos p1] at hc
    by_cases p2 : 128 ≤ byteAt t 0 % 32 * 64 + byteAt t 1 % 64
    · rw [if_pos p2] at hc; dsimp only at hc; omega
    · rw [if_neg p2] at hc; dsimp only at hc; omega
  rw [if_neg p1] at hc
  by_cases p3 : ((224 ≤ byteAt t 0 ∧ byteAt t 0 < 240) ∧ 1 < t.length ∧ byteAt t 1 / 64 = 2) ∧ 2 < t.length ∧ byteAt t 2 / 64 = 2
  · rw [if_pos p3] at hc
    split at hc
    · dsimp only at hc; omega
    · dsimp only at hc; omega
  rw [if_neg p3] at hc
  split at hc
  · split at hc
    · dsimp only at hc; omega
    · dsimp only at hc; omega
  · dsimp only at hc; omega
theorem stray_byte (t : List UInt8) (hs : strayB t = true) : (dec t).2 = 1 ∧ 128 ≤ byteAt t 0 := by
  simp only [strayB, Bool.and_eq_true, decide_eq_true_eq] at hs
  refine ⟨hs.2, ?_⟩
  apply Nat.le_of_not_lt
  intro h128
  rw [dec_ascii t h128] at hs
  have := byteAt_lt t 0
  simp at hs; omega
theorem byteAt_cons (a : UInt8) (l : List UInt8) (k : Nat) : byteAt (a :: l) (k + 1) = byteAt l k := by simp [byteAt]
theorem byteAt_zero (a : UInt8) (l : List UInt8) : byteAt (a :: l) 0 = a.toNat := by simp [byteAt]
theorem hexL_two (n : Nat) (h1 : 16 ≤ n) (h2 : n < 256) : hexL n = [hexD (n / 16), hexD (n % 16)] := by
  rw [hexL_ge (by omega), hexL_lt (by omega)]; rfl
theorem hexD_ne (d : Nat) (h : d < 16) : hexD d ≠ 125 := by
  have : ∀ d : Fin 16, hexD d.val ≠ 125 := by decide
  exact this ⟨d, h⟩
theorem hexL_ne : ∀ (k n : Nat), n < 16 ^ k → ∀ c ∈ hexL n, c ≠ 125
  | 0, n, h, c, hc => by
    have : n = 0 := by simpa using h
    subst this
    rw [hexL_lt (by omega)] at hc
    rw [List.mem_singleton.1 hc]; exact hexD_ne 0 (by omega)
  | k + 1, n, h, c, hc => by
    by_cases hn : n < 16
    · rw [hexL_lt hn] at hc
      rw [List.mem_singleton.1 hc]; exact hexD_ne n hn
    · rw [hexL_ge hn] at hc
      rcases List.mem_append.1 hc with hc | hc
      · exact hexL_ne k (n / 16) (by rw [Nat.div_lt_iff_lt_mul (by omega)]; rw [Nat.pow_succ] at h; exact h) c hc
      · rw [List.mem_singleton.1 hc]; exact hexD_ne _ (Nat.mod_lt _ (by omega))
theorem indexByte_found (c : UInt8) (r : List UInt8) : ∀ (l : List UInt8), (∀ x ∈ l, x ≠ c) → Lib.indexByte (l ++ c :: r) c = (l.length : Int)
  | [], _ => by simp [Lib.indexByte]
  | x :: l, h => by
    have ih := indexByte_found c r l (fun y hy => h y (List.mem_cons_of_mem _ hy))
    have hx : x ≠ c := h x (List.mem_cons_self ..)
    rw [List.cons_append]
    unfold Lib.indexByte
    rw [if_neg (by simpa using hx), ih]
    have : ¬ ((l.length : Int) == -1) = true := by simp
    rw [if_neg this]; simp
/-- What is read of a sign in marks. -/
theorem piece_oneQ (t r : List UInt8) (h : t ≠ []) : pieceL (oneQ t ++ r) = (t.take (dec t).2, (oneQ t).length) := by
  have h1 : 0 < t.length := List.length_pos_iff.2 h
  have b0 := byteAt_lt t 0
  have hb := dec_bounds t h
  unfold oneQ
  by_cases hs : strayB t = true
  · obtain ⟨hw, h128⟩ := stray_byte t hs
    have hx := hexL_two (byteAt t 0) (by omega) b0
    rw [if_pos hs, hw, take1 (by omega)]
    have hp := pu16_hex 255 (byteAt t 0) (by omega) (by omega)
    rw [hx] at hp ⊢
    unfold pieceL
    rw [if_neg (by simp [byteAt]), if_neg (by simp [byteAt]), if_pos (by simp [byteAt])]
    have e : (List.take 4 ([92, 120] ++ [hexD (byteAt t 0 / 16), hexD (byteAt t 0 % 16)] ++ r)).drop 2 = [hexD (byteAt t 0 / 16), hexD (byteAt t 0 % 16)] := rfl
    rw [e, hp]
    rfl
  rw [if_neg hs]
  have hs' : strayB t = false := by simpa using hs
  by_cases hq : (dec t).1 = 34 ∨ (dec t).1 = 92
  · rw [if_pos hq]
    obtain ⟨hw, hb1⟩ := dec_small t (by omega)
    rw [hw, take1 (by omega), hb1]
    unfold pieceL
    have hn : (UInt8.ofNat (dec t).1).toNat = (dec t).1 := by rw [UInt8.toNat_ofNat']; omega
    rw [if_neg (by simp [byteAt]), if_pos (by
      refine ⟨by simp, ?_⟩
      have : byteAt ([92, UInt8.ofNat (dec t).1] ++ r) 1 = (dec t).1 := by simp [byteAt]; omega
      rw [this]; exact hq)]
    rfl
  rw [if_neg hq]
  by_cases he : (dec t).1 < 32 ∨ 126 < (dec t).1
  · rw [if_pos he]
    have hp := pu16_hex 2147483647 (dec t).1 (by omega) (by omega)
    have hne := hexL_ne 16 (dec t).1 (by omega)
    have hi : Lib.indexByte ([92, 117, 123] ++ hexL (dec t).1 ++ [125] ++ r) 125 = (([92, 117, 123] ++ hexL (dec t).1).length : Int) := by
      rw [List.append_assoc ([92, 117, 123] ++ hexL (dec t).1)]
      exact indexByte_found 125 r _ (fun x hx => by
        rcases List.mem_append.1 hx with hx | hx
        · simp at hx; rcases hx with rfl | rfl | rfl <;> decide
        · exact hne x hx)
    unfold pieceL
    rw [hi]
    rw [if_neg (by simp [byteAt]), if_neg (by simp [byteAt]), if_neg (by simp [byteAt]), if_pos (by simp), if_neg (by omega), Int.toNat_natCast]
    have e : ((([92, 117, 123] ++ hexL (dec t).1 ++ [125] ++ r).take ([92, 117, 123] ++ hexL (dec t).1).length)).drop 3 = hexL (dec t).1 := by
      rw [List.append_assoc ([92, 117, 123] ++ hexL (dec t).1), List.take_left]; rfl
    rw [e, hp]
    simp only
    rw [enc_dec t h hs']
    simp
  · rw [if_neg he]
    obtain ⟨hw, hb1⟩ := dec_small t (by omega)
    rw [hw, take1 (by omega), hb1]
    unfold pieceL
    have hn : (UInt8.ofNat (dec t).1).toNat = (dec t).1 := by rw [UInt8.toNat_ofNat']; omega
    rw [if_pos (by
      have : byteAt ([UInt8.ofNat (dec t).1] ++ r) 0 = (dec t).1 := by simp [byteAt]; omega
      rw [this]; omega)]
    rfl
theorem unq_quote : ∀ (k : Nat) (t acc : List UInt8), t.length ≤ k → unqG (quoteG t) acc = some (acc ++ t)
  | 0, t, acc, h => by
    have : t = [] := List.length_eq_zero_iff.1 (by omega)
    subst this; rw [quoteG_nil, unqG_nil, List.append_nil]
  | k + 1, t, acc, h => by
    by_cases h0 : t = []
    · subst h0; rw [quoteG_nil, unqG_nil, List.append_nil]
    have hb := dec_bounds t h0
    have h1 := oneQ_len t h0
    rw [quoteG_step h0]
    rw [unqG_step (fun e => by have h2 := congrArg List.length e; rw [List.length_append, List.length_nil] at h2; omega) (by rw [piece_oneQ t _ h0]; simp only; omega), piece_oneQ t _ h0]
    simp only
    rw [List.drop_left, unq_quote k _ _ (by rw [List.length_drop]; omega), List.append_assoc, List.take_append_drop]
/-- What is in marks is itself again. -/
theorem unquote_quote (x : List UInt8) : unquoteL (quoteL x) = some x := by
  have hl : (quoteL x).length = (quoteG x).length + 2 := by simp [quoteL, quoteG]
  have hm : (List.take ((quoteL x).length - 1) (quoteL x)).drop 1 = quoteG x := by
    rw [hl, show (quoteG x).length + 2 - 1 = ([34] ++ quoteG x).length from by simp]
    rw [show quoteL x = ([34] ++ quoteG x) ++ [34] from rfl, List.take_left]; rfl
  have hz : byteAt (quoteL x) ((quoteL x).length - 1) = 34 := by
    rw [hl, show quoteL x = ([34] ++ quoteG x) ++ [34] from rfl]
    unfold byteAt
    have e : (quoteG x).length + 2 - 1 - ([34] ++ quoteG x : List UInt8).length = 0 := by simp
    rw [List.getElem?_append_right (by simp), e]
    rfl
  rw [unquoteL, if_neg (by
    rw [hz]
    have : byteAt (quoteL x) 0 = 34 := by simp [quoteL, byteAt]
    rw [this]; omega), hm, unq_quote _ x [] (Nat.le_refl _)]
  simp only [List.nil_append]
  rw [if_pos trivial]
theorem unquote_is {q x : List UInt8} (h : unquoteL q = some x) : quoteL x = q := by
  unfold unquoteL at h
  split at h
  · cases h
  · split at h
    · cases h
    · split at h
      · rename_i he; cases h; exact he
      · cases h
end Go.Proofs.YtnfcbpgckomdfaaDoor
