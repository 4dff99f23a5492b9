/- quote.Unquote. -/
import Derived.Test.YtnfcbpgckomdfaaDoorQuote
namespace Go.Proofs.YtnfcbpgckomdfaaDoor
theorem enc_cases (n : Int) : ∃ c : Nat, c = (if Utf8.valid n then n.toNat else Utf8.runeError) ∧ bytesOf (Utf8.encode n) = if c < 128 then [UInt8.ofNat c] else if c < 2048 then [UInt8.ofNat (192 + c / 64), UInt8.ofNat (128 + c % 64)] else if c < 65536 then [UInt8.ofNat (224 + c / 4096), UInt8.ofNat (128 + c / 64 % 64), UInt8.ofNat (128 + c % 64)] else [UInt8.ofNat (240 + c / 262144), UInt8.ofNat (128 + c / 4096 % 64), UInt8.ofNat (128 + c / 64 % 64), UInt8.ofNat (128 + c % 64)] := by
  refine ⟨_, rfl, ?_⟩
  unfold Utf8.encode
  generalize (if Utf8.valid n then n.toNat else Utf8.runeError) = c
  by_cases h1 : c < 128
  · rw [if_pos h1, if_pos h1]; rfl
  · rw [if_neg h1, if_neg h1]
    by_cases h2 : c < 2048
    · rw [if_pos h2, if_pos h2]; rfl
    · rw [if_neg h2, if_neg h2]
      by_cases h3 : c < 65536
      · rw [if_pos h3, if_pos h3]; rfl
      · rw [if_neg h3, if_neg h3]; rfl
theorem encL_cases (n : Nat) : ∃ c : Nat, c = (if Utf8.valid (n : Int) then (n : Int).toNat else Utf8.runeError) ∧ encL n = if c < 128 then [UInt8.ofNat c] else if c < 2048 then [UInt8.ofNat (192 + c / 64), UInt8.ofNat (128 + c % 64)] else if c < 65536 then [UInt8.ofNat (224 + c / 4096), UInt8.ofNat (128 + c / 64 % 64), UInt8.ofNat (128 + c % 64)] else [UInt8.ofNat (240 + c / 262144), UInt8.ofNat (128 + c / 4096 % 64), UInt8.ofNat (128 + c / 64 % 64), UInt8.ofNat (128 + c % 64)] := enc_cases (n : Int)
theorem encL_len (n : Nat) : (encL n).length ≤ 4 := by
  obtain ⟨c, _, h⟩ := encL_cases n
  rw [h]
  split
  · simp
  split
  · simp
  split <;> simp
theorem pieceL_len (s : List UInt8) (h : s ≠ []) : (pieceL s).2 ≤ s.length ∧ (pieceL s).1.length ≤ (pieceL s).2 := by
  have h1 : 0 < s.length := List.length_pos_iff.2 h
  unfold pieceL
  split
  · simp; omega
  split
  · simp; omega
  split
  · split
    · simp; omega
    · simp
  split
  · rename_i h3
    split
    · simp
    · rename_i hi
      have a1 := indexByte_three h3 (by omega)
      have a2 := indexByte_lt s 125
      split
      · rename_i n _
        have := encL_len n
        simp only; omega
      · simp
  · simp
def unqN : Nat → List UInt8 → List UInt8 → Option (List UInt8)
  | 0, _, _ => none
  | k + 1, s, acc => if s = [] then some acc else if (pieceL s).2 = 0 then none else unqN k (s.drop (pieceL s).2) (acc ++ (pieceL s).1)
theorem unqN_fuel : ∀ (k m : Nat) (s acc : List UInt8), s.length < k → s.length < m → unqN k s acc = unqN m s acc
  | 0, _, _, _, h, _ => by omega
  | _, 0, _, _, _, h => by omega
  | k + 1, m + 1, s, acc, h1, h2 => by
    simp only [unqN]
    split
    · rfl
    split
    · rfl
    · rename_i h3 h4
      have := (pieceL_len s h3).1
      exact unqN_fuel k m _ _ (by rw [List.length_drop]; omega) (by rw [List.length_drop]; omega)
def unqG (s acc : List UInt8) : Option (List UInt8) := unqN (s.length + 1) s acc
theorem unqG_nil (acc : List UInt8) : unqG [] acc = some acc := rfl
theorem unqG_bad {s acc : List UInt8} (h : s ≠ []) (h0 : (pieceL s).2 = 0) : unqG s acc = none := by rw [unqG, unqN, if_neg h, if_pos h0]
theorem unqG_step {s acc : List UInt8} (h : s ≠ []) (h0 : (pieceL s).2 ≠ 0) : unqG s acc = unqG (s.drop (pieceL s).2) (acc ++ (pieceL s).1) := by
  have h1 : 0 < s.length := List.length_pos_iff.2 h
  have := (pieceL_len s h).1
  rw [unqG, unqN, if_neg h, if_neg h0, unqG]
  exact unqN_fuel _ _ _ _ (by rw [List.length_drop]; omega) (by rw [List.length_drop]; omega)
/-- The text in marks; none: these are none. -/
def unquoteL (q : List UInt8) : Option (List UInt8) :=
  if q.length < 2 ∨ byteAt q 0 ≠ 34 ∨ byteAt q (q.length - 1) ≠ 34 then none
  else match unqG ((q.take (q.length - 1)).drop 1) [] with
    | none => none
    | some x => if quoteL x = q then some x else none
set_option maxHeartbeats 1600000
set_option maxRecDepth 20000
theorem unquote_spec (q : List UInt8) (hl : q.length ≤ 4398046511104) : Spec Tryd.prog 45 #[.string (str q)] Env [] fun r L => r = openV (unquoteL q) ∧ ∃ L', L = L' := by
  refine Spec.go (vs := [_]) (hT := tyOk) (hm := mixed0) Tryd.func45 rfl Tryd.ntmps45 rfl ?_
  intro W p hF
  refine Good.on ?_
  rw [str_size]
  refine Good.partD (fun h2 => ?_) (fun h2 => ?_) <;> refine Good.on ?_
  · refine Good.ret2 Tryd.results45 (Res.tmp rfl) (Res.tmp rfl) ⟨?_, _, rfl⟩ (fun _ h => h)
    rw [unquoteL, if_pos (.inl (by omega))]; rfl
  obtain ⟨g0, e0⟩ := byteAt_get (bs := q) (k := 0) (by omega)
  refine Good.val (Yv.index rfl rfl rfl rfl rfl (by omega) g0) ?_
  rw [← e0]
  refine Good.on ?_
  refine Good.partB (fun hq0 => ?_) (fun hq0 => ?_) <;> refine Good.on ?_
  · refine Good.ret2 Tryd.results45 (Res.tmp rfl) (Res.tmp rfl) ⟨?_, _, rfl⟩ (fun _ h => h)
    have : byteAt q 0 ≠ 34 := by intro e; rw [e] at hq0; simp at hq0
    rw [unquoteL, if_pos (.inr (.inl this))]; rfl
  have hq0 : byteAt q 0 = 34 := by simp at hq0; omega
  obtain ⟨g1, e1⟩ := byteAt_get (bs := q) (k := q.length - 1) (by omega)
  rw [str_size, show IntKind.i64.wrap ((q.length : Int) - 1) = ((q.length - 1 : Nat) : Int) from by rw [w64 _ (by omega)]; omega]
  refine Good.val (Yv.index rfl rfl rfl rfl rfl (by omega) g1) ?_
  rw [← e1]
  refine Good.on ?_
  refine Good.ifB (fun hq1 => ?_) (fun hq1 => ?_) <;> refine Good.on ?_
  · refine Good.ret2 Tryd.results45 (Res.tmp rfl) (Res.tmp rfl) ⟨?_, _, rfl⟩ (fun _ h => h)
    have : byteAt q (q.length - 1) ≠ 34 := by intro e; rw [e] at hq1; simp at hq1
    rw [unquoteL, if_pos (.inr (.inr this))]; rfl
  have hq1 : byteAt q (q.length - 1) = 34 := by simp at hq1; omega
  have hok : ¬ (q.length < 2 ∨ byteAt q 0 ≠ 34 ∨ byteAt q (q.length - 1) ≠ 34) := by omega
  refine Good.alloc (fun b => ?_)
  refine Good.mem (l' := [bld b []]) (fun w h => Sat.bldNew h) ?_
  refine Good.on ?_
  rw [str_size, show IntKind.i64.wrap ((q.length : Int) - 1) = ((q.length - 1 : Nat) : Int) from by rw [w64 _ (by omega)]; omega]
  refine Good.val (Yv.sliceStr 1 (q.length - 1) rfl rfl rfl rfl rfl rfl ⟨_, rfl⟩ ⟨_, rfl⟩ (by omega) (by omega)) ?_
  refine Good.on ?_
  refine Good.loop (ι := List UInt8 × List UInt8) (fun x => [(0, .v (.string (str q))), (4, .v (.pointer (some ⟨b, 0, none⟩))), (5, .v (.string (str x.1)))]) (fun x => [bld b x.2])
    (fun x => x.2.length + x.1.length ≤ q.length ∧ unqG x.1 x.2 = unqG ((q.take (q.length - 1)).drop 1) []) (fun x => x.1.length) ((q.take (q.length - 1)).drop 1, []) ⟨by simp; omega, rfl⟩ ⟨rfl, rfl, rfl, trivial⟩ (fun _ h => h) ?_
  rintro ⟨s, acc⟩ ⟨hlen, hu⟩
  dsimp only at hlen hu ⊢
  refine Good.on ?_
  rw [str_toList]
  refine Good.ifB (fun h => ?_) (fun h => ?_) <;> refine Good.on ?_
  rotate_left
  · have hs : s = [] := by simpa using h
    subst hs
    rw [unqG_nil] at hu
    refine Good.callP [0] (builderString_spec b acc (by omega)) ck56 ?_
    rintro r L ⟨rfl, rfl⟩
    refine Good.on ?_
    refine Good.callK [] (quote_spec acc (by omega)) stays_env hF ck43 ?_
    rintro r L ⟨rfl, _⟩
    refine Good.mem (fun w h => Sat.dropL h) ?_
    refine Good.on ?_
    rw [str_toList, str_toList]
    refine Good.ifB (fun he => ?_) (fun he => ?_) <;> refine Good.on ?_
    · refine Good.ret2 Tryd.results45 (Res.tmp rfl) (Res.tmp rfl) ⟨?_, _, rfl⟩ (fun _ h => h)
      have : quoteL acc ≠ q := by intro e; rw [e] at he; simp at he
      rw [unquoteL, if_neg hok, ← hu]
      simp only
      rw [if_neg this]; rfl
    · refine Good.callP [0] (builderString_spec b acc (by omega)) ck56 ?_
      rintro r L ⟨rfl, rfl⟩
      refine Good.on ?_
      refine Good.ret2 Tryd.results45 (Res.tmp rfl) (Res.tmp rfl) ⟨?_, _, rfl⟩ (fun _ h => h)
      have : quoteL acc = q := by simpa using he
      rw [unquoteL, if_neg hok, ← hu]
      simp only
      rw [if_pos this]; rfl
  have hs : s ≠ [] := by intro e; subst e; simp at h
  have hpl := pieceL_len s hs
  refine Good.callK [] (piece_spec s hs (by omega)) stays_env hF ck78 ?_
  rintro r L ⟨rfl, _⟩
  refine Good.mem (fun w h => Sat.dropL h) ?_
  refine Good.on ?_
  refine Good.ifB (fun hn => ?_) (fun hn => ?_) <;> refine Good.on ?_
  · refine Good.ret2 Tryd.results45 (Res.tmp rfl) (Res.tmp rfl) ⟨?_, _, rfl⟩ (fun _ h => h)
    have h0 : (pieceL s).2 = 0 := by simp at hn; omega
    rw [unqG_bad hs h0] at hu
    rw [unquoteL, if_neg hok, ← hu]; rfl
  · have h0 : (pieceL s).2 ≠ 0 := by intro e; rw [e] at hn; simp at hn
    rw [unqG_step hs h0] at hu
    refine Good.callP [0] (writeString_spec b acc (pieceL s).1 (by omega)) ck55 ?_
    rintro r L ⟨rfl, rfl⟩
    refine Good.on ?_
    refine Good.val (Yv.sliceStr (pieceL s).2 s.length rfl rfl rfl rfl rfl rfl ⟨_, rfl⟩ rfl (by omega) (by omega)) ?_
    rw [List.take_length]
    refine Good.on ?_
    refine Good.again (s.drop (pieceL s).2, acc ++ (pieceL s).1) ⟨⟨by simp; omega, hu⟩, by simp; omega⟩ ⟨rfl, rfl, rfl, trivial⟩ (fun _ h => h)
end Go.Proofs.YtnfcbpgckomdfaaDoor
