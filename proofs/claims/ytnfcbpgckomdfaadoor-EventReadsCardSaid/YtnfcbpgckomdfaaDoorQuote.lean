/- quote.Quote. -/
import Derived.Test.YtnfcbpgckomdfaaDoorQuoP
namespace Go.Proofs.YtnfcbpgckomdfaaDoor
/-- A sign in marks. -/
def oneQ (t : List UInt8) : List UInt8 :=
  if strayB t then [92, 120] ++ hexL (byteAt t 0)
  else if (dec t).1 = 34 ∨ (dec t).1 = 92 then [92, UInt8.ofNat (dec t).1]
  else if (dec t).1 < 32 ∨ 126 < (dec t).1 then [92, 117, 123] ++ hexL (dec t).1 ++ [125]
  else [UInt8.ofNat (dec t).1]
def quoteN : Nat → List UInt8 → List UInt8
  | 0, _ => []
  | k + 1, t => if t = [] then [] else oneQ t ++ quoteN k (t.drop (dec t).2)
/-- A text in marks. -/
def quoteL (bs : List UInt8) : List UInt8 := [34] ++ quoteN bs.length bs ++ [34]
theorem quoteN_fuel : ∀ (k m : Nat) (t : List UInt8), t.length ≤ k → t.length ≤ m → quoteN k t = quoteN m t
  | 0, 0, _, _, _ => rfl
  | 0, m + 1, t, h, _ => by
    have : t = [] := List.length_eq_zero_iff.1 (by omega)
    subst this; simp [quoteN]
  | k + 1, 0, t, _, h => by
    have : t = [] := List.length_eq_zero_iff.1 (by omega)
    subst this; simp [quoteN]
  | k + 1, m + 1, t, h1, h2 => by
    simp only [quoteN]
    split
    · rfl
    · rename_i h
      have := dec_bounds t h
      rw [quoteN_fuel k m (t.drop (dec t).2) (by rw [List.length_drop]; omega) (by rw [List.length_drop]; omega)]
def quoteG (t : List UInt8) : List UInt8 := quoteN t.length t
theorem quoteG_nil : quoteG [] = [] := rfl
theorem quoteG_step {t : List UInt8} (h : t ≠ []) : quoteG t = oneQ t ++ quoteG (t.drop (dec t).2) := by
  have hb := dec_bounds t h
  have hl : 0 < t.length := List.length_pos_iff.2 h
  unfold quoteG
  obtain ⟨k, hk⟩ : ∃ k, t.length = k + 1 := ⟨t.length - 1, by omega⟩
  rw [hk, quoteN, if_neg h, quoteN_fuel k (t.drop (dec t).2).length (t.drop (dec t).2) (by rw [List.length_drop]; omega) (Nat.le_refl _)]
theorem oneQ_len (t : List UInt8) (h : t ≠ []) : 1 ≤ (oneQ t).length ∧ (oneQ t).length ≤ 10 := by
  have hb := dec_bounds t h
  have h0 := byteAt_lt t 0
  have x1 := hexL_len 5 (byteAt t 0) (by omega)
  have x2 := hexL_len 5 (dec t).1 (by omega)
  unfold oneQ
  repeat' split
  all_goals simp
  all_goals omega
theorem quoteN_len : ∀ (k : Nat) (t : List UInt8), (quoteN k t).length ≤ 10 * t.length
  | 0, t => by simp [quoteN]
  | k + 1, t => by
    rw [quoteN]
    split
    · simp
    · rename_i h
      have hb := dec_bounds t h
      have := quoteN_len k (t.drop (dec t).2)
      have h1 := oneQ_len t h
      rw [List.length_drop] at this
      rw [List.length_append]; omega
theorem quoteL_len (bs : List UInt8) : (quoteL bs).length ≤ 10 * bs.length + 2 := by
  have := quoteN_len bs.length bs
  simp only [quoteL, List.length_append, List.length_singleton]; omega
set_option maxHeartbeats 1600000
set_option maxRecDepth 20000
theorem escaped_spec (c : Nat) : Spec Tryd.prog 77 #[.int .i32 (c : Int)] noFacts [] fun r L => r = .bool (decide (c < 32 ∨ 126 < c)) ∧ L = [] := by
  refine Spec.go (vs := [_]) (hT := tyOk) (hm := mixed0) Tryd.func77 rfl Tryd.ntmps77 rfl ?_
  intro W p _
  refine Good.on ?_
  refine Good.partD (fun h => ?_) (fun h => ?_) <;> refine Good.on ?_
  · refine Good.ret1 Tryd.results77 (Res.tmp rfl) ⟨?_, rfl⟩ (fun _ h => h)
    have : (c < 32 ∨ 126 < c) := by omega
    simp [this]
  · refine Good.ret1 Tryd.results77 (Res.tmp rfl) ⟨?_, rfl⟩ (fun _ h => h)
    congr 1
    rw [decide_eq_decide]; omega
theorem i64w (n : Nat) (h : n < 9223372036854775808) : IntKind.i64.wrap (n : Int) = (n : Int) := w64 _ (by omega)
theorem quote_spec (bs : List UInt8) (hl : bs.length ≤ 4398046511104) : Spec Tryd.prog 43 #[.string (str bs)] Env [] fun r L => r = .string (str (quoteL bs)) ∧ ∃ L', L = L' := by
  refine Spec.go (vs := [_]) (hT := tyOk) (hm := mixed0) Tryd.func43 rfl Tryd.ntmps43 rfl ?_
  intro W p hF
  refine Good.on ?_
  refine Good.alloc (fun b => ?_)
  refine Good.mem (l' := [bld b []]) (fun w h => Sat.bldNew h) ?_
  refine Good.on ?_
  refine Good.callP [0] (writeByte_spec b [] 34 (by simp)) ck73 ?_
  rintro r L ⟨rfl, rfl⟩
  refine Good.on ?_
  refine Good.range fun it => ?_
  refine Good.on ?_
  refine Good.loop (ι := Nat × List UInt8) (fun x => [(0, .v (.string (str bs))), (3, .v (.pointer (some ⟨b, 0, none⟩))), (8, .v (.pointer (some ⟨it, 0, none⟩)))]) (fun x => [iter it bs x.1, bld b x.2])
    (fun x => x.1 ≤ bs.length ∧ x.2.length ≤ 1 + 10 * x.1 ∧ x.2 ++ quoteG (bs.drop x.1) = [34] ++ quoteG bs) (fun x => bs.length - x.1) (0, [34]) ⟨by simp, by simp, rfl⟩ ⟨rfl, rfl, rfl, trivial⟩ (fun _ h => h) ?_
  rintro ⟨i, acc⟩ ⟨hi, hacc, hq⟩
  dsimp only at hi hacc hq ⊢
  refine Good.on ?_
  by_cases hlt : i < bs.length
  rotate_left
  · refine Good.nextEnd 0 (bs := bs) (pos := i) (by omega) ?_
    refine Good.on ?_
    (refine Good.ifB (fun h => ?_) (fun h => ?_); exact absurd h (by decide))
    refine Good.on ?_
    refine Good.callP [1] (writeByte_spec b acc 34 (by omega)) ck73 ?_
    rintro r L ⟨rfl, rfl⟩
    refine Good.on ?_
    refine Good.callP [0] (builderString_spec b (acc ++ [34]) (by simp; omega)) ck56 ?_
    rintro r L ⟨rfl, rfl⟩
    refine Good.on ?_
    refine Good.ret1 Tryd.results43 (Res.tmp rfl) ⟨?_, _, rfl⟩ (fun _ h => h)
    rw [List.drop_eq_nil_of_le (by omega), quoteG_nil, List.append_nil] at hq
    rw [hq]; rfl
  refine Good.next 0 hlt ?_
  rw [decode_eq]
  have hne : bs.drop i ≠ [] := by intro h0; have := congrArg List.length h0; simp at this; omega
  have hb := dec_bounds _ hne
  rw [List.length_drop] at hb
  rw [quoteG_step hne, List.drop_drop] at hq
  have h1 := oneQ_len _ hne
  refine Good.on ?_
  (refine Good.ifB (fun h => ?_) (fun h => ?_); rotate_left; exact absurd h (by decide))
  refine Good.on ?_
  refine Good.callK [] (stray_spec bs i hlt (by omega)) stays_utf hF.utf ck74 ?_
  rintro r L ⟨rfl, rfl⟩
  refine Good.on ?_
  refine Good.ifB (fun hs => ?_) (fun hs => ?_) <;> refine Good.on ?_
  · obtain ⟨g0, e0⟩ := byteAt_get (bs := bs) hlt
    refine Good.val (Yv.index rfl rfl rfl rfl rfl (by omega) g0) ?_
    rw [← e0]
    refine Good.on ?_
    have hbi := byteAt_lt bs i
    rw [i64w (byteAt bs i) (by omega)]
    refine Good.callK [] (formatInt_spec (byteAt bs i) (by omega)) stays_env hF ck75 ?_
    rintro r L ⟨rfl, A, rfl⟩
    refine Good.mem (fun w h => Sat.dropL h) ?_
    have hx := hexL_len 1 (byteAt bs i) (by omega)
    refine Good.on ?_
    refine Good.val (Yv.concat (a := [92, 120]) (b := hexL (byteAt bs i)) rfl rfl rfl (by simp; omega)) ?_
    refine Good.on ?_
    have e1 : [92, 120] ++ hexL (byteAt bs i) = oneQ (bs.drop i) := by
      unfold oneQ; rw [if_pos hs]
      congr 2
      unfold byteAt; rw [List.getElem?_drop]; rfl
    rw [e1]
    refine Good.callP [1] (writeString_spec b acc (oneQ (bs.drop i)) (by omega)) ck55 ?_
    rintro r L ⟨rfl, rfl⟩
    refine Good.on ?_
    refine Good.again (i + (dec (bs.drop i)).2, acc ++ oneQ (bs.drop i)) ⟨⟨by dsimp only; omega, by dsimp only; rw [List.length_append]; omega, by dsimp only; rw [List.append_assoc]; exact hq⟩, by dsimp only; omega⟩ ⟨rfl, rfl, rfl, trivial⟩ (fun w h => ?_)
    exact h.perm (List.Perm.swap _ _ _)
  · refine Good.partB (fun h34 => ?_) (fun h34 => ?_) <;> refine Good.on ?_
    · have h34 : (dec (bs.drop i)).1 = 34 := by simp at h34; omega
      have e1 : oneQ (bs.drop i) = [92] ++ [UInt8.ofNat (dec (bs.drop i)).1] := by unfold oneQ; rw [if_neg (by simp [hs]), if_pos (.inl h34)]; rfl
      refine Good.callP [1] (writeByte_spec b acc 92 (by omega)) ck73 ?_
      rintro r L ⟨rfl, rfl⟩
      refine Good.on ?_
      refine Good.callP [0] (writeRune_spec b (acc ++ [92]) (dec (bs.drop i)).1 (by omega) (by simp; omega)) ck76 ?_
      rintro r L rfl
      rw [List.append_assoc, ← e1]
      refine Good.on ?_
      refine Good.again (i + (dec (bs.drop i)).2, acc ++ oneQ (bs.drop i)) ⟨⟨by dsimp only; omega, by dsimp only; rw [List.length_append]; omega, by dsimp only; rw [List.append_assoc]; exact hq⟩, by dsimp only; omega⟩ ⟨rfl, rfl, rfl, trivial⟩ (fun w h => ?_)
      exact h.perm (List.Perm.swap _ _ _)
    refine Good.ifB (fun h92 => ?_) (fun h92 => ?_) <;> refine Good.on ?_
    · have h92 : (dec (bs.drop i)).1 = 92 := by simp at h92; omega
      have e1 : oneQ (bs.drop i) = [92] ++ [UInt8.ofNat (dec (bs.drop i)).1] := by unfold oneQ; rw [if_neg (by simp [hs]), if_pos (.inr h92)]; rfl
      refine Good.callP [1] (writeByte_spec b acc 92 (by omega)) ck73 ?_
      rintro r L ⟨rfl, rfl⟩
      refine Good.on ?_
      refine Good.callP [0] (writeRune_spec b (acc ++ [92]) (dec (bs.drop i)).1 (by omega) (by simp; omega)) ck76 ?_
      rintro r L rfl
      rw [List.append_assoc, ← e1]
      refine Good.on ?_
      refine Good.again (i + (dec (bs.drop i)).2, acc ++ oneQ (bs.drop i)) ⟨⟨by dsimp only; omega, by dsimp only; rw [List.length_append]; omega, by dsimp only; rw [List.append_assoc]; exact hq⟩, by dsimp only; omega⟩ ⟨rfl, rfl, rfl, trivial⟩ (fun w h => ?_)
      exact h.perm (List.Perm.swap _ _ _)
    have h34 : (dec (bs.drop i)).1 ≠ 34 := by intro e; rw [e] at h34; simp at h34
    have h92 : (dec (bs.drop i)).1 ≠ 92 := by intro e; rw [e] at h92; simp at h92
    refine Good.callP [] (escaped_spec (dec (bs.drop i)).1) ck77 ?_
    rintro r L ⟨rfl, rfl⟩
    refine Good.on ?_
    refine Good.ifD (fun he => ?_) (fun he => ?_) <;> refine Good.on ?_
    · rw [i64w (dec (bs.drop i)).1 (by omega)]
      refine Good.callK [] (formatInt_spec (dec (bs.drop i)).1 (by omega)) stays_env hF ck75 ?_
      rintro r L ⟨rfl, A, rfl⟩
      refine Good.mem (fun w h => Sat.dropL h) ?_
      have hx := hexL_len 5 (dec (bs.drop i)).1 (by omega)
      refine Good.on ?_
      refine Good.val (Yv.concat (a := [92, 117, 123]) (b := hexL (dec (bs.drop i)).1) rfl rfl rfl (by simp; omega)) ?_
      refine Good.on ?_
      refine Good.val (Yv.concat (a := [92, 117, 123] ++ hexL (dec (bs.drop i)).1) (b := [125]) rfl rfl rfl (by simp; omega)) ?_
      refine Good.on ?_
      have e1 : [92, 117, 123] ++ hexL (dec (bs.drop i)).1 ++ [125] = oneQ (bs.drop i) := by
        unfold oneQ; rw [if_neg (by simp [hs]), if_neg (by omega), if_pos he]
      rw [e1]
      refine Good.callP [1] (writeString_spec b acc (oneQ (bs.drop i)) (by omega)) ck55 ?_
      rintro r L ⟨rfl, rfl⟩
      refine Good.on ?_
      refine Good.again (i + (dec (bs.drop i)).2, acc ++ oneQ (bs.drop i)) ⟨⟨by dsimp only; omega, by dsimp only; rw [List.length_append]; omega, by dsimp only; rw [List.append_assoc]; exact hq⟩, by dsimp only; omega⟩ ⟨rfl, rfl, rfl, trivial⟩ (fun w h => ?_)
      exact h.perm (List.Perm.swap _ _ _)
    · have e1 : oneQ (bs.drop i) = [UInt8.ofNat (dec (bs.drop i)).1] := by
        unfold oneQ; rw [if_neg (by simp [hs]), if_neg (by omega), if_neg he]
      refine Good.callP [1] (writeRune_spec b acc (dec (bs.drop i)).1 (by omega) (by omega)) ck76 ?_
      rintro r L rfl
      rw [← e1]
      refine Good.on ?_
      refine Good.again (i + (dec (bs.drop i)).2, acc ++ oneQ (bs.drop i)) ⟨⟨by dsimp only; omega, by dsimp only; rw [List.length_append]; omega, by dsimp only; rw [List.append_assoc]; exact hq⟩, by dsimp only; omega⟩ ⟨rfl, rfl, rfl, trivial⟩ (fun w h => ?_)
      exact h.perm (List.Perm.swap _ _ _)
end Go.Proofs.YtnfcbpgckomdfaaDoor
