/- strconv.ParseUint to the base 16. -/
import Derived.Test.YtnfcbpgckomdfaaDoorPu
namespace Go.Proofs.YtnfcbpgckomdfaaDoor
open Go.Lib (strCells)
/-- A sign's worth as a digit. -/
def digN (c : Nat) : Option Nat := if 48 ≤ c ∧ c ≤ 57 then some (c - 48) else if 97 ≤ c ||| 32 ∧ c ||| 32 ≤ 122 then some ((c ||| 32) - 97 + 10) else none
def puGo (mx : Nat) (acc : Nat) : List UInt8 → Option Nat
  | [] => some acc
  | c :: r => match digN c.toNat with
    | none => none
    | some d => if 16 ≤ d then none else if mx < acc * 16 + d then none else puGo mx (acc * 16 + d) r
/-- The number of a text to the base 16, no greater than so; none: it is none. -/
def pu16 (mx : Nat) (bs : List UInt8) : Option Nat := if bs = [] then none else puGo mx 0 bs
/-- What the reading answers: the number; or an error. -/
def puR (x : Option Nat) (r : Value) : Prop := match x with
  | some n => r = .tuple #[.int .u64 (n : Int), .nilIface]
  | none => ∃ m k, (k = 1 ∨ k = 2) ∧ r = .tuple #[.int .u64 m, errV k]
set_option maxHeartbeats 1600000
set_option maxRecDepth 20000
theorem lower_spec (c : Nat) (hc : c < 256) : Spec Tryd.prog 141 #[.int .u8 (c : Int)] noFacts [] fun r L => r = .int .u8 ((c ||| 32 : Nat) : Int) ∧ L = [] := by
  refine Spec.go (vs := [_]) (hT := tyOk) (hm := mixed0) Tryd.func141 rfl Tryd.ntmps141 rfl ?_
  intro W p _
  refine Good.on ?_
  refine Good.ret1 Tryd.results141 (Res.tmp rfl) ⟨?_, rfl⟩ (fun _ h => h)
  have := orU (k := .u8) rfl c 32 (by simpa [IntKind.bits] using hc) (by decide)
  exact congrArg (Value.int .u8) this
theorem or32_lt {c : Nat} (h : c < 256) : c ||| 32 < 256 := Nat.or_lt_two_pow (n := 8) h (by decide)
theorem u8w (n : Nat) (h : n < 256) : IntKind.u8.wrap (n : Int) = (n : Int) := wrapU rfl n (by simpa [IntKind.bits] using h)
theorem u64w (n : Nat) (h : n < 18446744073709551616) : IntKind.u64.wrap (n : Int) = (n : Int) := wrapU rfl n (by simp only [IntKind.bits]; omega)
theorem iParseUint_spec (bs : List UInt8) (b : Nat) (mx : Nat) (hb : 0 < b ∧ b < 40) (hmx : mx + 1 = 2 ^ b) (hl : bs.length ≤ 140737488355328) : Spec Tryd.prog 123 #[.string (str bs), .int .i64 16, .int .i64 (b : Int)] noFacts [] fun r _ => puR (pu16 mx bs) r := by
  refine Spec.go (vs := [_, _, _]) (hT := tyOk) (hm := mixed0) Tryd.func123 rfl Tryd.ntmps123 rfl ?_
  intro W p _
  refine Good.on ?_
  rw [str_toList]
  refine Good.ifB (fun h => ?_) (fun h => ?_) <;> refine Good.on ?_
  · refine Good.ret2 Tryd.results123 (Res.tmp rfl) (Res.tmp rfl) ?_ (fun _ h => h)
    have : bs = [] := by simpa using h
    rw [pu16, if_pos this]
    exact ⟨0, 2, .inr rfl, rfl⟩
  have h0 : bs ≠ [] := by intro e; subst e; simp at h
  (refine Good.partB (fun h => ?_) (fun h => ?_); rotate_left; exact absurd h (by decide))
  refine Good.on ?_
  (refine Good.ifB (fun h => ?_) (fun h => ?_); rotate_left; exact absurd h (by decide))
  refine Good.on ?_
  refine Good.ifB (fun h => ?_) (fun _ => ?_)
  · simp at h; omega
  refine Good.on ?_
  refine Good.partB (fun h => ?_) (fun _ => ?_)
  · simp at h; omega
  refine Good.on ?_
  refine Good.ifB (fun h => ?_) (fun _ => ?_)
  · simp at h; omega
  refine Good.on ?_
  (refine Good.ifB (fun h => ?_) (fun h => ?_); exact absurd h (by decide))
  refine Good.on ?_
  (refine Good.ifB (fun h => ?_) (fun h => ?_); rotate_left; exact absurd h (by decide))
  refine Good.on ?_
  have hpow : (2 : Nat) ^ b ≤ 2 ^ 40 := Nat.pow_le_pow_right (by omega) (by omega)
  have h40 : (2 : Nat) ^ 40 = 1099511627776 := by decide
  rw [u64w b (by omega)]
  refine Good.val (Yv.bin (z := .int .u64 ((2 ^ b : Nat) : Int)) rfl rfl rfl ?_) ?_
  · have hd : decide ((b : Int) < 0) = false := by simp
    simp only [Ent.val, binE, isShift, intShift, hd]
    rw [show min (b : Int).toNat IntKind.u64.bits = b from by simp only [IntKind.bits]; omega]
    congr 2
    rw [show ((1 : Int) * 2 ^ b) = ((2 ^ b : Nat) : Int) from by simp]
    exact u64w _ (by omega)
  refine Good.on ?_
  rw [show IntKind.u64.wrap (((2 ^ b : Nat) : Int) - 1) = (mx : Int) from by rw [← hmx, show ((mx + 1 : Nat) : Int) - 1 = (mx : Int) from by omega]; exact u64w _ (by omega)]
  refine Good.strBytes fun g cap hcap => ?_
  refine Good.on ?_
  refine Good.loop (ι := Nat × Nat) (fun x => [(1, .v (.int .i64 16)), (8, .f), (10, .v (.int .u64 1152921504606846976)), (11, .v (.int .u64 mx)), (12, .f), (13, .v (.int .u64 (x.2 : Int))), (99, .v (.slice (some ⟨g, 0, none⟩) bs.length cap)), (100, .v (.int .i64 bs.length)), (101, .v (.int .i64 (x.1 : Int)))]) (fun _ => [rawB 5 g cap bs])
    (fun x => x.1 ≤ bs.length ∧ x.2 ≤ mx ∧ puGo mx x.2 (bs.drop x.1) = puGo mx 0 bs) (fun x => bs.length - x.1) (0, 0) ⟨by simp, by simp, rfl⟩ ⟨rfl, rfl, rfl, rfl, rfl, rfl, rfl, rfl, rfl, trivial⟩ (fun _ h => h) ?_
  rintro ⟨i, acc⟩ ⟨hi, hacc, hg⟩
  dsimp only at hi hacc hg ⊢
  refine Good.on ?_
  refine Good.ifD (fun h => ?_) (fun h => ?_) <;> refine Good.on ?_
  rotate_left
  · have hd : bs.drop i = [] := List.drop_eq_nil_of_le (by omega)
    rw [hd] at hg
    refine Good.ret2 Tryd.results123 (Res.tmp rfl) (Res.tmp rfl) ?_ (fun _ h => h)
    rw [pu16, if_neg h0, ← hg]; rfl
  have hi' : i < bs.length := by omega
  obtain ⟨c, hc⟩ : ∃ c, bs[i]? = some c := ⟨_, List.getElem?_eq_getElem hi'⟩
  have hd : bs.drop i = c :: bs.drop (i + 1) := by
    rw [List.drop_eq_getElem_cons hi']; congr 1
    rw [List.getElem?_eq_getElem hi'] at hc; exact Option.some.inj hc
  rw [hd] at hg
  have hcb : c.toNat < 256 := UInt8.toNat_lt c
  have hlo := or32_lt hcb
  refine Good.val (Yv.indexAddr rfl rfl rfl rfl rfl rfl (by omega) (by omega)) ?_
  refine Good.on ?_
  refine Good.loadRaw 0 (b := c) ?_ ?_
  · simpa [ti5] using hc
  refine Good.on ?_
  refine Good.partB (fun h95 => ?_) (fun h95 => ?_) <;> refine Good.on ?_
  all_goals
    refine Good.partD (fun h48 => ?_) (fun h48 => ?_) <;> refine Good.on ?_
    · refine Good.ifD (fun h57 => ?_) (fun h57 => ?_) <;> refine Good.on ?_
      · obtain ⟨d, hdig, hd36, hw⟩ : ∃ d, digN c.toNat = some d ∧ d < 36 ∧ IntKind.u8.wrap ((c.toNat : Int) - 48) = (d : Int) := ⟨c.toNat - 48, by rw [digN, if_pos (by omega)], by omega, by
          rw [show (c.toNat : Int) - 48 = ((c.toNat - 48 : Nat) : Int) from by omega]; exact u8w _ (by omega)⟩
        rw [hw]
        refine Good.ifD (fun h16 => ?_) (fun h16 => ?_) <;> refine Good.on ?_
        · refine Good.ret2 Tryd.results123 (Res.tmp rfl) (Res.tmp rfl) ?_ (fun _ h => h)
          rw [show IntKind.u8.wrap 16 = 16 from rfl] at h16
          rw [pu16, if_neg h0, ← hg, puGo, hdig]
          simp only
          rw [if_pos (by omega)]
          exact ⟨_, 2, .inr rfl, rfl⟩
        rw [show IntKind.u8.wrap 16 = 16 from rfl] at h16
        refine Good.ifD (fun hcut => ?_) (fun hcut => ?_)
        · omega
        refine Good.on ?_
        rw [show IntKind.u64.wrap 16 = 16 from rfl, show IntKind.u64.wrap ((acc : Int) * 16) = ((acc * 16 : Nat) : Int) from by have := u64w (acc * 16) (by omega); simpa using this, u64w d (by omega), show IntKind.u64.wrap (((acc * 16 : Nat) : Int) + (d : Int)) = ((acc * 16 + d : Nat) : Int) from by have := u64w (acc * 16 + d) (by omega); simpa using this]
        refine Good.partD (fun hov => ?_) (fun hov => ?_)
        · omega
        refine Good.on ?_
        refine Good.ifD (fun hmax => ?_) (fun hmax => ?_) <;> refine Good.on ?_
        · refine Good.ret2 Tryd.results123 (Res.tmp rfl) (Res.tmp rfl) ?_ (fun _ h => h)
          rw [pu16, if_neg h0, ← hg, puGo, hdig]
          simp only
          rw [if_neg (by omega), if_pos (by omega)]
          exact ⟨_, 1, .inl rfl, rfl⟩
        · refine Good.again (i + 1, acc * 16 + d) ⟨⟨by dsimp only; omega, by dsimp only; omega, ?_⟩, by dsimp only; omega⟩ ⟨rfl, rfl, rfl, rfl, rfl, rfl, rfl, rfl, ?_, trivial⟩ (fun _ h => h)
          · dsimp only
            rw [← hg, puGo, hdig]
            simp only
            rw [if_neg (by omega), if_neg (by omega)]
          · show some (Value.int .i64 _) = _
            rw [w64 _ (by omega)]; rfl
      · refine Good.callP [] (lower_spec c.toNat hcb) ck141 ?_
        rintro r L ⟨rfl, rfl⟩
        refine Good.on ?_
        refine Good.partD (fun h97 => ?_) (fun h97 => ?_) <;> refine Good.on ?_
        · refine Good.callP [] (lower_spec c.toNat hcb) ck141 ?_
          rintro r L ⟨rfl, rfl⟩
          refine Good.on ?_
          refine Good.ifD (fun h122 => ?_) (fun h122 => ?_) <;> refine Good.on ?_
          · refine Good.callP [] (lower_spec c.toNat hcb) ck141 ?_
            rintro r L ⟨rfl, rfl⟩
            obtain ⟨d, hdig, hd36, hw⟩ : ∃ d, digN c.toNat = some d ∧ d < 36 ∧ IntKind.u8.wrap (IntKind.u8.wrap (((c.toNat ||| 32 : Nat) : Int) - 97) + 10) = (d : Int) := ⟨(c.toNat ||| 32) - 97 + 10, by rw [digN, if_neg (by omega), if_pos (by omega)], by omega, by
              rw [show ((c.toNat ||| 32 : Nat) : Int) - 97 = (((c.toNat ||| 32) - 97 : Nat) : Int) from by omega, u8w _ (by omega)]
              exact u8w ((c.toNat ||| 32) - 97 + 10) (by omega)⟩
            refine Good.on ?_
            rw [hw]
            refine Good.ifD (fun h16 => ?_) (fun h16 => ?_) <;> refine Good.on ?_
            · refine Good.ret2 Tryd.results123 (Res.tmp rfl) (Res.tmp rfl) ?_ (fun _ h => h)
              rw [show IntKind.u8.wrap 16 = 16 from rfl] at h16
              rw [pu16, if_neg h0, ← hg, puGo, hdig]
              simp only
              rw [if_pos (by omega)]
              exact ⟨_, 2, .inr rfl, rfl⟩
            rw [show IntKind.u8.wrap 16 = 16 from rfl] at h16
            refine Good.ifD (fun hcut => ?_) (fun hcut => ?_)
            · omega
            refine Good.on ?_
            rw [show IntKind.u64.wrap 16 = 16 from rfl, show IntKind.u64.wrap ((acc : Int) * 16) = ((acc * 16 : Nat) : Int) from by have := u64w (acc * 16) (by omega); simpa using this, u64w d (by omega), show IntKind.u64.wrap (((acc * 16 : Nat) : Int) + (d : Int)) = ((acc * 16 + d : Nat) : Int) from by have := u64w (acc * 16 + d) (by omega); simpa using this]
            refine Good.partD (fun hov => ?_) (fun hov => ?_)
            · omega
            refine Good.on ?_
            refine Good.ifD (fun hmax => ?_) (fun hmax => ?_) <;> refine Good.on ?_
            · refine Good.ret2 Tryd.results123 (Res.tmp rfl) (Res.tmp rfl) ?_ (fun _ h => h)
              rw [pu16, if_neg h0, ← hg, puGo, hdig]
              simp only
              rw [if_neg (by omega), if_pos (by omega)]
              exact ⟨_, 1, .inl rfl, rfl⟩
            · refine Good.again (i + 1, acc * 16 + d) ⟨⟨by dsimp only; omega, by dsimp only; omega, ?_⟩, by dsimp only; omega⟩ ⟨rfl, rfl, rfl, rfl, rfl, rfl, rfl, rfl, ?_, trivial⟩ (fun _ h => h)
              · dsimp only
                rw [← hg, puGo, hdig]
                simp only
                rw [if_neg (by omega), if_neg (by omega)]
              · show some (Value.int .i64 _) = _
                rw [w64 _ (by omega)]; rfl
          · refine Good.ret2 Tryd.results123 (Res.tmp rfl) (Res.tmp rfl) ?_ (fun _ h => h)
            rw [pu16, if_neg h0, ← hg, puGo, digN, if_neg (by omega), if_neg (by omega)]
            exact ⟨_, 2, .inr rfl, rfl⟩
        · refine Good.ret2 Tryd.results123 (Res.tmp rfl) (Res.tmp rfl) ?_ (fun _ h => h)
          rw [pu16, if_neg h0, ← hg, puGo, digN, if_neg (by omega), if_neg (by omega)]
          exact ⟨_, 2, .inr rfl, rfl⟩
    · refine Good.callP [] (lower_spec c.toNat hcb) ck141 ?_
      rintro r L ⟨rfl, rfl⟩
      refine Good.on ?_
      refine Good.partD (fun h97 => ?_) (fun h97 => ?_) <;> refine Good.on ?_
      · refine Good.callP [] (lower_spec c.toNat hcb) ck141 ?_
        rintro r L ⟨rfl, rfl⟩
        refine Good.on ?_
        refine Good.ifD (fun h122 => ?_) (fun h122 => ?_) <;> refine Good.on ?_
        · refine Good.callP [] (lower_spec c.toNat hcb) ck141 ?_
          rintro r L ⟨rfl, rfl⟩
          obtain ⟨d, hdig, hd36, hw⟩ : ∃ d, digN c.toNat = some d ∧ d < 36 ∧ IntKind.u8.wrap (IntKind.u8.wrap (((c.toNat ||| 32 : Nat) : Int) - 97) + 10) = (d : Int) := ⟨(c.toNat ||| 32) - 97 + 10, by rw [digN, if_neg (by omega), if_pos (by omega)], by omega, by
            rw [show ((c.toNat ||| 32 : Nat) : Int) - 97 = (((c.toNat ||| 32) - 97 : Nat) : Int) from by omega, u8w _ (by omega)]
            exact u8w ((c.toNat ||| 32) - 97 + 10) (by omega)⟩
          refine Good.on ?_
          rw [hw]
          refine Good.ifD (fun h16 => ?_) (fun h16 => ?_) <;> refine Good.on ?_
          · refine Good.ret2 Tryd.results123 (Res.tmp rfl) (Res.tmp rfl) ?_ (fun _ h => h)
            rw [show IntKind.u8.wrap 16 = 16 from rfl] at h16
            rw [pu16, if_neg h0, ← hg, puGo, hdig]
            simp only
            rw [if_pos (by omega)]
            exact ⟨_, 2, .inr rfl, rfl⟩
          rw [show IntKind.u8.wrap 16 = 16 from rfl] at h16
          refine Good.ifD (fun hcut => ?_) (fun hcut => ?_)
          · omega
          refine Good.on ?_
          rw [show IntKind.u64.wrap 16 = 16 from rfl, show IntKind.u64.wrap ((acc : Int) * 16) = ((acc * 16 : Nat) : Int) from by have := u64w (acc * 16) (by omega); simpa using this, u64w d (by omega), show IntKind.u64.wrap (((acc * 16 : Nat) : Int) + (d : Int)) = ((acc * 16 + d : Nat) : Int) from by have := u64w (acc * 16 + d) (by omega); simpa using this]
          refine Good.partD (fun hov => ?_) (fun hov => ?_)
          · omega
          refine Good.on ?_
          refine Good.ifD (fun hmax => ?_) (fun hmax => ?_) <;> refine Good.on ?_
          · refine Good.ret2 Tryd.results123 (Res.tmp rfl) (Res.tmp rfl) ?_ (fun _ h => h)
            rw [pu16, if_neg h0, ← hg, puGo, hdig]
            simp only
            rw [if_neg (by omega), if_pos (by omega)]
            exact ⟨_, 1, .inl rfl, rfl⟩
          · refine Good.again (i + 1, acc * 16 + d) ⟨⟨by dsimp only; omega, by dsimp only; omega, ?_⟩, by dsimp only; omega⟩ ⟨rfl, rfl, rfl, rfl, rfl, rfl, rfl, rfl, ?_, trivial⟩ (fun _ h => h)
            · dsimp only
              rw [← hg, puGo, hdig]
              simp only
              rw [if_neg (by omega), if_neg (by omega)]
            · show some (Value.int .i64 _) = _
              rw [w64 _ (by omega)]; rfl
        · refine Good.ret2 Tryd.results123 (Res.tmp rfl) (Res.tmp rfl) ?_ (fun _ h => h)
          rw [pu16, if_neg h0, ← hg, puGo, digN, if_neg (by omega), if_neg (by omega)]
          exact ⟨_, 2, .inr rfl, rfl⟩
      · refine Good.ret2 Tryd.results123 (Res.tmp rfl) (Res.tmp rfl) ?_ (fun _ h => h)
        rw [pu16, if_neg h0, ← hg, puGo, digN, if_neg (by omega), if_neg (by omega)]
        exact ⟨_, 2, .inr rfl, rfl⟩
end Go.Proofs.YtnfcbpgckomdfaaDoor
