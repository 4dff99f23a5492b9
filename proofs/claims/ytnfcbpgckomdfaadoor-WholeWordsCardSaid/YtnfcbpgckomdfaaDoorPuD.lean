/- strconv: reading numbers to the base 10. -/
import Derived.Test.YtnfcbpgckomdfaaDoorSplit
namespace Go.Proofs.YtnfcbpgckomdfaaDoor
open Go.Lib (strCells)
/-- Digits read as a number of 64 bits. -/
def dv : Nat → List UInt8 → Option Nat
  | acc, [] => some acc
  | acc, c :: r => if 48 ≤ c.toNat ∧ c.toNat ≤ 57 then (if acc * 10 + (c.toNat - 48) < 18446744073709551616 then dv (acc * 10 + (c.toNat - 48)) r else none) else none
def puL (bs : List UInt8) : Option Nat := if bs = [] then none else dv 0 bs
/-- What reading a number answers. -/
def puA (bs : List UInt8) (r : Value) : Prop := (∃ v : Nat, v < 18446744073709551616 ∧ puL bs = some v ∧ r = .tuple #[.int .u64 (v : Int), .nilIface]) ∨ (∃ (v : Nat) (k : Int), (k = 2 ∨ k = 1 ∧ v = 18446744073709551615) ∧ puL bs = none ∧ r = .tuple #[.int .u64 (v : Int), errV k])
set_option maxHeartbeats 1600000
set_option maxRecDepth 20000
theorem pu10_spec (bs : List UInt8) (hl : bs.length ≤ 1000000000) : Spec Tryd.prog 123 #[.string (str bs), .int .i64 10, .int .i64 0] noFacts [] fun r L => puA bs r ∧ L = [] := by
  refine Spec.go (vs := [_, _, _]) (hT := tyOk) (hm := mixed0) Tryd.func123 rfl Tryd.ntmps123 rfl ?_
  intro W p _
  refine Good.on ?_
  rw [str_toList]
  refine Good.ifB (fun h => ?_) (fun h => ?_) <;> refine Good.on ?_
  · refine Good.ret2 Tryd.results123 (Res.tmp rfl) (Res.tmp rfl) ⟨?_, rfl⟩ (fun _ h => h.clear)
    have : bs = [] := by simpa using h
    exact .inr ⟨0, 2, .inl rfl, by rw [puL, if_pos this], rfl⟩
  have h0 : bs ≠ [] := by intro e; subst e; simp at h
  (refine Good.partB (fun h => ?_) (fun h => ?_); rotate_left; exact absurd h (by decide))
  refine Good.on ?_
  (refine Good.ifB (fun h => ?_) (fun h => ?_); rotate_left; exact absurd h (by decide))
  refine Good.on ?_
  (refine Good.ifB (fun h => ?_) (fun h => ?_); rotate_left; exact absurd h (by decide))
  refine Good.on ?_
  (refine Good.ifB (fun h => ?_) (fun h => ?_); rotate_left; exact absurd h (by decide))
  refine Good.on ?_
  rw [show IntKind.u64.wrap 64 = 64 from rfl]
  refine Good.val (Yv.bin (z := .int .u64 0) rfl rfl rfl ?_) ?_
  · rfl
  refine Good.on ?_
  rw [show IntKind.u64.wrap (0 - 1) = 18446744073709551615 from by decide]
  refine Good.strBytes fun g cap hcap => ?_
  refine Good.on ?_
  refine Good.loop (ι := Nat × Nat) (fun x => [(1, .v (.int .i64 10)), (8, .f), (10, .v (.int .u64 1844674407370955162)), (11, .v (.int .u64 18446744073709551615)), (12, .f), (13, .v (.int .u64 (x.2 : Int))), (99, .v (.slice (some ⟨g, 0, none⟩) bs.length cap)), (100, .v (.int .i64 bs.length)), (101, .v (.int .i64 (x.1 : Int)))]) (fun _ => [rawB 5 g cap bs])
    (fun x => x.1 ≤ bs.length ∧ x.2 < 18446744073709551616 ∧ dv x.2 (bs.drop x.1) = dv 0 bs) (fun x => bs.length - x.1) (0, 0) ⟨by simp, by simp, rfl⟩ ⟨rfl, rfl, rfl, rfl, rfl, rfl, rfl, rfl, rfl, trivial⟩ (fun _ h => h) ?_
  rintro ⟨i, acc⟩ ⟨hi, hacc, hg⟩
  dsimp only at hi hacc hg ⊢
  refine Good.on ?_
  refine Good.ifD (fun h => ?_) (fun h => ?_) <;> refine Good.on ?_
  rotate_left
  · have hd : bs.drop i = [] := List.drop_eq_nil_of_le (by omega)
    rw [hd, dv] at hg
    refine Good.ret2 Tryd.results123 (Res.tmp rfl) (Res.tmp rfl) ⟨.inl ⟨acc, hacc, by rw [puL, if_neg h0, ← hg], rfl⟩, rfl⟩ (fun _ h => h.clear)
  have hi' : i < bs.length := by omega
  obtain ⟨c, hc⟩ : ∃ c, bs[i]? = some c := ⟨_, List.getElem?_eq_getElem hi'⟩
  have hd : bs.drop i = c :: bs.drop (i + 1) := by
    rw [List.drop_eq_getElem_cons hi']; congr 1
    rw [List.getElem?_eq_getElem hi'] at hc; exact Option.some.inj hc
  rw [hd, dv] at hg
  have hcb : c.toNat < 256 := UInt8.toNat_lt c
  have hlo := or32_lt hcb
  have bad : ¬ (48 ≤ c.toNat ∧ c.toNat ≤ 57) → ∀ v : Nat, puA bs (.tuple #[.int .u64 (v : Int), errV 2]) := fun hn v => .inr ⟨v, 2, .inl rfl, by rw [puL, if_neg h0, ← hg, if_neg hn], rfl⟩
  refine Good.val (Yv.indexAddr rfl rfl rfl rfl rfl rfl (by omega) (by omega)) ?_
  refine Good.on ?_
  refine Good.loadRaw 0 (b := c) ?_ ?_
  · simpa [ti5] using hc
  refine Good.on ?_
  refine Good.partB (fun h95 => ?_) (fun h95 => ?_) <;> refine Good.on ?_
  all_goals
    refine Good.partD (fun h48 => ?_) (fun h48 => ?_) <;> refine Good.on ?_
    · refine Good.ifD (fun h57 => ?_) (fun h57 => ?_) <;> refine Good.on ?_
      · have hw : IntKind.u8.wrap ((c.toNat : Int) - 48) = ((c.toNat - 48 : Nat) : Int) := by
          rw [show (c.toNat : Int) - 48 = ((c.toNat - 48 : Nat) : Int) from by omega]; exact u8w _ (by omega)
        rw [hw]
        rw [if_pos (by omega)] at hg
        obtain ⟨d, hdd⟩ : ∃ d, c.toNat - 48 = d := ⟨_, rfl⟩
        have hd10 : d ≤ 9 := by omega
        rw [hdd] at hg ⊢
        refine Good.ifD (fun h16 => ?_) (fun h16 => ?_)
        · rw [show IntKind.u8.wrap 10 = 10 from rfl] at h16; omega
        refine Good.on ?_
        refine Good.ifD (fun hcut => ?_) (fun hcut => ?_) <;> refine Good.on ?_
        · refine Good.ret2 Tryd.results123 (Res.tmp rfl) (Res.tmp rfl) ⟨?_, rfl⟩ (fun _ h => h.clear)
          exact .inr ⟨18446744073709551615, 1, .inr ⟨rfl, rfl⟩, by rw [puL, if_neg h0, ← hg, if_neg (by omega)], rfl⟩
        rw [show IntKind.u64.wrap 10 = 10 from rfl, show IntKind.u64.wrap ((acc : Int) * 10) = ((acc * 10 : Nat) : Int) from by have := u64w (acc * 10) (by omega); simpa using this, u64w d (by omega)]
        by_cases hov : acc * 10 + d < 18446744073709551616
        · rw [show IntKind.u64.wrap (((acc * 10 : Nat) : Int) + (d : Int)) = ((acc * 10 + d : Nat) : Int) from by have := u64w (acc * 10 + d) (by omega); simpa using this]
          rw [if_pos hov] at hg
          refine Good.partD (fun hx => ?_) (fun hx => ?_)
          · omega
          refine Good.on ?_
          refine Good.ifD (fun hmax => ?_) (fun hmax => ?_)
          · omega
          refine Good.on ?_
          refine Good.again (i + 1, acc * 10 + d) ⟨⟨by dsimp only; omega, hov, hg⟩, by dsimp only; omega⟩ ⟨rfl, rfl, rfl, rfl, rfl, rfl, rfl, rfl, ?_, trivial⟩ (fun _ h => h)
          show some (Value.int .i64 _) = _
          rw [w64 _ (by omega)]; rfl
        · rw [if_neg hov] at hg
          have hwr : IntKind.u64.wrap (((acc * 10 : Nat) : Int) + (d : Int)) = ((acc * 10 + d - 18446744073709551616 : Nat) : Int) := by
            simp [IntKind.wrap, IntKind.bits, IntKind.signed]; omega
          rw [hwr]
          refine Good.partD (fun hx => ?_) (fun hx => ?_)
          rotate_left
          · omega
          refine Good.on ?_
          refine Good.ret2 Tryd.results123 (Res.tmp rfl) (Res.tmp rfl) ⟨?_, rfl⟩ (fun _ h => h.clear)
          exact .inr ⟨18446744073709551615, 1, .inr ⟨rfl, rfl⟩, by rw [puL, if_neg h0, ← hg], rfl⟩
      · refine Good.callP [] (lower_spec c.toNat hcb) ck141 ?_
        rintro r L ⟨rfl, rfl⟩
        refine Good.on ?_
        refine Good.partD (fun h97 => ?_) (fun h97 => ?_) <;> refine Good.on ?_
        · refine Good.callP [] (lower_spec c.toNat hcb) ck141 ?_
          rintro r L ⟨rfl, rfl⟩
          refine Good.on ?_
          refine Good.ifD (fun h122 => ?_) (fun h122 => ?_) <;> refine Good.on ?_
          · refine Good.callP [] (lower_spec c.toNat hcb) ck141 ?_
            rintro r L ⟨rfl, rfl⟩
            have hw : IntKind.u8.wrap (IntKind.u8.wrap (((c.toNat ||| 32 : Nat) : Int) - 97) + 10) = (((c.toNat ||| 32) - 97 + 10 : Nat) : Int) := by
              rw [show ((c.toNat ||| 32 : Nat) : Int) - 97 = (((c.toNat ||| 32) - 97 : Nat) : Int) from by omega, u8w _ (by omega)]
              exact u8w ((c.toNat ||| 32) - 97 + 10) (by omega)
            refine Good.on ?_
            rw [hw]
            refine Good.ifD (fun h16 => ?_) (fun h16 => ?_)
            rotate_left
            · rw [show IntKind.u8.wrap 10 = 10 from rfl] at h16; omega
            refine Good.on ?_
            refine Good.ret2 Tryd.results123 (Res.tmp rfl) (Res.tmp rfl) ⟨bad (by omega) 0, rfl⟩ (fun _ h => h.clear)
          · refine Good.ret2 Tryd.results123 (Res.tmp rfl) (Res.tmp rfl) ⟨bad (by omega) 0, rfl⟩ (fun _ h => h.clear)
        · refine Good.ret2 Tryd.results123 (Res.tmp rfl) (Res.tmp rfl) ⟨bad (by omega) 0, rfl⟩ (fun _ h => h.clear)
    · refine Good.callP [] (lower_spec c.toNat hcb) ck141 ?_
      rintro r L ⟨rfl, rfl⟩
      refine Good.on ?_
      refine Good.partD (fun h97 => ?_) (fun h97 => ?_) <;> refine Good.on ?_
      · refine Good.callP [] (lower_spec c.toNat hcb) ck141 ?_
        rintro r L ⟨rfl, rfl⟩
        refine Good.on ?_
        refine Good.ifD (fun h122 => ?_) (fun h122 => ?_) <;> refine Good.on ?_
        · refine Good.callP [] (lower_spec c.toNat hcb) ck141 ?_
          rintro r L ⟨rfl, rfl⟩
          have hw : IntKind.u8.wrap (IntKind.u8.wrap (((c.toNat ||| 32 : Nat) : Int) - 97) + 10) = (((c.toNat ||| 32) - 97 + 10 : Nat) : Int) := by
            rw [show ((c.toNat ||| 32 : Nat) : Int) - 97 = (((c.toNat ||| 32) - 97 : Nat) : Int) from by omega, u8w _ (by omega)]
            exact u8w ((c.toNat ||| 32) - 97 + 10) (by omega)
          refine Good.on ?_
          rw [hw]
          refine Good.ifD (fun h16 => ?_) (fun h16 => ?_)
          rotate_left
          · rw [show IntKind.u8.wrap 10 = 10 from rfl] at h16; omega
          refine Good.on ?_
          refine Good.ret2 Tryd.results123 (Res.tmp rfl) (Res.tmp rfl) ⟨bad (by omega) 0, rfl⟩ (fun _ h => h.clear)
        · refine Good.ret2 Tryd.results123 (Res.tmp rfl) (Res.tmp rfl) ⟨bad (by omega) 0, rfl⟩ (fun _ h => h.clear)
      · refine Good.ret2 Tryd.results123 (Res.tmp rfl) (Res.tmp rfl) ⟨bad (by omega) 0, rfl⟩ (fun _ h => h.clear)
end Go.Proofs.YtnfcbpgckomdfaaDoor
