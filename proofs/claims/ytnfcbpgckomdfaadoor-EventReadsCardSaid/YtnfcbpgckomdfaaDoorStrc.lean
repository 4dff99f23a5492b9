/- Merged: PuD Atoi AtoiB. -/
import Derived.Test.YtnfcbpgckomdfaaDoorSplit
namespace Go.Proofs.YtnfcbpgckomdfaaDoor
open Go.Lib (strCells)
/-- Digits read as a number of 64 bits. -/
def dv : Nat → List UInt8 → Option Nat
  | acc, [] => some acc
  | acc, c :: r => if 48 ≤ c.toNat ∧ c.toNat ≤ 57 then (if acc * 10 + (c.toNat - 48) < 18446744073709551616 then dv (acc * 10 + (c.toNat - 48)) r else none) else none
def puL (bs : List UInt8) : Option Nat := if bs = [] then none else dv 0 bs
/-- What reading a number answers. -/
def puA (bs : List UInt8) (r : Value) : Prop := (∃ v : Nat, v < 18446744073709551616 ∧ puL bs = some v ∧ r = .tuple #[.int .u64 (v : Int), .nilIface]) ∨ (∃ (v : Nat) (k : Int), (k = 2 ∨ k = 1 ∧ v = 18446744073709551615) ∧ puL bs = none ∧ r = .tuple #[.int .u64 (v : Int), errV k])
set_option maxHeartbeats 1600000
set_option maxRecDepth 20000
theorem pu10_spec (bs : List UInt8) (hl : bs.length ≤ 1000000000) : Spec Tryd.prog 123 #[.string (str bs), .int .i64 10, .int .i64 0] noFacts [] fun r L => puA bs r ∧ L = [] := by
  refine Spec.go (vs := [_, _, _]) (hT := tyOk) (hm := mixed0) Tryd.func123 rfl Tryd.ntmps123 rfl ?_
  intro W p _
  refine Good.on ?_
  rw [str_toList]
  refine Good.ifB (fun h => ?_) (fun h => ?_) <;> refine Good.on ?_
  · refine Good.ret2 Tryd.results123 (Res.tmp rfl) (Res.tmp rfl) ⟨?_, rfl⟩ (fun _ h => h.clear)
    have : bs = [] := by simpa using h
    exact .inr ⟨0, 2, .inl rfl, by rw [puL, if_pos this], rfl⟩
  have h0 : bs ≠ [] := by intro e; subst e; simp at h
  (refine Good.partB (fun h => ?_) (fun h => ?_); rotate_left; exact absurd h (by decide))
  refine Good.on ?_
  (refine Good.ifB (fun h => ?_) (fun h => ?_); rotate_left; exact absurd h (by decide))
  refine Good.on ?_
  (refine Good.ifB (fun h => ?_) (fun h => ?_); rotate_left; exact absurd h (by decide))
  refine Good.on ?_
  (refine Good.ifB (fun h => ?_) (fun h => ?_); rotate_left; exact absurd h (by decide))
  refine Good.on ?_
  rw [show IntKind.u64.wrap 64 = 64 from rfl]
  refine Good.val (Yv.bin (z := .int .u64 0) rfl rfl rfl ?_) ?_
  · rfl
  refine Good.on ?_
  rw [show IntKind.u64.wrap (0 - 1) = 18446744073709551615 from by decide]
  refine Good.strBytes fun g cap hcap => ?_
  refine Good.on ?_
  refine Good.loop (ι := Nat × Nat) (fun x => [(1, .v (.int .i64 10)), (8, .f), (10, .v (.int .u64 1844674407370955162)), (11, .v (.int .u64 18446744073709551615)), (12, .f), (13, .v (.int .u64 (x.2 : Int))), (99, .v (.slice (some ⟨g, 0, none⟩) bs.length cap)), (100, .v (.int .i64 bs.length)), (101, .v (.int .i64 (x.1 : Int)))]) (fun _ => [rawB 5 g cap bs])
    (fun x => x.1 ≤ bs.length ∧ x.2 < 18446744073709551616 ∧ dv x.2 (bs.drop x.1) = dv 0 bs) (fun x => bs.length - x.1) (0, 0) ⟨by simp, by simp, rfl⟩ ⟨rfl, rfl, rfl, rfl, rfl, rfl, rfl, rfl, rfl, trivial⟩ (fun _ h => h) ?_
  rintro ⟨i, acc⟩ ⟨hi, hacc, hg⟩
  dsimp only at hi hacc hg ⊢
  refine Good.on ?_
  refine Good.ifD (fun h => ?_) (fun h => ?_) <;> refine Good.on ?_
  rotate_left
  · have hd : bs.drop i = [] := List.drop_eq_nil_of_le (by omega)
    rw [hd, dv] at hg
    refine Good.ret2 Tryd.results123 (Res.tmp rfl) (Res.tmp rfl) ⟨.inl ⟨acc, hacc, by rw [puL, if_neg h0, ← hg], rfl⟩, rfl⟩ (fun _ h => h.clear)
  have hi' : i < bs.length := by omega
  obtain ⟨c, hc⟩ : ∃ c, bs[i]? = some c := ⟨_, List.getElem?_eq_getElem hi'⟩
  have hd : bs.drop i = c :: bs.drop (i + 1) := by
    rw [List.drop_eq_getElem_cons hi']; congr 1
    rw [List.getElem?_eq_getElem hi'] at hc; exact Option.some.inj hc
  rw [hd, dv] at hg
  have hcb : c.toNat < 256 := UInt8.toNat_lt c
  have hlo := or32_lt hcb
  have bad : ¬ (48 ≤ c.toNat ∧ c.toNat ≤ 57) → ∀ v : Nat, puA bs (.tuple #[.int .u64 (v : Int), errV 2]) := fun hn v => .inr ⟨v, 2, .inl rfl, by rw [puL, if_neg h0, ← hg, if_neg hn], rfl⟩
  refine Good.val (Yv.indexAddr rfl rfl rfl rfl rfl rfl (by omega) (by omega)) ?_
  refine Good.on ?_
  refine Good.loadRaw 0 (b := c) ?_ ?_
  · simpa [ti5] using hc
  refine Good.on ?_
  refine Good.partB (fun h95 => ?_) (fun h95 => ?_) <;> refine Good.on ?_
  all_goals
    refine Good.partD (fun h48 => ?_) (fun h48 => ?_) <;> refine Good.on ?_
    · refine Good.ifD (fun h57 => ?_) (fun h57 => ?_) <;> refine Good.on ?_
      · have hw : IntKind.u8.wrap ((c.toNat : Int) - 48) = ((c.toNat - 48 : Nat) : Int) := by
          rw [show (c.toNat : Int) - 48 = ((c.toNat - 48 : Nat) : Int) from by omega]; exact u8w _ (by omega)
        rw [hw]
        rw [if_pos (by omega)] at hg
        obtain ⟨d, hdd⟩ : ∃ d, c.toNat - 48 = d := ⟨_, rfl⟩
        have hd10 : d ≤ 9 := by omega
        rw [hdd] at hg ⊢
        refine Good.ifD (fun h16 => ?_) (fun h16 => ?_)
        · rw [show IntKind.u8.wrap 10 = 10 from rfl] at h16; omega
        refine Good.on ?_
        refine Good.ifD (fun hcut => ?_) (fun hcut => ?_) <;> refine Good.on ?_
        · refine Good.ret2 Tryd.results123 (Res.tmp rfl) (Res.tmp rfl) ⟨?_, rfl⟩ (fun _ h => h.clear)
          exact .inr ⟨18446744073709551615, 1, .inr ⟨rfl, rfl⟩, by rw [puL, if_neg h0, ← hg, if_neg (by omega)], rfl⟩
        rw [show IntKind.u64.wrap 10 = 10 from rfl, show IntKind.u64.wrap ((acc : Int) * 10) = ((acc * 10 : Nat) : Int) from by have := u64w (acc * 10) (by omega); simpa using this, u64w d (by omega)]
        by_cases hov : acc * 10 + d < 18446744073709551616
        · rw [show IntKind.u64.wrap (((acc * 10 : Nat) : Int) + (d : Int)) = ((acc * 10 + d : Nat) : Int) from by have := u64w (acc * 10 + d) (by omega); simpa using this]
          rw [if_pos hov] at hg
          refine Good.partD (fun hx => ?_) (fun hx => ?_)
          · omega
          refine Good.on ?_
          refine Good.ifD (fun hmax => ?_) (fun hmax => ?_)
          · omega
          refine Good.on ?_
          refine Good.again (i + 1, acc * 10 + d) ⟨⟨by dsimp only; omega, hov, hg⟩, by dsimp only; omega⟩ ⟨rfl, rfl, rfl, rfl, rfl, rfl, rfl, rfl, ?_, trivial⟩ (fun _ h => h)
          show some (Value.int .i64 _) = _
          rw [w64 _ (by omega)]; rfl
        · rw [if_neg hov] at hg
          have hwr : IntKind.u64.wrap (((acc * 10 : Nat) : Int) + (d : Int)) = ((acc * 10 + d - 18446744073709551616 : Nat) : Int) := by
            simp [IntKind.wrap, IntKind.bits, IntKind.signed]; omega
          rw [hwr]
          refine Good.partD (fun hx => ?_) (fun hx => ?_)
          rotate_left
          · omega
          refine Good.on ?_
          refine Good.ret2 Tryd.results123 (Res.tmp rfl) (Res.tmp rfl) ⟨?_, rfl⟩ (fun _ h => h.clear)
          exact .inr ⟨18446744073709551615, 1, .inr ⟨rfl, rfl⟩, by rw [puL, if_neg h0, ← hg], rfl⟩
      · refine Good.callP [] (lower_spec c.toNat hcb) ck141 ?_
        rintro r L ⟨rfl, rfl⟩
        refine Good.on ?_
        refine Good.partD (fun h97 => ?_) (fun h97 => ?_) <;> refine Good.on ?_
        · refine Good.callP [] (lower_spec c.toNat hcb) ck141 ?_
          rintro r L ⟨rfl, rfl⟩
          refine Good.on ?_
          refine Good.ifD (fun h122 => ?_) (fun h122 => ?_) <;> refine Good.on ?_
          · refine Good.callP [] (lower_spec c.toNat hcb) ck141 ?_
            rintro r L ⟨rfl, rfl⟩
            have hw : IntKind.u8.wrap (IntKind.u8.wrap (((c.toNat ||| 32 : Nat) : Int) - 97) + 10) = (((c.toNat ||| 32) - 97 + 10 : Nat) : Int) := by
              rw [show ((c.toNat ||| 32 : Nat) : Int) - 97 = (((c.toNat ||| 32) - 97 : Nat) : Int) from by omega, u8w _ (by omega)]
              exact u8w ((c.toNat ||| 32) - 97 + 10) (by omega)
            refine Good.on ?_
            rw [hw]
            refine Good.ifD (fun h16 => ?_) (fun h16 => ?_)
            rotate_left
            · rw [show IntKind.u8.wrap 10 = 10 from rfl] at h16; omega
            refine Good.on ?_
            refine Good.ret2 Tryd.results123 (Res.tmp rfl) (Res.tmp rfl) ⟨bad (by omega) 0, rfl⟩ (fun _ h => h.clear)
          · refine Good.ret2 Tryd.results123 (Res.tmp rfl) (Res.tmp rfl) ⟨bad (by omega) 0, rfl⟩ (fun _ h => h.clear)
        · refine Good.ret2 Tryd.results123 (Res.tmp rfl) (Res.tmp rfl) ⟨bad (by omega) 0, rfl⟩ (fun _ h => h.clear)
    · refine Good.callP [] (lower_spec c.toNat hcb) ck141 ?_
      rintro r L ⟨rfl, rfl⟩
      refine Good.on ?_
      refine Good.partD (fun h97 => ?_) (fun h97 => ?_) <;> refine Good.on ?_
      · refine Good.callP [] (lower_spec c.toNat hcb) ck141 ?_
        rintro r L ⟨rfl, rfl⟩
        refine Good.on ?_
        refine Good.ifD (fun h122 => ?_) (fun h122 => ?_) <;> refine Good.on ?_
        · refine Good.callP [] (lower_spec c.toNat hcb) ck141 ?_
          rintro r L ⟨rfl, rfl⟩
          have hw : IntKind.u8.wrap (IntKind.u8.wrap (((c.toNat ||| 32 : Nat) : Int) - 97) + 10) = (((c.toNat ||| 32) - 97 + 10 : Nat) : Int) := by
            rw [show ((c.toNat ||| 32 : Nat) : Int) - 97 = (((c.toNat ||| 32) - 97 : Nat) : Int) from by omega, u8w _ (by omega)]
            exact u8w ((c.toNat ||| 32) - 97 + 10) (by omega)
          refine Good.on ?_
          rw [hw]
          refine Good.ifD (fun h16 => ?_) (fun h16 => ?_)
          rotate_left
          · rw [show IntKind.u8.wrap 10 = 10 from rfl] at h16; omega
          refine Good.on ?_
          refine Good.ret2 Tryd.results123 (Res.tmp rfl) (Res.tmp rfl) ⟨bad (by omega) 0, rfl⟩ (fun _ h => h.clear)
        · refine Good.ret2 Tryd.results123 (Res.tmp rfl) (Res.tmp rfl) ⟨bad (by omega) 0, rfl⟩ (fun _ h => h.clear)
      · refine Good.ret2 Tryd.results123 (Res.tmp rfl) (Res.tmp rfl) ⟨bad (by omega) 0, rfl⟩ (fun _ h => h.clear)
end Go.Proofs.YtnfcbpgckomdfaaDoor
namespace Go.Proofs.YtnfcbpgckomdfaaDoor
open Go.Lib (strCells)
def posI (bs : List UInt8) : Option Int := match puL bs with
  | some v => if v < 9223372036854775808 then some (v : Int) else none
  | none => none
def negI (bs : List UInt8) : Option Int := match puL bs with
  | some v => if v ≤ 9223372036854775808 then some (-(v : Int)) else none
  | none => none
/-- A text's number. -/
def piL : List UInt8 → Option Int
  | [] => none
  | c :: r => if c = 43 then posI r else if c = 45 then negI r else posI (c :: r)
def piA (bs : List UInt8) (r : Value) : Prop := ∃ n : Int, I64 n ∧ ((piL bs = some n ∧ r = .tuple #[.int .i64 n, .nilIface]) ∨ ∃ k : Int, (k = 1 ∨ k = 2) ∧ piL bs = none ∧ r = .tuple #[.int .i64 n, errV k])
theorem wneg (v : Nat) (h : v ≤ 9223372036854775808) : IntKind.i64.wrap (0 - IntKind.i64.wrap (v : Int)) = -(v : Int) := by
  simp [IntKind.wrap, IntKind.bits, IntKind.signed]; omega
section
variable {C : Cx} {tm : Tm} {o : Oper}
/-- Two interface values over one type of numbers. -/
theorem Yv.ifaceNeInt {t t' tx : TypeId} {i ix : TI} {x y : Operand} {ex ey : Ent} {k : IntKind} {a b : Int} (ho : o.op = .binOp .neq t x y t') (hx : opd tm x = some ex) (hxv : ex.val = .iface tx (.int k a)) (hy : opd tm y = some ey) (hyv : ey.val = .iface tx (.int k b)) (ht : C.T.get t = some i) (hi : isIface i.desc = true) (htx : C.T.get tx = some ix) (hix : ix.desc = .int k) (hc : (C.P.info? tx).map (·.comparable) = some true) : Yv C tm o (.bool (!(a == b))) := fun ac hA w => by
  have hu := (C.ok t i ht).under
  obtain ⟨ms, hms⟩ := isIface_ok hi
  rw [hms] at hu
  have hux := (C.ok tx ix htx).under
  rw [hix] at hux
  have hx' : ac.eval x = .iface tx (.int k a) := by rw [hA.eval hx, hxv]
  have hy' : ac.eval y = .iface tx (.int k b) := by rw [hA.eval hy, hyv]
  have h : ∀ d : Nat, (Op.equalIn (d + 2) t (.iface tx (.int k a)) (.iface tx (.int k b))).run C.P w = .ok (a == b) w := fun d => by
    cases hq : C.P.info? tx with
    | none => rw [hq] at hc; cases hc
    | some j =>
      rw [hq] at hc
      have hj : j.comparable = true := by simpa using hc
      simp [Op.equalIn, run_underlying hu, run_underlying hux, typeInfo, hq, hj]
  have hg : eqGuard .neq t x y (.iface tx (.int k a)) (.iface tx (.int k b)) = Pure.pure () := by unfold eqGuard; rfl
  unfold execOp
  simp only [ho, hx', hy', hg, binOp, Sem.run_bind, Sem.run_pure, Result.andThen_ok]
  simp [Op.equal, Op.maxDepth, h 9998]
end
set_option maxHeartbeats 1600000
set_option maxRecDepth 20000
theorem parseInt_spec (bs : List UInt8) (hl : bs.length ≤ 1000000000) : Spec Tryd.prog 129 #[.string (str bs), .int .i64 10, .int .i64 0] noFacts [] fun r L => piA bs r ∧ L = [] := by
  refine Spec.go (vs := [_, _, _]) (hT := tyOk) (hm := mixed0) Tryd.func129 rfl Tryd.ntmps129 rfl ?_
  intro W p _
  refine Good.on ?_
  rw [str_toList]
  refine Good.ifB (fun h => ?_) (fun h => ?_) <;> refine Good.on ?_
  · refine Good.ret2 Tryd.results129 (Res.tmp rfl) (Res.tmp rfl) ⟨?_, rfl⟩ (fun _ h => h.clear)
    have : bs = [] := by simpa using h
    subst this
    exact ⟨0, ⟨by decide, by decide⟩, .inr ⟨2, .inr rfl, rfl, rfl⟩⟩
  obtain ⟨c, r, rfl⟩ : ∃ c r, bs = c :: r := by
    cases bs with
    | nil => simp at h
    | cons c r => exact ⟨c, r, rfl⟩
  simp only [List.length_cons] at hl
  refine Good.val (Yv.index (n := 0) (b := c) rfl rfl rfl rfl rfl (by decide) rfl) ?_
  refine Good.on ?_
  refine Good.ifB (fun hp => ?_) (fun hp => ?_) <;> refine Good.on ?_
  · have hcc : c = 43 := by
      have : c.toNat = 43 := by simp at hp; omega
      exact UInt8.toNat_inj.1 this
    refine Good.val (Yv.sliceStr 1 (r.length + 1) rfl rfl rfl rfl rfl rfl ⟨_, rfl⟩ rfl (by omega) (by simp)) ?_
    rw [show (((c :: r).take (r.length + 1)).drop 1) = r from by rw [← List.length_cons (a := c), List.take_length]; rfl]
    refine Good.on ?_
    refine Good.callP [] (pu10_spec (r) (by first | omega | (simp; omega))) ck123 ?_
    rintro v L ⟨hA, rfl⟩
    rcases hA with ⟨v, hv, hpu, rfl⟩ | ⟨v, k, hk, hpu, rfl⟩
    · refine Good.on ?_
      refine Good.val (Yv.ifaceNe rfl rfl rfl rfl rfl rfl) ?_
      refine Good.on ?_
      (refine Good.partB (fun h => ?_) (fun h => ?_); exact absurd h (by decide))
      refine Good.on ?_
      (refine Good.ifB (fun h => ?_) (fun h => ?_); rotate_left; exact absurd h (by decide))
      refine Good.on ?_
      rw [show IntKind.u64.wrap (IntKind.i64.wrap (64 - 1)) = 63 from by decide]
      refine Good.val (Yv.bin (z := .int .u64 9223372036854775808) rfl rfl rfl rfl) ?_
      refine Good.on ?_
      refine Good.ifD (fun hge => ?_) (fun hge => ?_) <;> refine Good.on ?_
      · refine Good.ret2 Tryd.results129 (Res.tmp rfl) (Res.tmp rfl) ⟨⟨9223372036854775807, ⟨by decide, by decide⟩, .inr ⟨1, .inl rfl, ?_, by first | rfl | decide⟩⟩, rfl⟩ (fun _ h => h.clear)
        rw [piL]; rw [if_pos hcc]; rw [posI, hpu]; exact if_neg (by omega)
      refine Good.ret2 Tryd.results129 (Res.tmp rfl) (Res.tmp rfl) ⟨⟨v, ⟨by omega, by omega⟩, .inl ⟨?_, ?_⟩⟩, rfl⟩ (fun _ h => h.clear)
      · rw [piL]; rw [if_pos hcc]; rw [posI, hpu]; exact if_pos (by omega)
      · rw [w64 _ (by omega)]
    · have hpi : piL (c :: r) = none := by rw [piL]; rw [if_pos hcc]; rw [posI, hpu]
      refine Good.on ?_
      refine Good.val (Yv.ifaceNe rfl rfl rfl rfl rfl rfl) ?_
      refine Good.on ?_
      (refine Good.partB (fun h => ?_) (fun h => ?_); rotate_left; exact absurd h (by decide))
      refine Good.on ?_
      rcases hk with rfl | ⟨rfl, rfl⟩
      · refine Good.val (Yv.ifaceNeInt (a := 2) (b := 1) rfl rfl rfl rfl rfl rfl rfl rfl rfl (by kernel_rfl)) ?_
        refine Good.on ?_
        (refine Good.ifB (fun h => ?_) (fun h => ?_); rotate_left; exact absurd h (by decide))
        refine Good.on ?_
        refine Good.ret2 Tryd.results129 (Res.tmp rfl) (Res.tmp rfl) ⟨⟨0, ⟨by decide, by decide⟩, .inr ⟨2, .inr rfl, hpi, rfl⟩⟩, rfl⟩ (fun _ h => h.clear)
      · refine Good.val (Yv.ifaceNeInt (a := 1) (b := 1) rfl rfl rfl rfl rfl rfl rfl rfl rfl (by kernel_rfl)) ?_
        refine Good.on ?_
        (refine Good.ifB (fun h => ?_) (fun h => ?_); exact absurd h (by decide))
        refine Good.on ?_
        (refine Good.ifB (fun h => ?_) (fun h => ?_); rotate_left; exact absurd h (by decide))
        refine Good.on ?_
        rw [show IntKind.u64.wrap (IntKind.i64.wrap (64 - 1)) = 63 from by decide]
        refine Good.val (Yv.bin (z := .int .u64 9223372036854775808) rfl rfl rfl rfl) ?_
        refine Good.on ?_
        (refine Good.ifB (fun h => ?_) (fun h => ?_); rotate_left; exact absurd h (by decide))
        refine Good.on ?_
        refine Good.ret2 Tryd.results129 (Res.tmp rfl) (Res.tmp rfl) ⟨⟨9223372036854775807, ⟨by decide, by decide⟩, .inr ⟨1, .inl rfl, hpi, by first | rfl | decide⟩⟩, rfl⟩ (fun _ h => h.clear)
  have hc1 : c ≠ 43 := by
    intro e; subst e; simp at hp
  refine Good.ifB (fun hm => ?_) (fun hm => ?_) <;> refine Good.on ?_
  · have hcc : c = 45 := by
      have : c.toNat = 45 := by simp at hm; omega
      exact UInt8.toNat_inj.1 this
    refine Good.val (Yv.sliceStr 1 (r.length + 1) rfl rfl rfl rfl rfl rfl ⟨_, rfl⟩ rfl (by omega) (by simp)) ?_
    rw [show (((c :: r).take (r.length + 1)).drop 1) = r from by rw [← List.length_cons (a := c), List.take_length]; rfl]
    refine Good.on ?_
    refine Good.callP [] (pu10_spec (r) (by first | omega | (simp; omega))) ck123 ?_
    rintro v L ⟨hA, rfl⟩
    rcases hA with ⟨v, hv, hpu, rfl⟩ | ⟨v, k, hk, hpu, rfl⟩
    · refine Good.on ?_
      refine Good.val (Yv.ifaceNe rfl rfl rfl rfl rfl rfl) ?_
      refine Good.on ?_
      (refine Good.partB (fun h => ?_) (fun h => ?_); exact absurd h (by decide))
      refine Good.on ?_
      (refine Good.ifB (fun h => ?_) (fun h => ?_); rotate_left; exact absurd h (by decide))
      refine Good.on ?_
      rw [show IntKind.u64.wrap (IntKind.i64.wrap (64 - 1)) = 63 from by decide]
      refine Good.val (Yv.bin (z := .int .u64 9223372036854775808) rfl rfl rfl rfl) ?_
      refine Good.on ?_
      refine Good.ifD (fun hge => ?_) (fun hge => ?_) <;> refine Good.on ?_
      · refine Good.ret2 Tryd.results129 (Res.tmp rfl) (Res.tmp rfl) ⟨⟨-9223372036854775808, ⟨by decide, by decide⟩, .inr ⟨1, .inl rfl, ?_, by first | rfl | decide⟩⟩, rfl⟩ (fun _ h => h.clear)
        rw [piL]; rw [if_neg hc1, if_pos hcc]; rw [negI, hpu]; exact if_neg (by omega)
      refine Good.ret2 Tryd.results129 (Res.tmp rfl) (Res.tmp rfl) ⟨⟨-(v : Int), ⟨by omega, by omega⟩, .inl ⟨?_, ?_⟩⟩, rfl⟩ (fun _ h => h.clear)
      · rw [piL]; rw [if_neg hc1, if_pos hcc]; rw [negI, hpu]; exact if_pos (by omega)
      · rw [wneg v (by omega)]
    · have hpi : piL (c :: r) = none := by rw [piL]; rw [if_neg hc1, if_pos hcc]; rw [negI, hpu]
      refine Good.on ?_
      refine Good.val (Yv.ifaceNe rfl rfl rfl rfl rfl rfl) ?_
      refine Good.on ?_
      (refine Good.partB (fun h => ?_) (fun h => ?_); rotate_left; exact absurd h (by decide))
      refine Good.on ?_
      rcases hk with rfl | ⟨rfl, rfl⟩
      · refine Good.val (Yv.ifaceNeInt (a := 2) (b := 1) rfl rfl rfl rfl rfl rfl rfl rfl rfl (by kernel_rfl)) ?_
        refine Good.on ?_
        (refine Good.ifB (fun h => ?_) (fun h => ?_); rotate_left; exact absurd h (by decide))
        refine Good.on ?_
        refine Good.ret2 Tryd.results129 (Res.tmp rfl) (Res.tmp rfl) ⟨⟨0, ⟨by decide, by decide⟩, .inr ⟨2, .inr rfl, hpi, rfl⟩⟩, rfl⟩ (fun _ h => h.clear)
      · refine Good.val (Yv.ifaceNeInt (a := 1) (b := 1) rfl rfl rfl rfl rfl rfl rfl rfl rfl (by kernel_rfl)) ?_
        refine Good.on ?_
        (refine Good.ifB (fun h => ?_) (fun h => ?_); exact absurd h (by decide))
        refine Good.on ?_
        (refine Good.ifB (fun h => ?_) (fun h => ?_); rotate_left; exact absurd h (by decide))
        refine Good.on ?_
        rw [show IntKind.u64.wrap (IntKind.i64.wrap (64 - 1)) = 63 from by decide]
        refine Good.val (Yv.bin (z := .int .u64 9223372036854775808) rfl rfl rfl rfl) ?_
        refine Good.on ?_
        (refine Good.ifB (fun h => ?_) (fun h => ?_); rotate_left; exact absurd h (by decide))
        refine Good.on ?_
        refine Good.ret2 Tryd.results129 (Res.tmp rfl) (Res.tmp rfl) ⟨⟨-9223372036854775808, ⟨by decide, by decide⟩, .inr ⟨1, .inl rfl, hpi, by first | rfl | decide⟩⟩, rfl⟩ (fun _ h => h.clear)
  have hc2 : c ≠ 45 := by
    intro e; subst e; simp at hm
  refine Good.callP [] (pu10_spec (c :: r) (by first | omega | (simp; omega))) ck123 ?_
  rintro v L ⟨hA, rfl⟩
  rcases hA with ⟨v, hv, hpu, rfl⟩ | ⟨v, k, hk, hpu, rfl⟩
  · refine Good.on ?_
    refine Good.val (Yv.ifaceNe rfl rfl rfl rfl rfl rfl) ?_
    refine Good.on ?_
    (refine Good.partB (fun h => ?_) (fun h => ?_); exact absurd h (by decide))
    refine Good.on ?_
    (refine Good.ifB (fun h => ?_) (fun h => ?_); rotate_left; exact absurd h (by decide))
    refine Good.on ?_
    rw [show IntKind.u64.wrap (IntKind.i64.wrap (64 - 1)) = 63 from by decide]
    refine Good.val (Yv.bin (z := .int .u64 9223372036854775808) rfl rfl rfl rfl) ?_
    refine Good.on ?_
    refine Good.ifD (fun hge => ?_) (fun hge => ?_) <;> refine Good.on ?_
    · refine Good.ret2 Tryd.results129 (Res.tmp rfl) (Res.tmp rfl) ⟨⟨9223372036854775807, ⟨by decide, by decide⟩, .inr ⟨1, .inl rfl, ?_, by first | rfl | decide⟩⟩, rfl⟩ (fun _ h => h.clear)
      rw [piL]; rw [if_neg hc1, if_neg hc2]; rw [posI, hpu]; exact if_neg (by omega)
    refine Good.ret2 Tryd.results129 (Res.tmp rfl) (Res.tmp rfl) ⟨⟨v, ⟨by omega, by omega⟩, .inl ⟨?_, ?_⟩⟩, rfl⟩ (fun _ h => h.clear)
    · rw [piL]; rw [if_neg hc1, if_neg hc2]; rw [posI, hpu]; exact if_pos (by omega)
    · rw [w64 _ (by omega)]
  · have hpi : piL (c :: r) = none := by rw [piL]; rw [if_neg hc1, if_neg hc2]; rw [posI, hpu]
    refine Good.on ?_
    refine Good.val (Yv.ifaceNe rfl rfl rfl rfl rfl rfl) ?_
    refine Good.on ?_
    (refine Good.partB (fun h => ?_) (fun h => ?_); rotate_left; exact absurd h (by decide))
    refine Good.on ?_
    rcases hk with rfl | ⟨rfl, rfl⟩
    · refine Good.val (Yv.ifaceNeInt (a := 2) (b := 1) rfl rfl rfl rfl rfl rfl rfl rfl rfl (by kernel_rfl)) ?_
      refine Good.on ?_
      (refine Good.ifB (fun h => ?_) (fun h => ?_); rotate_left; exact absurd h (by decide))
      refine Good.on ?_
      refine Good.ret2 Tryd.results129 (Res.tmp rfl) (Res.tmp rfl) ⟨⟨0, ⟨by decide, by decide⟩, .inr ⟨2, .inr rfl, hpi, rfl⟩⟩, rfl⟩ (fun _ h => h.clear)
    · refine Good.val (Yv.ifaceNeInt (a := 1) (b := 1) rfl rfl rfl rfl rfl rfl rfl rfl rfl (by kernel_rfl)) ?_
      refine Good.on ?_
      (refine Good.ifB (fun h => ?_) (fun h => ?_); exact absurd h (by decide))
      refine Good.on ?_
      (refine Good.ifB (fun h => ?_) (fun h => ?_); rotate_left; exact absurd h (by decide))
      refine Good.on ?_
      rw [show IntKind.u64.wrap (IntKind.i64.wrap (64 - 1)) = 63 from by decide]
      refine Good.val (Yv.bin (z := .int .u64 9223372036854775808) rfl rfl rfl rfl) ?_
      refine Good.on ?_
      (refine Good.ifB (fun h => ?_) (fun h => ?_); rotate_left; exact absurd h (by decide))
      refine Good.on ?_
      refine Good.ret2 Tryd.results129 (Res.tmp rfl) (Res.tmp rfl) ⟨⟨9223372036854775807, ⟨by decide, by decide⟩, .inr ⟨1, .inl rfl, hpi, by first | rfl | decide⟩⟩, rfl⟩ (fun _ h => h.clear)
end Go.Proofs.YtnfcbpgckomdfaaDoor
namespace Go.Proofs.YtnfcbpgckomdfaaDoor
open Go.Lib (strCells)
set_option maxHeartbeats 1600000
set_option maxRecDepth 20000
theorem iAtoi_spec (bs : List UInt8) (hl : bs.length ≤ 1000000000) : Spec Tryd.prog 109 #[.string (str bs)] noFacts [] fun r L => piA bs r ∧ L = [] := by
  refine Spec.go (vs := [_]) (hT := tyOk) (hm := mixed0) Tryd.func109 rfl Tryd.ntmps109 rfl ?_
  intro W p _
  refine Good.on ?_
  rw [str_size]
  refine Good.partD (fun hp => ?_) (fun hp => ?_) <;> refine Good.on ?_
  rotate_left
  · refine Good.callP [] (parseInt_spec (bs) (by first | omega | (simp only [List.length_cons]; omega))) ck129 ?_
    rintro v L ⟨⟨n, hn, hA⟩, rfl⟩
    rcases hA with ⟨hA, rfl⟩ | ⟨k, hk, hA, rfl⟩
    · refine Good.on ?_
      refine Good.ret2 Tryd.results109 (Res.tmp rfl) (Res.tmp rfl) ⟨⟨n, hn, .inl ⟨hA, rfl⟩⟩, rfl⟩ (fun _ h => h.clear)
    · refine Good.on ?_
      refine Good.ret2 Tryd.results109 (Res.tmp rfl) (Res.tmp rfl) ⟨⟨n, hn, .inr ⟨k, hk, hA, rfl⟩⟩, rfl⟩ (fun _ h => h.clear)
  refine Good.ifD (fun h19 => ?_) (fun h19 => ?_) <;> refine Good.on ?_
  rotate_left
  · refine Good.callP [] (parseInt_spec (bs) (by first | omega | (simp only [List.length_cons]; omega))) ck129 ?_
    rintro v L ⟨⟨n, hn, hA⟩, rfl⟩
    rcases hA with ⟨hA, rfl⟩ | ⟨k, hk, hA, rfl⟩
    · refine Good.on ?_
      refine Good.ret2 Tryd.results109 (Res.tmp rfl) (Res.tmp rfl) ⟨⟨n, hn, .inl ⟨hA, rfl⟩⟩, rfl⟩ (fun _ h => h.clear)
    · refine Good.on ?_
      refine Good.ret2 Tryd.results109 (Res.tmp rfl) (Res.tmp rfl) ⟨⟨n, hn, .inr ⟨k, hk, hA, rfl⟩⟩, rfl⟩ (fun _ h => h.clear)
  obtain ⟨c, r, rfl⟩ : ∃ c r, bs = c :: r := by
    cases bs with
    | nil => simp at hp
    | cons c r => exact ⟨c, r, rfl⟩
  simp only [List.length_cons] at hl h19
  refine Good.val (Yv.index (n := 0) (b := c) rfl rfl rfl rfl rfl (by decide) rfl) ?_
  refine Good.on ?_
  refine Good.partB (fun hm => ?_) (fun hm => ?_) <;> refine Good.on ?_
  · have hcc : c = 45 := by
      have : c.toNat = 45 := by simp at hm; omega
      exact UInt8.toNat_inj.1 this
    refine Good.val (Yv.sliceStr 1 (r.length + 1) rfl rfl rfl rfl rfl rfl ⟨_, rfl⟩ rfl (by omega) (by simp)) ?_
    rw [show (((c :: r).take (r.length + 1)).drop 1) = r from by rw [← List.length_cons (a := c), List.take_length]; rfl]
    refine Good.on ?_
    rw [str_size]
    refine Good.ifD (fun hz => ?_) (fun hz => ?_) <;> refine Good.on ?_
    · refine Good.ret2 Tryd.results109 (Res.tmp rfl) (Res.tmp rfl) ⟨⟨0, ⟨by decide, by decide⟩, .inr ⟨2, .inr rfl, ?_, rfl⟩⟩, rfl⟩ (fun _ h => h.clear)
      obtain rfl : r = [] := List.eq_nil_of_length_eq_zero (by omega)
      rw [piL, if_neg (by rw [hcc]; decide), if_pos hcc, negI, puL, if_pos rfl]
    obtain ⟨q, hq⟩ : ∃ q, r = q := ⟨_, rfl⟩
    have hql : q.length ≤ 18 := by rw [← hq]; (first | omega | (simp only [List.length_cons]; omega))
    have hqn : q ≠ [] := by rw [← hq]; (intro e; subst e; simp at hz)
    have hpi : piL (c :: q) = negI q := by rw [← hq, piL]; rw [if_neg (by rw [hcc]; decide), if_pos hcc]
    rw [hq]
    refine Good.strBytes fun g cap hcap => ?_
    refine Good.on ?_
    refine Good.loop (ι := Nat × Nat) (fun x => [(5, .v (.string (str (c :: q)))), (6, .v (.int .i64 (x.2 : Int))), (47, .v (.slice (some ⟨g, 0, none⟩) q.length cap)), (48, .v (.int .i64 q.length)), (49, .v (.int .i64 (x.1 : Int)))]) (fun _ => [rawB 5 g cap q])
      (fun x => x.1 ≤ q.length ∧ x.2 < 10 ^ x.1 ∧ dv x.2 (q.drop x.1) = dv 0 q) (fun x => q.length - x.1) (0, 0) ⟨by simp, by simp, rfl⟩ ⟨rfl, rfl, rfl, rfl, rfl, trivial⟩ (fun _ h => h) ?_
    rintro ⟨i, acc⟩ ⟨hi, hacc, hg⟩
    dsimp only at hi hacc hg ⊢
    have h10 : 10 ^ i ≤ 10 ^ 18 := Nat.pow_le_pow_right (by decide) (by omega)
    have h18 : 10 ^ 18 = 1000000000000000000 := by decide
    refine Good.on ?_
    refine Good.ifD (fun h => ?_) (fun h => ?_) <;> refine Good.on ?_
    rotate_left
    · have hd : q.drop i = [] := List.drop_eq_nil_of_le (by omega)
      rw [hd, dv] at hg
      have hpu : puL q = some acc := by rw [puL, if_neg hqn, ← hg]
      refine Good.val (Yv.index (n := 0) (b := c) rfl rfl rfl rfl rfl (by decide) rfl) ?_
      refine Good.on ?_
      refine Good.ifB (fun h45 => ?_) (fun h45 => ?_) <;> refine Good.on ?_
      rotate_left
      · exact absurd (show ((c.toNat : Int) == 45) = true by rw [hcc]; rfl) (by rw [h45]; decide)
      refine Good.ret2 Tryd.results109 (Res.tmp rfl) (Res.tmp rfl) ⟨⟨-(acc : Int), ⟨by omega, by omega⟩, .inl ⟨?_, ?_⟩⟩, rfl⟩ (fun _ h => h.clear)
      · rw [hpi, negI, hpu]; exact if_pos (by omega)
      · rw [w64 _ (by omega)]; congr 4; omega
    have hi' : i < q.length := by omega
    have h17 : 10 ^ i ≤ 10 ^ 17 := Nat.pow_le_pow_right (by decide) (by omega)
    have h17' : 10 ^ 17 = 100000000000000000 := by decide
    obtain ⟨b, hb⟩ : ∃ b, q[i]? = some b := ⟨_, List.getElem?_eq_getElem hi'⟩
    have hd : q.drop i = b :: q.drop (i + 1) := by
      rw [List.drop_eq_getElem_cons hi']; congr 1
      rw [List.getElem?_eq_getElem hi'] at hb; exact Option.some.inj hb
    rw [hd, dv] at hg
    have hbb : b.toNat < 256 := UInt8.toNat_lt b
    refine Good.val (Yv.indexAddr rfl rfl rfl rfl rfl rfl (by omega) (by omega)) ?_
    refine Good.on ?_
    refine Good.loadRaw 0 (b := b) ?_ ?_
    · simpa [ti5] using hb
    refine Good.on ?_
    by_cases hdig : 48 ≤ b.toNat ∧ b.toNat ≤ 57
    · have hw : IntKind.u8.wrap ((b.toNat : Int) - 48) = ((b.toNat - 48 : Nat) : Int) := by
        rw [show (b.toNat : Int) - 48 = ((b.toNat - 48 : Nat) : Int) from by omega]; exact u8w _ (by omega)
      rw [hw]
      rw [if_pos hdig] at hg
      obtain ⟨d, hdd⟩ : ∃ d, b.toNat - 48 = d := ⟨_, rfl⟩
      have hd10 : d ≤ 9 := by omega
      rw [hdd] at hg ⊢
      rw [if_pos (by omega)] at hg
      refine Good.ifD (fun h9 => ?_) (fun h9 => ?_)
      · omega
      refine Good.on ?_
      rw [w64 ((acc : Int) * 10) (by omega), w64 (d : Int) (by omega), w64 ((acc : Int) * 10 + (d : Int)) (by omega), show (acc : Int) * 10 + (d : Int) = ((acc * 10 + d : Nat) : Int) from by omega]
      refine Good.again (i + 1, acc * 10 + d) ⟨⟨by dsimp only; omega, by dsimp only; rw [Nat.pow_succ]; omega, hg⟩, by dsimp only; omega⟩ ⟨rfl, rfl, rfl, rfl, ?_, trivial⟩ (fun _ h => h)
      show some (Value.int .i64 _) = _
      rw [w64 _ (by omega)]; rfl
    · rw [if_neg hdig] at hg
      have hw : ∃ e : Nat, 9 < e ∧ IntKind.u8.wrap ((b.toNat : Int) - 48) = (e : Int) := by
        by_cases h48 : 48 ≤ b.toNat
        · exact ⟨b.toNat - 48, by omega, by rw [show (b.toNat : Int) - 48 = ((b.toNat - 48 : Nat) : Int) from by omega]; exact u8w _ (by omega)⟩
        · exact ⟨b.toNat + 208, by omega, by simp [IntKind.wrap, IntKind.bits, IntKind.signed]; omega⟩
      obtain ⟨e, he, hw⟩ := hw
      rw [hw]
      refine Good.ifD (fun h9 => ?_) (fun h9 => ?_)
      rotate_left
      · omega
      refine Good.on ?_
      refine Good.ret2 Tryd.results109 (Res.tmp rfl) (Res.tmp rfl) ⟨⟨0, ⟨by decide, by decide⟩, .inr ⟨2, .inr rfl, ?_, rfl⟩⟩, rfl⟩ (fun _ h => h.clear)
      rw [hpi, negI, puL, if_neg hqn, ← hg]
  have h45n : c ≠ 45 := by
    intro e; subst e; simp at hm
  refine Good.val (Yv.index (n := 0) (b := c) rfl rfl rfl rfl rfl (by decide) rfl) ?_
  refine Good.on ?_
  refine Good.ifB (fun h43 => ?_) (fun h43 => ?_) <;> refine Good.on ?_
  · have hcc : c = 43 := by
      have : c.toNat = 43 := by simp at h43; omega
      exact UInt8.toNat_inj.1 this
    refine Good.val (Yv.sliceStr 1 (r.length + 1) rfl rfl rfl rfl rfl rfl ⟨_, rfl⟩ rfl (by omega) (by simp)) ?_
    rw [show (((c :: r).take (r.length + 1)).drop 1) = r from by rw [← List.length_cons (a := c), List.take_length]; rfl]
    refine Good.on ?_
    rw [str_size]
    refine Good.ifD (fun hz => ?_) (fun hz => ?_) <;> refine Good.on ?_
    · refine Good.ret2 Tryd.results109 (Res.tmp rfl) (Res.tmp rfl) ⟨⟨0, ⟨by decide, by decide⟩, .inr ⟨2, .inr rfl, ?_, rfl⟩⟩, rfl⟩ (fun _ h => h.clear)
      obtain rfl : r = [] := List.eq_nil_of_length_eq_zero (by omega)
      rw [piL, if_pos hcc, posI, puL, if_pos rfl]
    obtain ⟨q, hq⟩ : ∃ q, r = q := ⟨_, rfl⟩
    have hql : q.length ≤ 18 := by rw [← hq]; (first | omega | (simp only [List.length_cons]; omega))
    have hqn : q ≠ [] := by rw [← hq]; (intro e; subst e; simp at hz)
    have hpi : piL (c :: q) = posI q := by rw [← hq, piL]; rw [if_pos hcc]
    rw [hq]
    refine Good.strBytes fun g cap hcap => ?_
    refine Good.on ?_
    refine Good.loop (ι := Nat × Nat) (fun x => [(5, .v (.string (str (c :: q)))), (6, .v (.int .i64 (x.2 : Int))), (47, .v (.slice (some ⟨g, 0, none⟩) q.length cap)), (48, .v (.int .i64 q.length)), (49, .v (.int .i64 (x.1 : Int)))]) (fun _ => [rawB 5 g cap q])
      (fun x => x.1 ≤ q.length ∧ x.2 < 10 ^ x.1 ∧ dv x.2 (q.drop x.1) = dv 0 q) (fun x => q.length - x.1) (0, 0) ⟨by simp, by simp, rfl⟩ ⟨rfl, rfl, rfl, rfl, rfl, trivial⟩ (fun _ h => h) ?_
    rintro ⟨i, acc⟩ ⟨hi, hacc, hg⟩
    dsimp only at hi hacc hg ⊢
    have h10 : 10 ^ i ≤ 10 ^ 18 := Nat.pow_le_pow_right (by decide) (by omega)
    have h18 : 10 ^ 18 = 1000000000000000000 := by decide
    refine Good.on ?_
    refine Good.ifD (fun h => ?_) (fun h => ?_) <;> refine Good.on ?_
    rotate_left
    · have hd : q.drop i = [] := List.drop_eq_nil_of_le (by omega)
      rw [hd, dv] at hg
      have hpu : puL q = some acc := by rw [puL, if_neg hqn, ← hg]
      refine Good.val (Yv.index (n := 0) (b := c) rfl rfl rfl rfl rfl (by decide) rfl) ?_
      refine Good.on ?_
      refine Good.ifB (fun h45 => ?_) (fun h45 => ?_) <;> refine Good.on ?_
      · exact absurd (show c = 45 from by
          have : c.toNat = 45 := by simp at h45; omega
          exact UInt8.toNat_inj.1 this) h45n
      refine Good.ret2 Tryd.results109 (Res.tmp rfl) (Res.tmp rfl) ⟨⟨(acc : Int), ⟨by omega, by omega⟩, .inl ⟨?_, rfl⟩⟩, rfl⟩ (fun _ h => h.clear)
      rw [hpi, posI, hpu]; exact if_pos (by omega)
    have hi' : i < q.length := by omega
    have h17 : 10 ^ i ≤ 10 ^ 17 := Nat.pow_le_pow_right (by decide) (by omega)
    have h17' : 10 ^ 17 = 100000000000000000 := by decide
    obtain ⟨b, hb⟩ : ∃ b, q[i]? = some b := ⟨_, List.getElem?_eq_getElem hi'⟩
    have hd : q.drop i = b :: q.drop (i + 1) := by
      rw [List.drop_eq_getElem_cons hi']; congr 1
      rw [List.getElem?_eq_getElem hi'] at hb; exact Option.some.inj hb
    rw [hd, dv] at hg
    have hbb : b.toNat < 256 := UInt8.toNat_lt b
    refine Good.val (Yv.indexAddr rfl rfl rfl rfl rfl rfl (by omega) (by omega)) ?_
    refine Good.on ?_
    refine Good.loadRaw 0 (b := b) ?_ ?_
    · simpa [ti5] using hb
    refine Good.on ?_
    by_cases hdig : 48 ≤ b.toNat ∧ b.toNat ≤ 57
    · have hw : IntKind.u8.wrap ((b.toNat : Int) - 48) = ((b.toNat - 48 : Nat) : Int) := by
        rw [show (b.toNat : Int) - 48 = ((b.toNat - 48 : Nat) : Int) from by omega]; exact u8w _ (by omega)
      rw [hw]
      rw [if_pos hdig] at hg
      obtain ⟨d, hdd⟩ : ∃ d, b.toNat - 48 = d := ⟨_, rfl⟩
      have hd10 : d ≤ 9 := by omega
      rw [hdd] at hg ⊢
      rw [if_pos (by omega)] at hg
      refine Good.ifD (fun h9 => ?_) (fun h9 => ?_)
      · omega
      refine Good.on ?_
      rw [w64 ((acc : Int) * 10) (by omega), w64 (d : Int) (by omega), w64 ((acc : Int) * 10 + (d : Int)) (by omega), show (acc : Int) * 10 + (d : Int) = ((acc * 10 + d : Nat) : Int) from by omega]
      refine Good.again (i + 1, acc * 10 + d) ⟨⟨by dsimp only; omega, by dsimp only; rw [Nat.pow_succ]; omega, hg⟩, by dsimp only; omega⟩ ⟨rfl, rfl, rfl, rfl, ?_, trivial⟩ (fun _ h => h)
      show some (Value.int .i64 _) = _
      rw [w64 _ (by omega)]; rfl
    · rw [if_neg hdig] at hg
      have hw : ∃ e : Nat, 9 < e ∧ IntKind.u8.wrap ((b.toNat : Int) - 48) = (e : Int) := by
        by_cases h48 : 48 ≤ b.toNat
        · exact ⟨b.toNat - 48, by omega, by rw [show (b.toNat : Int) - 48 = ((b.toNat - 48 : Nat) : Int) from by omega]; exact u8w _ (by omega)⟩
        · exact ⟨b.toNat + 208, by omega, by simp [IntKind.wrap, IntKind.bits, IntKind.signed]; omega⟩
      obtain ⟨e, he, hw⟩ := hw
      rw [hw]
      refine Good.ifD (fun h9 => ?_) (fun h9 => ?_)
      rotate_left
      · omega
      refine Good.on ?_
      refine Good.ret2 Tryd.results109 (Res.tmp rfl) (Res.tmp rfl) ⟨⟨0, ⟨by decide, by decide⟩, .inr ⟨2, .inr rfl, ?_, rfl⟩⟩, rfl⟩ (fun _ h => h.clear)
      rw [hpi, posI, puL, if_neg hqn, ← hg]
  have h43n : c ≠ 43 := by
    intro e; subst e; simp at h43
  obtain ⟨q, hq⟩ : ∃ q, c :: r = q := ⟨_, rfl⟩
  have hql : q.length ≤ 18 := by rw [← hq]; (first | omega | (simp only [List.length_cons]; omega))
  have hqn : q ≠ [] := by rw [← hq]; simp
  have hpi : piL (q) = posI q := by rw [← hq, piL]; rw [if_neg h43n, if_neg h45n]
  rw [hq]
  refine Good.strBytes fun g cap hcap => ?_
  refine Good.on ?_
  refine Good.loop (ι := Nat × Nat) (fun x => [(5, .v (.string (str (q)))), (6, .v (.int .i64 (x.2 : Int))), (47, .v (.slice (some ⟨g, 0, none⟩) q.length cap)), (48, .v (.int .i64 q.length)), (49, .v (.int .i64 (x.1 : Int)))]) (fun _ => [rawB 5 g cap q])
    (fun x => x.1 ≤ q.length ∧ x.2 < 10 ^ x.1 ∧ dv x.2 (q.drop x.1) = dv 0 q) (fun x => q.length - x.1) (0, 0) ⟨by simp, by simp, rfl⟩ ⟨rfl, rfl, rfl, rfl, rfl, trivial⟩ (fun _ h => h) ?_
  rintro ⟨i, acc⟩ ⟨hi, hacc, hg⟩
  dsimp only at hi hacc hg ⊢
  have h10 : 10 ^ i ≤ 10 ^ 18 := Nat.pow_le_pow_right (by decide) (by omega)
  have h18 : 10 ^ 18 = 1000000000000000000 := by decide
  refine Good.on ?_
  refine Good.ifD (fun h => ?_) (fun h => ?_) <;> refine Good.on ?_
  rotate_left
  · have hd : q.drop i = [] := List.drop_eq_nil_of_le (by omega)
    rw [hd, dv] at hg
    have hpu : puL q = some acc := by rw [puL, if_neg hqn, ← hg]
    refine Good.val (Yv.index (n := 0) (b := c) rfl rfl rfl rfl rfl (by decide) (by rw [← hq]; rfl)) ?_
    refine Good.on ?_
    refine Good.ifB (fun h45 => ?_) (fun h45 => ?_) <;> refine Good.on ?_
    · exact absurd (show c = 45 from by
        have : c.toNat = 45 := by simp at h45; omega
        exact UInt8.toNat_inj.1 this) h45n
    refine Good.ret2 Tryd.results109 (Res.tmp rfl) (Res.tmp rfl) ⟨⟨(acc : Int), ⟨by omega, by omega⟩, .inl ⟨?_, rfl⟩⟩, rfl⟩ (fun _ h => h.clear)
    rw [hpi, posI, hpu]; exact if_pos (by omega)
  have hi' : i < q.length := by omega
  have h17 : 10 ^ i ≤ 10 ^ 17 := Nat.pow_le_pow_right (by decide) (by omega)
  have h17' : 10 ^ 17 = 100000000000000000 := by decide
  obtain ⟨b, hb⟩ : ∃ b, q[i]? = some b := ⟨_, List.getElem?_eq_getElem hi'⟩
  have hd : q.drop i = b :: q.drop (i + 1) := by
    rw [List.drop_eq_getElem_cons hi']; congr 1
    rw [List.getElem?_eq_getElem hi'] at hb; exact Option.some.inj hb
  rw [hd, dv] at hg
  have hbb : b.toNat < 256 := UInt8.toNat_lt b
  refine Good.val (Yv.indexAddr rfl rfl rfl rfl rfl rfl (by omega) (by omega)) ?_
  refine Good.on ?_
  refine Good.loadRaw 0 (b := b) ?_ ?_
  · simpa [ti5] using hb
  refine Good.on ?_
  by_cases hdig : 48 ≤ b.toNat ∧ b.toNat ≤ 57
  · have hw : IntKind.u8.wrap ((b.toNat : Int) - 48) = ((b.toNat - 48 : Nat) : Int) := by
      rw [show (b.toNat : Int) - 48 = ((b.toNat - 48 : Nat) : Int) from by omega]; exact u8w _ (by omega)
    rw [hw]
    rw [if_pos hdig] at hg
    obtain ⟨d, hdd⟩ : ∃ d, b.toNat - 48 = d := ⟨_, rfl⟩
    have hd10 : d ≤ 9 := by omega
    rw [hdd] at hg ⊢
    rw [if_pos (by omega)] at hg
    refine Good.ifD (fun h9 => ?_) (fun h9 => ?_)
    · omega
    refine Good.on ?_
    rw [w64 ((acc : Int) * 10) (by omega), w64 (d : Int) (by omega), w64 ((acc : Int) * 10 + (d : Int)) (by omega), show (acc : Int) * 10 + (d : Int) = ((acc * 10 + d : Nat) : Int) from by omega]
    refine Good.again (i + 1, acc * 10 + d) ⟨⟨by dsimp only; omega, by dsimp only; rw [Nat.pow_succ]; omega, hg⟩, by dsimp only; omega⟩ ⟨rfl, rfl, rfl, rfl, ?_, trivial⟩ (fun _ h => h)
    show some (Value.int .i64 _) = _
    rw [w64 _ (by omega)]; rfl
  · rw [if_neg hdig] at hg
    have hw : ∃ e : Nat, 9 < e ∧ IntKind.u8.wrap ((b.toNat : Int) - 48) = (e : Int) := by
      by_cases h48 : 48 ≤ b.toNat
      · exact ⟨b.toNat - 48, by omega, by rw [show (b.toNat : Int) - 48 = ((b.toNat - 48 : Nat) : Int) from by omega]; exact u8w _ (by omega)⟩
      · exact ⟨b.toNat + 208, by omega, by simp [IntKind.wrap, IntKind.bits, IntKind.signed]; omega⟩
    obtain ⟨e, he, hw⟩ := hw
    rw [hw]
    refine Good.ifD (fun h9 => ?_) (fun h9 => ?_)
    rotate_left
    · omega
    refine Good.on ?_
    refine Good.ret2 Tryd.results109 (Res.tmp rfl) (Res.tmp rfl) ⟨⟨0, ⟨by decide, by decide⟩, .inr ⟨2, .inr rfl, ?_, rfl⟩⟩, rfl⟩ (fun _ h => h.clear)
    rw [hpi, posI, puL, if_neg hqn, ← hg]
theorem atoi_spec (bs : List UInt8) (hl : bs.length ≤ 1000000000) : Spec Tryd.prog 87 #[.string (str bs)] Env [] fun r L => (∃ n e, I64 n ∧ r = .tuple #[.int .i64 n, e] ∧ ((piL bs = some n ∧ e = .nilIface) ∨ (piL bs = none ∧ nilB e = some false))) ∧ L = [] := by
  refine Spec.go (vs := [_]) (hT := tyOk) (hm := mixed0) Tryd.func87 rfl Tryd.ntmps87 rfl ?_
  intro W p hE
  refine Good.on ?_
  refine Good.callP [] (iAtoi_spec bs hl) ck109 ?_
  rintro v L ⟨⟨n, hn, hA⟩, rfl⟩
  rcases hA with ⟨hA, rfl⟩ | ⟨k, hk, hA, rfl⟩
  · refine Good.on ?_
    refine Good.val (Yv.ifaceNe rfl rfl rfl rfl rfl rfl) ?_
    refine Good.on ?_
    (refine Good.ifB (fun h => ?_) (fun h => ?_); exact absurd h (by decide))
    refine Good.on ?_
    refine Good.ret2 Tryd.results87 (Res.tmp rfl) (Res.tmp rfl) ⟨⟨n, .nilIface, hn, rfl, .inl ⟨hA, rfl⟩⟩, rfl⟩ (fun _ h => h.clear)
  · refine Good.on ?_
    refine Good.val (Yv.ifaceNe rfl rfl rfl rfl rfl rfl) ?_
    refine Good.on ?_
    (refine Good.ifB (fun h => ?_) (fun h => ?_); rotate_left; exact absurd h (by decide))
    refine Good.on ?_
    refine Good.callK [] (toError_spec [65, 116, 111, 105] bs 0 0 k (by omega) hk) stays_env hE ck110 ?_
    rintro e L ⟨he, A, B, rfl⟩
    refine Good.on ?_
    refine Good.ret2 Tryd.results87 (Res.tmp rfl) (Res.tmp rfl) ⟨⟨n, e, hn, rfl, .inr ⟨hA, he⟩⟩, rfl⟩ (fun _ h => h.clear)
end Go.Proofs.YtnfcbpgckomdfaaDoor
