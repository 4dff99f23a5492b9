/- strconv: numbers with a sign, to the base 10. -/
import Derived.Test.YtnfcbpgckomdfaaDoorPuD
namespace Go.Proofs.YtnfcbpgckomdfaaDoor
open Go.Lib (strCells)
def posI (bs : List UInt8) : Option Int := match puL bs with
  | some v => if v < 9223372036854775808 then some (v : Int) else none
  | none => none
def negI (bs : List UInt8) : Option Int := match puL bs with
  | some v => if v ≤ 9223372036854775808 then some (-(v : Int)) else none
  | none => none
/-- A text's number. -/
def piL : List UInt8 → Option Int
  | [] => none
  | c :: r => if c = 43 then posI r else if c = 45 then negI r else posI (c :: r)
def piA (bs : List UInt8) (r : Value) : Prop := ∃ n : Int, I64 n ∧ ((piL bs = some n ∧ r = .tuple #[.int .i64 n, .nilIface]) ∨ ∃ k : Int, (k = 1 ∨ k = 2) ∧ piL bs = none ∧ r = .tuple #[.int .i64 n, errV k])
theorem wneg (v : Nat) (h : v ≤ 9223372036854775808) : IntKind.i64.wrap (0 - IntKind.i64.wrap (v : Int)) = -(v : Int) := by
  simp [IntKind.wrap, IntKind.bits, IntKind.signed]; omega
section
variable {C : Cx} {tm : Tm} {o : Oper}
/-- Two interface values over one type of numbers. -/
theorem Yv.ifaceNeInt {t t' tx : TypeId} {i ix : TI} {x y : Operand} {ex ey : Ent} {k : IntKind} {a b : Int} (ho : o.op = .binOp .neq t x y t') (hx : opd tm x = some ex) (hxv : ex.val = .iface tx (.int k a)) (hy : opd tm y = some ey) (hyv : ey.val = .iface tx (.int k b)) (ht : C.T.get t = some i) (hi : isIface i.desc = true) (htx : C.T.get tx = some ix) (hix : ix.desc = .int k) (hc : (C.P.info? tx).map (·.comparable) = some true) : Yv C tm o (.bool (!(a == b))) := fun ac hA w => by
  have hu := (C.ok t i ht).under
  obtain ⟨ms, hms⟩ := isIface_ok hi
  rw [hms] at hu
  have hux := (C.ok tx ix htx).under
  rw [hix] at hux
  have hx' : ac.eval x = .iface tx (.int k a) := by rw [hA.eval hx, hxv]
  have hy' : ac.eval y = .iface tx (.int k b) := by rw [hA.eval hy, hyv]
  have h : ∀ d : Nat, (Op.equalIn (d + 2) t (.iface tx (.int k a)) (.iface tx (.int k b))).run C.P w = .ok (a == b) w := fun d => by
    cases hq : C.P.info? tx with
    | none => rw [hq] at hc; cases hc
    | some j =>
      rw [hq] at hc
      have hj : j.comparable = true := by simpa using hc
      simp [Op.equalIn, run_underlying hu, run_underlying hux, typeInfo, hq, hj]
  have hg : eqGuard .neq t x y (.iface tx (.int k a)) (.iface tx (.int k b)) = Pure.pure () := by unfold eqGuard; rfl
  unfold execOp
  simp only [ho, hx', hy', hg, binOp, Sem.run_bind, Sem.run_pure, Result.andThen_ok]
  simp [Op.equal, Op.maxDepth, h 9998]
end
set_option maxHeartbeats 1600000
set_option maxRecDepth 20000
theorem parseInt_spec (bs : List UInt8) (hl : bs.length ≤ 1000000000) : Spec Tryd.prog 129 #[.string (str bs), .int .i64 10, .int .i64 0] noFacts [] fun r L => piA bs r ∧ L = [] := by
  refine Spec.go (vs := [_, _, _]) (hT := tyOk) (hm := mixed0) Tryd.func129 rfl Tryd.ntmps129 rfl ?_
  intro W p _
  refine Good.on ?_
  rw [str_toList]
  refine Good.ifB (fun h => ?_) (fun h => ?_) <;> refine Good.on ?_
  · refine Good.ret2 Tryd.results129 (Res.tmp rfl) (Res.tmp rfl) ⟨?_, rfl⟩ (fun _ h => h.clear)
    have : bs = [] := by simpa using h
    subst this
    exact ⟨0, ⟨by decide, by decide⟩, .inr ⟨2, .inr rfl, rfl, rfl⟩⟩
  obtain ⟨c, r, rfl⟩ : ∃ c r, bs = c :: r := by
    cases bs with
    | nil => simp at h
    | cons c r => exact ⟨c, r, rfl⟩
  simp only [List.length_cons] at hl
  refine Good.val (Yv.index (n := 0) (b := c) rfl rfl rfl rfl rfl (by decide) rfl) ?_
  refine Good.on ?_
  refine Good.ifB (fun hp => ?_) (fun hp => ?_) <;> refine Good.on ?_
  · have hcc : c = 43 := by
      have : c.toNat = 43 := by simp at hp; omega
      exact UInt8.toNat_inj.1 this
    refine Good.val (Yv.sliceStr 1 (r.length + 1) rfl rfl rfl rfl rfl rfl ⟨_, rfl⟩ rfl (by omega) (by simp)) ?_
    rw [show (((c :: r).take (r.length + 1)).drop 1) = r from by rw [← List.length_cons (a := c), List.take_length]; rfl]
    refine Good.on ?_
    refine Good.callP [] (pu10_spec (r) (by first | omega | (simp; omega))) ck123 ?_
    rintro v L ⟨hA, rfl⟩
    rcases hA with ⟨v, hv, hpu, rfl⟩ | ⟨v, k, hk, hpu, rfl⟩
    · refine Good.on ?_
      refine Good.val (Yv.ifaceNe rfl rfl rfl rfl rfl rfl) ?_
      refine Good.on ?_
      (refine Good.partB (fun h => ?_) (fun h => ?_); exact absurd h (by decide))
      refine Good.on ?_
      (refine Good.ifB (fun h => ?_) (fun h => ?_); rotate_left; exact absurd h (by decide))
      refine Good.on ?_
      rw [show IntKind.u64.wrap (IntKind.i64.wrap (64 - 1)) = 63 from by decide]
      refine Good.val (Yv.bin (z := .int .u64 9223372036854775808) rfl rfl rfl rfl) ?_
      refine Good.on ?_
      refine Good.ifD (fun hge => ?_) (fun hge => ?_) <;> refine Good.on ?_
      · refine Good.ret2 Tryd.results129 (Res.tmp rfl) (Res.tmp rfl) ⟨⟨9223372036854775807, ⟨by decide, by decide⟩, .inr ⟨1, .inl rfl, ?_, by first | rfl | decide⟩⟩, rfl⟩ (fun _ h => h.clear)
        rw [piL]; rw [if_pos hcc]; rw [posI, hpu]; exact if_neg (by omega)
      refine Good.ret2 Tryd.results129 (Res.tmp rfl) (Res.tmp rfl) ⟨⟨v, ⟨by omega, by omega⟩, .inl ⟨?_, ?_⟩⟩, rfl⟩ (fun _ h => h.clear)
      · rw [piL]; rw [if_pos hcc]; rw [posI, hpu]; exact if_pos (by omega)
      · rw [w64 _ (by omega)]
    · have hpi : piL (c :: r) = none := by rw [piL]; rw [if_pos hcc]; rw [posI, hpu]
      refine Good.on ?_
      refine Good.val (Yv.ifaceNe rfl rfl rfl rfl rfl rfl) ?_
      refine Good.on ?_
      (refine Good.partB (fun h => ?_) (fun h => ?_); rotate_left; exact absurd h (by decide))
      refine Good.on ?_
      rcases hk with rfl | ⟨rfl, rfl⟩
      · refine Good.val (Yv.ifaceNeInt (a := 2) (b := 1) rfl rfl rfl rfl rfl rfl rfl rfl rfl (by kernel_rfl)) ?_
        refine Good.on ?_
        (refine Good.ifB (fun h => ?_) (fun h => ?_); rotate_left; exact absurd h (by decide))
        refine Good.on ?_
        refine Good.ret2 Tryd.results129 (Res.tmp rfl) (Res.tmp rfl) ⟨⟨0, ⟨by decide, by decide⟩, .inr ⟨2, .inr rfl, hpi, rfl⟩⟩, rfl⟩ (fun _ h => h.clear)
      · refine Good.val (Yv.ifaceNeInt (a := 1) (b := 1) rfl rfl rfl rfl rfl rfl rfl rfl rfl (by kernel_rfl)) ?_
        refine Good.on ?_
        (refine Good.ifB (fun h => ?_) (fun h => ?_); exact absurd h (by decide))
        refine Good.on ?_
        (refine Good.ifB (fun h => ?_) (fun h => ?_); rotate_left; exact absurd h (by decide))
        refine Good.on ?_
        rw [show IntKind.u64.wrap (IntKind.i64.wrap (64 - 1)) = 63 from by decide]
        refine Good.val (Yv.bin (z := .int .u64 9223372036854775808) rfl rfl rfl rfl) ?_
        refine Good.on ?_
        (refine Good.ifB (fun h => ?_) (fun h => ?_); rotate_left; exact absurd h (by decide))
        refine Good.on ?_
        refine Good.ret2 Tryd.results129 (Res.tmp rfl) (Res.tmp rfl) ⟨⟨9223372036854775807, ⟨by decide, by decide⟩, .inr ⟨1, .inl rfl, hpi, by first | rfl | decide⟩⟩, rfl⟩ (fun _ h => h.clear)
  have hc1 : c ≠ 43 := by
    intro e; subst e; simp at hp
  refine Good.ifB (fun hm => ?_) (fun hm => ?_) <;> refine Good.on ?_
  · have hcc : c = 45 := by
      have : c.toNat = 45 := by simp at hm; omega
      exact UInt8.toNat_inj.1 this
    refine Good.val (Yv.sliceStr 1 (r.length + 1) rfl rfl rfl rfl rfl rfl ⟨_, rfl⟩ rfl (by omega) (by simp)) ?_
    rw [show (((c :: r).take (r.length + 1)).drop 1) = r from by rw [← List.length_cons (a := c), List.take_length]; rfl]
    refine Good.on ?_
    refine Good.callP [] (pu10_spec (r) (by first | omega | (simp; omega))) ck123 ?_
    rintro v L ⟨hA, rfl⟩
    rcases hA with ⟨v, hv, hpu, rfl⟩ | ⟨v, k, hk, hpu, rfl⟩
    · refine Good.on ?_
      refine Good.val (Yv.ifaceNe rfl rfl rfl rfl rfl rfl) ?_
      refine Good.on ?_
      (refine Good.partB (fun h => ?_) (fun h => ?_); exact absurd h (by decide))
      refine Good.on ?_
      (refine Good.ifB (fun h => ?_) (fun h => ?_); rotate_left; exact absurd h (by decide))
      refine Good.on ?_
      rw [show IntKind.u64.wrap (IntKind.i64.wrap (64 - 1)) = 63 from by decide]
      refine Good.val (Yv.bin (z := .int .u64 9223372036854775808) rfl rfl rfl rfl) ?_
      refine Good.on ?_
      refine Good.ifD (fun hge => ?_) (fun hge => ?_) <;> refine Good.on ?_
      · refine Good.ret2 Tryd.results129 (Res.tmp rfl) (Res.tmp rfl) ⟨⟨-9223372036854775808, ⟨by decide, by decide⟩, .inr ⟨1, .inl rfl, ?_, by first | rfl | decide⟩⟩, rfl⟩ (fun _ h => h.clear)
        rw [piL]; rw [if_neg hc1, if_pos hcc]; rw [negI, hpu]; exact if_neg (by omega)
      refine Good.ret2 Tryd.results129 (Res.tmp rfl) (Res.tmp rfl) ⟨⟨-(v : Int), ⟨by omega, by omega⟩, .inl ⟨?_, ?_⟩⟩, rfl⟩ (fun _ h => h.clear)
      · rw [piL]; rw [if_neg hc1, if_pos hcc]; rw [negI, hpu]; exact if_pos (by omega)
      · rw [wneg v (by omega)]
    · have hpi : piL (c :: r) = none := by rw [piL]; rw [if_neg hc1, if_pos hcc]; rw [negI, hpu]
      refine Good.on ?_
      refine Good.val (Yv.ifaceNe rfl rfl rfl rfl rfl rfl) ?_
      refine Good.on ?_
      (refine Good.partB (fun h => ?_) (fun h => ?_); rotate_left; exact absurd h (by decide))
      refine Good.on ?_
      rcases hk with rfl | ⟨rfl, rfl⟩
      · refine Good.val (Yv.ifaceNeInt (a := 2) (b := 1) rfl rfl rfl rfl rfl rfl rfl rfl rfl (by kernel_rfl)) ?_
        refine Good.on ?_
        (refine Good.ifB (fun h => ?_) (fun h => ?_); rotate_left; exact absurd h (by decide))
        refine Good.on ?_
        refine Good.ret2 Tryd.results129 (Res.tmp rfl) (Res.tmp rfl) ⟨⟨0, ⟨by decide, by decide⟩, .inr ⟨2, .inr rfl, hpi, rfl⟩⟩, rfl⟩ (fun _ h => h.clear)
      · refine Good.val (Yv.ifaceNeInt (a := 1) (b := 1) rfl rfl rfl rfl rfl rfl rfl rfl rfl (by kernel_rfl)) ?_
        refine Good.on ?_
        (refine Good.ifB (fun h => ?_) (fun h => ?_); exact absurd h (by decide))
        refine Good.on ?_
        (refine Good.ifB (fun h => ?_) (fun h => ?_); rotate_left; exact absurd h (by decide))
        refine Good.on ?_
        rw [show IntKind.u64.wrap (IntKind.i64.wrap (64 - 1)) = 63 from by decide]
        refine Good.val (Yv.bin (z := .int .u64 9223372036854775808) rfl rfl rfl rfl) ?_
        refine Good.on ?_
        (refine Good.ifB (fun h => ?_) (fun h => ?_); rotate_left; exact absurd h (by decide))
        refine Good.on ?_
        refine Good.ret2 Tryd.results129 (Res.tmp rfl) (Res.tmp rfl) ⟨⟨-9223372036854775808, ⟨by decide, by decide⟩, .inr ⟨1, .inl rfl, hpi, by first | rfl | decide⟩⟩, rfl⟩ (fun _ h => h.clear)
  have hc2 : c ≠ 45 := by
    intro e; subst e; simp at hm
  refine Good.callP [] (pu10_spec (c :: r) (by first | omega | (simp; omega))) ck123 ?_
  rintro v L ⟨hA, rfl⟩
  rcases hA with ⟨v, hv, hpu, rfl⟩ | ⟨v, k, hk, hpu, rfl⟩
  · refine Good.on ?_
    refine Good.val (Yv.ifaceNe rfl rfl rfl rfl rfl rfl) ?_
    refine Good.on ?_
    (refine Good.partB (fun h => ?_) (fun h => ?_); exact absurd h (by decide))
    refine Good.on ?_
    (refine Good.ifB (fun h => ?_) (fun h => ?_); rotate_left; exact absurd h (by decide))
    refine Good.on ?_
    rw [show IntKind.u64.wrap (IntKind.i64.wrap (64 - 1)) = 63 from by decide]
    refine Good.val (Yv.bin (z := .int .u64 9223372036854775808) rfl rfl rfl rfl) ?_
    refine Good.on ?_
    refine Good.ifD (fun hge => ?_) (fun hge => ?_) <;> refine Good.on ?_
    · refine Good.ret2 Tryd.results129 (Res.tmp rfl) (Res.tmp rfl) ⟨⟨9223372036854775807, ⟨by decide, by decide⟩, .inr ⟨1, .inl rfl, ?_, by first | rfl | decide⟩⟩, rfl⟩ (fun _ h => h.clear)
      rw [piL]; rw [if_neg hc1, if_neg hc2]; rw [posI, hpu]; exact if_neg (by omega)
    refine Good.ret2 Tryd.results129 (Res.tmp rfl) (Res.tmp rfl) ⟨⟨v, ⟨by omega, by omega⟩, .inl ⟨?_, ?_⟩⟩, rfl⟩ (fun _ h => h.clear)
    · rw [piL]; rw [if_neg hc1, if_neg hc2]; rw [posI, hpu]; exact if_pos (by omega)
    · rw [w64 _ (by omega)]
  · have hpi : piL (c :: r) = none := by rw [piL]; rw [if_neg hc1, if_neg hc2]; rw [posI, hpu]
    refine Good.on ?_
    refine Good.val (Yv.ifaceNe rfl rfl rfl rfl rfl rfl) ?_
    refine Good.on ?_
    (refine Good.partB (fun h => ?_) (fun h => ?_); rotate_left; exact absurd h (by decide))
    refine Good.on ?_
    rcases hk with rfl | ⟨rfl, rfl⟩
    · refine Good.val (Yv.ifaceNeInt (a := 2) (b := 1) rfl rfl rfl rfl rfl rfl rfl rfl rfl (by kernel_rfl)) ?_
      refine Good.on ?_
      (refine Good.ifB (fun h => ?_) (fun h => ?_); rotate_left; exact absurd h (by decide))
      refine Good.on ?_
      refine Good.ret2 Tryd.results129 (Res.tmp rfl) (Res.tmp rfl) ⟨⟨0, ⟨by decide, by decide⟩, .inr ⟨2, .inr rfl, hpi, rfl⟩⟩, rfl⟩ (fun _ h => h.clear)
    · refine Good.val (Yv.ifaceNeInt (a := 1) (b := 1) rfl rfl rfl rfl rfl rfl rfl rfl rfl (by kernel_rfl)) ?_
      refine Good.on ?_
      (refine Good.ifB (fun h => ?_) (fun h => ?_); exact absurd h (by decide))
      refine Good.on ?_
      (refine Good.ifB (fun h => ?_) (fun h => ?_); rotate_left; exact absurd h (by decide))
      refine Good.on ?_
      rw [show IntKind.u64.wrap (IntKind.i64.wrap (64 - 1)) = 63 from by decide]
      refine Good.val (Yv.bin (z := .int .u64 9223372036854775808) rfl rfl rfl rfl) ?_
      refine Good.on ?_
      (refine Good.ifB (fun h => ?_) (fun h => ?_); rotate_left; exact absurd h (by decide))
      refine Good.on ?_
      refine Good.ret2 Tryd.results129 (Res.tmp rfl) (Res.tmp rfl) ⟨⟨9223372036854775807, ⟨by decide, by decide⟩, .inr ⟨1, .inl rfl, hpi, by first | rfl | decide⟩⟩, rfl⟩ (fun _ h => h.clear)
end Go.Proofs.YtnfcbpgckomdfaaDoor
