/- choice.Read; choices held against each other. -/
import Derived.Test.YtnfcbpgckomdfaaDoorChoice
namespace Go.Proofs.YtnfcbpgckomdfaaDoor
open Go.Lib (strCells)
theorem cutL_len (c : UInt8) (bs : List UInt8) : (cutL c bs).1.length ≤ bs.length ∧ (cutL c bs).2.1.length ≤ bs.length := by
  unfold cutL
  split
  · simp
  · simp; omega
theorem numsO_one (w : List UInt8) : numsO [w] = (numW w).map fun n => [n] := by
  rw [numsO]; cases numW w <;> rfl
set_option maxHeartbeats 1600000
set_option maxRecDepth 20000
theorem chRead_spec (s : List UInt8) (hl : s.length ≤ 1000000000) : Spec Tryd.prog 51 #[.string (str s)] Env [] fun r L => r = readOV (readO s) ∧ L = [] := by
  refine Spec.go (vs := [_]) (hT := tyOk) (hm := mixed0) Tryd.func51 rfl Tryd.ntmps51 rfl ?_
  rintro W p hE
  refine Good.on ?_
  refine Good.alloc (us := (ChoiceD.mk false 0).cells) (fun g => ?_)
  refine Good.on ?_
  refine Good.callP [] (cut_spec s 32 hl) ck60 ?_
  rintro r L ⟨rfl, rfl⟩
  have hcl := cutL_len 32 s
  obtain ⟨w, rest, ok, hcut⟩ : ∃ w rest ok, cutL 32 s = (w, rest, ok) := ⟨_, _, _, rfl⟩
  rw [hcut] at hcl ⊢
  dsimp only at hcl
  simp only [cutV]
  refine Good.on ?_
  refine Good.op rfl (OpW.lit rfl rfl rfl fun g1 => ?_)
  refine Good.mem (l' := [slc 9 1 (.slice (some ⟨g1, 0, none⟩) 1 1) (strC [rest]), HP.row g (ChoiceD.mk false 0).cells 95]) (fun w h => Sat.rowSlc rfl (by unfold maxLen; omega) h) ?_
  refine Good.on ?_
  refine Good.callR (numbers_spec _ [rest] (by simp) (by simp; omega)) ck58 (fun w' h => ⟨stays_env.at hE h, Rd.nil (h.slcRd 0 rfl (by decide) rfl)⟩) ?_
  rintro v L hA
  unfold numsA at hA
  rw [numsO_one] at hA
  cases hns : numW rest with
  | none =>
    rw [hns] at hA
    obtain ⟨rfl, rfl⟩ := hA
    have hro : readO s = none := by rw [readO, hcut]; simp only; rw [hns]; simp
    cases ok with
    | false =>
      refine Good.on ?_
      (refine Good.partB (fun h => ?_) (fun h => ?_); rotate_left; exact absurd h (by decide))
      refine Good.on ?_
      refine Good.build ?_
      refine Good.on ?_
      refine Good.store 1 ?_
      refine Good.on ?_
      refine Good.ret2 Tryd.results51 (Res.row 1) (Res.tmp rfl) ⟨by rw [hro]; rfl, rfl⟩ (fun _ h => h.clear)
    | true =>
      refine Good.on ?_
      (refine Good.partB (fun h => ?_) (fun h => ?_); exact absurd h (by decide))
      refine Good.on ?_
      (refine Good.ifB (fun h => ?_) (fun h => ?_); rotate_left; exact absurd h (by decide))
      refine Good.on ?_
      refine Good.build ?_
      refine Good.on ?_
      refine Good.store 1 ?_
      refine Good.on ?_
      refine Good.ret2 Tryd.results51 (Res.row 1) (Res.tmp rfl) ⟨by rw [hro]; rfl, rfl⟩ (fun _ h => h.clear)
  | some n =>
  rw [hns] at hA
  obtain ⟨hn64, v', rfl, rfl⟩ := hA
  refine Good.know (fun w' h => h.slcIs (m := 1) 0 rfl (by decide) (by rfl)) ?_
  rintro ⟨a2, c2, rfl, hc2, hg2⟩
  obtain ⟨g2, rfl⟩ := hg2 (by simp [intsC])
  cases ok with
  | false =>
    have hro : readO s = none := by rw [readO, hcut]; rfl
    refine Good.on ?_
    (refine Good.partB (fun h => ?_) (fun h => ?_); rotate_left; exact absurd h (by decide))
    refine Good.on ?_
    refine Good.build ?_
    refine Good.on ?_
    refine Good.store 2 ?_
    refine Good.on ?_
    refine Good.ret2 Tryd.results51 (Res.row 2) (Res.tmp rfl) ⟨by rw [hro]; rfl, rfl⟩ (fun _ h => h.clear)
  | true =>
  have hro : readO s = readW w n := by rw [readO, hcut]; simp only; rw [hns]; rfl
  refine Good.on ?_
  (refine Good.partB (fun h => ?_) (fun h => ?_); exact absurd h (by decide))
  refine Good.on ?_
  (refine Good.ifB (fun h => ?_) (fun h => ?_); exact absurd h (by decide))
  refine Good.on ?_
  refine Good.ifB (fun h1 => ?_) (fun h1 => ?_) <;> refine Good.on ?_
  · have hw : w = pollL := by simpa [pollL] using h1
    refine Good.val (Yv.indexAddr rfl rfl rfl rfl rfl rfl (by decide) (by decide)) ?_
    refine Good.on ?_
    refine Good.loadC (v := .int .i64 n) (fun w' h => h.slcCell (j := 0) 0 rfl rfl rfl) ?_
    refine Good.on ?_
    refine Good.call0 (poll_spec n) ck82 ?_
    rintro r L ⟨rfl, rfl⟩
    refine Good.on ?_
    refine Good.store 2 ?_
    refine Good.on ?_
    refine Good.ret2 Tryd.results51 (Res.row 2) (Res.tmp rfl) ⟨by rw [hro, readW, if_pos hw]; rfl, rfl⟩ (fun _ h => h.clear)
  have hw : w ≠ pollL := by simpa [pollL] using h1
  refine Good.ifB (fun h2 => ?_) (fun h2 => ?_) <;> refine Good.on ?_
  · have hw2 : w = tickL := by simpa [tickL] using h2
    refine Good.val (Yv.indexAddr rfl rfl rfl rfl rfl rfl (by decide) (by decide)) ?_
    refine Good.on ?_
    refine Good.loadC (v := .int .i64 n) (fun w' h => h.slcCell (j := 0) 0 rfl rfl rfl) ?_
    refine Good.on ?_
    refine Good.call0 (tick_spec n) ck49 ?_
    rintro r L ⟨rfl, rfl⟩
    refine Good.on ?_
    refine Good.store 2 ?_
    refine Good.on ?_
    refine Good.ret2 Tryd.results51 (Res.row 2) (Res.tmp rfl) ⟨by rw [hro, readW, if_neg hw, if_pos hw2]; rfl, rfl⟩ (fun _ h => h.clear)
  have hw2 : w ≠ tickL := by simpa [tickL] using h2
  refine Good.build ?_
  refine Good.on ?_
  refine Good.store 2 ?_
  refine Good.on ?_
  refine Good.ret2 Tryd.results51 (Res.row 2) (Res.tmp rfl) ⟨by rw [hro, readW, if_neg hw, if_neg hw2]; rfl, rfl⟩ (fun _ h => h.clear)
theorem chFields : (Tryd.prog.fieldsOf 95).toList = [{ name := "Tick", type := 4, offset := 0, embedded := false, tag := "", pkgPath := "", byteOffset := 0 }, { name := "N", type := 3, offset := 1, embedded := false, tag := "", pkgPath := "", byteOffset := 8 }] := by
  unfold Program.fieldsOf; rw [tk95.under]; rfl
theorem chStruct : Tryd.prog.underlying 95 = some (.struct (Tryd.prog.fieldsOf 95)) := by
  unfold Program.fieldsOf; rw [tk95.under]; rfl
theorem ChoiceD.val_eq (r : ChoiceD) : r.val = .agg #[.bool r.tick, .int .i64 r.n] := rfl
theorem chEq (w : World) (d : Nat) (a b : ChoiceD) : (Op.equalIn (d + 2) 95 a.val b.val).run Tryd.prog w = .ok (decide (a = b)) w := by
  rw [ChoiceD.val_eq, ChoiceD.val_eq, run_equalIn_struct w (d + 1) _ _ _ chStruct (by kernel_rfl), chFields]
  have e1 : ∀ x y : Int, (Op.equalIn (d + 1) 3 (.int .i64 x) (.int .i64 y)).run Tryd.prog w = .ok (x == y) w := fun x y => run_equalIn_int w d _ _ .i64 x y tk3.under
  have e2 : ∀ x y : Bool, (Op.equalIn (d + 1) 4 (.bool x) (.bool y)).run Tryd.prog w = .ok (x == y) w := fun x y => run_equalIn_bool w d _ x y tk4.under
  obtain ⟨a0, a1⟩ := a
  obtain ⟨b0, b1⟩ := b
  have q0 : ∀ (x0 : Bool) (x1 : Int), (part 4 #[.bool x0, .int .i64 x1] 0).run Tryd.prog w = .ok (.bool x0) w := fun _ _ => run_part_plain w (by kernel_rfl) rfl
  have q1 : ∀ (x0 : Bool) (x1 : Int), (part 3 #[.bool x0, .int .i64 x1] 1).run Tryd.prog w = .ok (.int .i64 x1) w := fun _ _ => run_part_plain w (by kernel_rfl) rfl
  simp only [Op.eqFields, Sem.run_bind, Sem.run_ite, q0, q1, e1, e2, Result.andThen_ok, Sem.run_pure]
  have n1 : ("Tick" ≠ "_") := by decide
  have n2 : ("N" ≠ "_") := by decide
  simp only [n1, n2, not_false_eq_true, if_true, ne_eq]
  by_cases h1 : a0 = b0 <;> by_cases h2 : a1 = b1 <;> simp [h1, h2]
section
variable {W : World} {p : Hl} {tm : Tm} {n : Nat} {o : Oper}
theorem chGuard (w : World) (op : BinOp) (x y : Operand) (a b : ChoiceD) : (eqGuard op 95 x y a.val b.val).run Tryd.prog w = .ok () w := run_eqGuard_agg w op _ x y _ _ (by kernel_rfl)
theorem Yv.chNe {x y : Operand} {t' : TypeId} {a b : ChoiceD} (ho : o.op = .binOp .neq 95 x y t') (hx : opd tm x = some (.v a.val)) (hy : opd tm y = some (.v b.val)) : Yv ⟨Tryd.prog, tyT, tyOk, mixed0, n, W, p⟩ tm o (.bool (!decide (a = b))) := fun ac hA w => by
  have hx' : ac.eval x = a.val := hA.eval hx
  have hy' : ac.eval y = b.val := hA.eval hy
  unfold execOp
  simp only [ho, hx', hy', Sem.run_bind, chGuard, Result.andThen_ok]
  rw [show (binOp .neq 95 a.val b.val).run Tryd.prog w = _ from run_neq_struct w _ _ _]
  rw [show (Op.equalIn 10000 95 (.agg a.cells.toArray) (.agg b.cells.toArray)).run Tryd.prog w = _ from chEq w 9998 a b]
  rfl
end
end Go.Proofs.YtnfcbpgckomdfaaDoor
