/- strconv: reading numbers to the base 16; what goes wrong there. -/
import Derived.Test.YtnfcbpgckomdfaaDoorBy
import Derived.Test.YtnfcbpgckomdfaaDoorUtfB
namespace Go.Proofs.YtnfcbpgckomdfaaDoor
open Go.Lib (strCells)
section
variable {C : Cx} {tm : Tm} {o : Oper}
/-- Two interface values over one type of numbers. -/
theorem Yv.ifaceEqInt {t t' tx : TypeId} {i ix : TI} {x y : Operand} {ex ey : Ent} {k : IntKind} {a b : Int} (ho : o.op = .binOp .eql t x y t') (hx : opd tm x = some ex) (hxv : ex.val = .iface tx (.int k a)) (hy : opd tm y = some ey) (hyv : ey.val = .iface tx (.int k b)) (ht : C.T.get t = some i) (hi : isIface i.desc = true) (htx : C.T.get tx = some ix) (hix : ix.desc = .int k) (hc : (C.P.info? tx).map (·.comparable) = some true) : Yv C tm o (.bool (a == b)) := fun ac hA w => by
  have hu := (C.ok t i ht).under
  obtain ⟨ms, hms⟩ := isIface_ok hi
  rw [hms] at hu
  have hux := (C.ok tx ix htx).under
  rw [hix] at hux
  have hx' : ac.eval x = .iface tx (.int k a) := by rw [hA.eval hx, hxv]
  have hy' : ac.eval y = .iface tx (.int k b) := by rw [hA.eval hy, hyv]
  have h : ∀ d : Nat, (Op.equalIn (d + 2) t (.iface tx (.int k a)) (.iface tx (.int k b))).run C.P w = .ok (a == b) w := fun d => by
    cases hq : C.P.info? tx with
    | none => rw [hq] at hc; cases hc
    | some j =>
      rw [hq] at hc
      have hj : j.comparable = true := by simpa using hc
      simp [Op.equalIn, run_underlying hu, run_underlying hux, typeInfo, hq, hj]
  have hg : eqGuard .eql t x y (.iface tx (.int k a)) (.iface tx (.int k b)) = Pure.pure () := by unfold eqGuard; rfl
  unfold execOp
  simp only [ho, hx', hy', hg, binOp, Sem.run_bind, Sem.run_pure, Result.andThen_ok]
  simp [Op.equal, Op.maxDepth, h 9998]
end
set_option maxHeartbeats 1600000
set_option maxRecDepth 20000
theorem str_bufF {W w : World} {p : Hl} {l : List HP} {g : Nat} {e : TypeId} {bs : List UInt8} (h0 : bs ≠ []) (hl : bs.length ≤ maxLen) (s : Sat W p (HP.row g (strCells (str bs)) e :: l) w) : Sat W p (bufF e (.slice (some ⟨g, 0, none⟩) bs.length bs.length) bs :: l) w :=
  Sat.bufShut (rest := []) (fz := (0, 0)) rfl (List.length_pos_iff.2 h0) (by simp) hl (Nat.zero_le _) (by simpa using s)
theorem zeroL_one (n : Nat) : zeroL [Value.int .u8 0] n = List.replicate n (.int .u8 0) := by
  induction n with
  | zero => rfl
  | succ n ih => rw [zeroL, ih]; rfl
theorem listSet_all : ∀ (l vs : List Value), l.length = vs.length → listSet l 0 vs = some vs
  | [], [], _ => rfl
  | x :: l, v :: vs, h => by simp only [listSet, listSet_all l vs (by simpa using h)]
  | [], _ :: _, h => by simp at h
  | _ :: _, [], h => by simp at h
theorem clone_spec (bs : List UInt8) (hl : bs.length ≤ 140737488355328) : Spec Tryd.prog 145 #[.string (str bs)] noFacts [] fun r L => r = .string (str bs) ∧ ∃ A, L = [A] := by
  refine Spec.go (vs := [_]) (hT := tyOk) (hm := mixed0) Tryd.func145 rfl Tryd.ntmps145 rfl ?_
  intro W p _
  refine Good.on ?_
  rw [str_size]
  refine Good.ifB (fun h => ?_) (fun h => ?_) <;> refine Good.on ?_
  · have : bs = [] := by simpa using h
    subst this
    refine Good.ret1 Tryd.results145 (Res.tmp rfl) ⟨rfl, HP.emp, rfl⟩ (fun w h => ?_)
    obtain ⟨k, a, b, c⟩ := h
    exact ⟨k, ⟨Hl.nil, k, fun _ => .inl rfl, (Hl.nil_un k).symm, rfl, a⟩, b, c⟩
  · have h0 : bs ≠ [] := by simpa using h
    have hp : 0 < bs.length := List.length_pos_iff.2 h0
    rw [str_size]
    refine Good.make (n := bs.length) ?_ (by omega) fun g => ?_
    · show 1 * bs.length ≤ _; omega
    refine Good.on ?_
    refine Good.copyStr 0 (bs := bs) (r := strCells (str bs)) (Nat.le_refl _) ?_ ?_
    · exact listSet_all _ _ (by rw [zeroL_length, strCells_len]; simp)
    refine Good.on ?_
    refine Good.val (Yv.indexAddr rfl rfl rfl rfl rfl rfl (by omega) (by omega)) ?_
    refine Good.on ?_
    refine Good.mem (l' := [bufF 5 (.slice (some ⟨g, 0, none⟩) bs.length bs.length) bs]) (fun w h => str_bufF h0 (by unfold maxLen; omega) h) ?_
    refine Good.op rfl (OpW.unsafeStr 0 rfl rfl rfl rfl h0 rfl rfl cells1 hl rfl ?_)
    refine Good.on ?_
    refine Good.ret1 Tryd.results145 (Res.tmp rfl) ⟨rfl, _, rfl⟩ (fun _ h => h)
theorem syntaxError_spec (fn bs : List UInt8) (hl : bs.length ≤ 140737488355328) : Spec Tryd.prog 130 #[.string (str fn), .string (str bs)] Env [] fun r L => (∃ g, r = .pointer (some ⟨g, 0, none⟩)) ∧ ∃ A B, L = [A, B] := by
  refine Spec.go (vs := [_, _]) (hT := tyOk) (hm := mixed0) Tryd.func130 rfl Tryd.ntmps130 rfl ?_
  intro W p hF
  obtain ⟨t, v, hE⟩ := hF.2.2.1
  refine Good.on ?_
  refine Good.hold (fun w => w.cell? ⟨4, 0, none⟩ = some (.iface t v)) (fun w h => hE.cell rfl h) ?_
  refine Good.drawn ?_
  refine Good.dload 3 rfl (fun w h => h) ?_
  refine Good.doneS 2 rfl (OpW.callK [] (clone_spec bs hl) stays_none trivial ck145 rfl rfl rfl rfl ?_)
  rintro r L ⟨rfl, A, rfl⟩
  refine ⟨fun w h => hE.cell rfl h, ?_⟩
  refine Good.dval 4 rfl (Yv.build rfl rfl) ?_
  refine Good.doneS 5 rfl (OpW.box rfl rfl rfl rfl fun g => ⟨fun w h => hE.cell rfl h, ?_⟩)
  refine Good.drawn ?_
  refine Good.dend ?_
  refine Good.on ?_
  refine Good.ret1 Tryd.results130 (Res.tmp rfl) ⟨⟨g, rfl⟩, _, _, rfl⟩ (fun _ h => h)
theorem rangeError_spec (fn bs : List UInt8) (hl : bs.length ≤ 140737488355328) : Spec Tryd.prog 131 #[.string (str fn), .string (str bs)] Env [] fun r L => (∃ g, r = .pointer (some ⟨g, 0, none⟩)) ∧ ∃ A B, L = [A, B] := by
  refine Spec.go (vs := [_, _]) (hT := tyOk) (hm := mixed0) Tryd.func131 rfl Tryd.ntmps131 rfl ?_
  intro W p hF
  obtain ⟨t, v, hE⟩ := hF.2.2.2
  refine Good.on ?_
  refine Good.hold (fun w => w.cell? ⟨5, 0, none⟩ = some (.iface t v)) (fun w h => hE.cell rfl h) ?_
  refine Good.drawn ?_
  refine Good.dload 3 rfl (fun w h => h) ?_
  refine Good.doneS 2 rfl (OpW.callK [] (clone_spec bs hl) stays_none trivial ck145 rfl rfl rfl rfl ?_)
  rintro r L ⟨rfl, A, rfl⟩
  refine ⟨fun w h => hE.cell rfl h, ?_⟩
  refine Good.dval 4 rfl (Yv.build rfl rfl) ?_
  refine Good.doneS 5 rfl (OpW.box rfl rfl rfl rfl fun g => ⟨fun w h => hE.cell rfl h, ?_⟩)
  refine Good.drawn ?_
  refine Good.dend ?_
  refine Good.on ?_
  refine Good.ret1 Tryd.results131 (Res.tmp rfl) ⟨⟨g, rfl⟩, _, _, rfl⟩ (fun _ h => h)
/-- The error that a number of a text's reading becomes. -/
def errV (n : Int) : Value := .iface 190 (.int .i64 n)
theorem toError_spec (fn bs : List UInt8) (b s n : Int) (hl : bs.length ≤ 140737488355328) (hn : n = 1 ∨ n = 2) : Spec Tryd.prog 110 #[.string (str fn), .string (str bs), .int .i64 b, .int .i64 s, errV n] Env [] fun r L => nilB r = some false ∧ ∃ A B, L = [A, B] := by
  refine Spec.go (vs := [_, _, _, _, _]) (hT := tyOk) (hm := mixed0) Tryd.func110 rfl Tryd.ntmps110 rfl ?_
  intro W p hF
  refine Good.on ?_
  refine Good.val (Yv.ifaceEqInt (a := n) (b := 2) rfl rfl rfl rfl rfl rfl rfl rfl rfl (by kernel_rfl)) ?_
  refine Good.on ?_
  refine Good.ifB (fun h => ?_) (fun h => ?_) <;> refine Good.on ?_
  · refine Good.callK [] (syntaxError_spec fn bs hl) stays_env hF ck130 ?_
    rintro r L ⟨⟨g, rfl⟩, A, B, rfl⟩
    refine Good.on ?_
    refine Good.ret1 Tryd.results110 (Res.tmp rfl) ⟨rfl, _, _, rfl⟩ (fun _ h => h)
  · have : n = 1 := by simp at h; omega
    subst this
    refine Good.val (Yv.ifaceEqInt (a := 1) (b := 1) rfl rfl rfl rfl rfl rfl rfl rfl rfl (by kernel_rfl)) ?_
    refine Good.on ?_
    refine Good.ifB (fun h => ?_) (fun h => ?_)
    rotate_left
    · cases h
    refine Good.on ?_
    refine Good.callK [] (rangeError_spec fn bs hl) stays_env hF ck131 ?_
    rintro r L ⟨⟨g, rfl⟩, A, B, rfl⟩
    refine Good.on ?_
    refine Good.ret1 Tryd.results110 (Res.tmp rfl) ⟨rfl, _, _, rfl⟩ (fun _ h => h)
end Go.Proofs.YtnfcbpgckomdfaaDoor
