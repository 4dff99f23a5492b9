/- Configurations held against each other; which ones can be. -/
import Derived.Test.YtnfcbpgckomdfaaDoorParse
namespace Go.Proofs.YtnfcbpgckomdfaaDoor
open Go.Lib (strCells)
theorem ruleFields : (Tryd.prog.fieldsOf 27).toList = [{ name := "Kind", type := 3, offset := 0, embedded := false, tag := "", pkgPath := "", byteOffset := 0 }, { name := "Bound", type := 3, offset := 1, embedded := false, tag := "", pkgPath := "", byteOffset := 8 }, { name := "Percent", type := 3, offset := 2, embedded := false, tag := "", pkgPath := "", byteOffset := 16 }, { name := "Window", type := 3, offset := 3, embedded := false, tag := "", pkgPath := "", byteOffset := 24 }, { name := "Sign", type := 3, offset := 4, embedded := false, tag := "", pkgPath := "", byteOffset := 32 }] := by
  unfold Program.fieldsOf; rw [tk27.under]; rfl
theorem ruleStruct : Tryd.prog.underlying 27 = some (.struct (Tryd.prog.fieldsOf 27)) := by
  unfold Program.fieldsOf; rw [tk27.under]; rfl
theorem RuleD.val_eq (r : RuleD) : r.val = .agg #[.int .i64 r.kind, .int .i64 r.bound, .int .i64 r.percent, .int .i64 r.window, .int .i64 r.sign] := rfl
theorem ruleEq (w : World) (d : Nat) (a b : RuleD) : (Op.equalIn (d + 2) 27 a.val b.val).run Tryd.prog w = .ok (decide (a = b)) w := by
  rw [RuleD.val_eq, RuleD.val_eq, run_equalIn_struct w (d + 1) _ _ _ ruleStruct (by kernel_rfl), ruleFields]
  have e1 : ∀ x y : Int, (Op.equalIn (d + 1) 3 (.int .i64 x) (.int .i64 y)).run Tryd.prog w = .ok (x == y) w := fun x y => run_equalIn_int w d _ _ .i64 x y tk3.under
  obtain ⟨a0, a1, a2, a3, a4⟩ := a
  obtain ⟨b0, b1, b2, b3, b4⟩ := b
  have pp : ∀ (xs : Array Value) (k : Nat) (v : Value), xs[k]? = some v → (part 3 xs k).run Tryd.prog w = .ok v w := fun xs k v h => run_part_plain w (by kernel_rfl) h
  have q0 : ∀ x0 x1 x2 x3 x4 : Int, (part 3 #[.int .i64 x0, .int .i64 x1, .int .i64 x2, .int .i64 x3, .int .i64 x4] 0).run Tryd.prog w = .ok (.int .i64 x0) w := fun _ _ _ _ _ => pp _ 0 _ rfl
  have q1 : ∀ x0 x1 x2 x3 x4 : Int, (part 3 #[.int .i64 x0, .int .i64 x1, .int .i64 x2, .int .i64 x3, .int .i64 x4] 1).run Tryd.prog w = .ok (.int .i64 x1) w := fun _ _ _ _ _ => pp _ 1 _ rfl
  have q2 : ∀ x0 x1 x2 x3 x4 : Int, (part 3 #[.int .i64 x0, .int .i64 x1, .int .i64 x2, .int .i64 x3, .int .i64 x4] 2).run Tryd.prog w = .ok (.int .i64 x2) w := fun _ _ _ _ _ => pp _ 2 _ rfl
  have q3 : ∀ x0 x1 x2 x3 x4 : Int, (part 3 #[.int .i64 x0, .int .i64 x1, .int .i64 x2, .int .i64 x3, .int .i64 x4] 3).run Tryd.prog w = .ok (.int .i64 x3) w := fun _ _ _ _ _ => pp _ 3 _ rfl
  have q4 : ∀ x0 x1 x2 x3 x4 : Int, (part 3 #[.int .i64 x0, .int .i64 x1, .int .i64 x2, .int .i64 x3, .int .i64 x4] 4).run Tryd.prog w = .ok (.int .i64 x4) w := fun _ _ _ _ _ => pp _ 4 _ rfl
  simp only [Op.eqFields, Sem.run_bind, Sem.run_ite, q0, q1, q2, q3, q4, e1, Result.andThen_ok, Sem.run_pure]
  have n1 : ("Kind" ≠ "_") := by decide
  have n2 : ("Bound" ≠ "_") := by decide
  have n3 : ("Percent" ≠ "_") := by decide
  have n4 : ("Window" ≠ "_") := by decide
  have n5 : ("Sign" ≠ "_") := by decide
  simp only [n1, n2, n3, n4, n5, not_false_eq_true, if_true, ne_eq]
  by_cases h1 : a0 = b0 <;> by_cases h2 : a1 = b1 <;> by_cases h3 : a2 = b2 <;> by_cases h4 : a3 = b3 <;> by_cases h5 : a4 = b4 <;> simp [h1, h2, h3, h4, h5]
section
variable {W : World} {p : Hl} {tm : Tm} {n : Nat} {o : Oper}
theorem ruleGuard (w : World) (op : BinOp) (x y : Operand) (a b : RuleD) : (eqGuard op 27 x y a.val b.val).run Tryd.prog w = .ok () w := run_eqGuard_agg w op _ x y _ _ (by kernel_rfl)
theorem Yv.ruleNe {x y : Operand} {t' : TypeId} {a b : RuleD} (ho : o.op = .binOp .neq 27 x y t') (hx : opd tm x = some (.v a.val)) (hy : opd tm y = some (.v b.val)) : Yv ⟨Tryd.prog, tyT, tyOk, mixed0, n, W, p⟩ tm o (.bool (!decide (a = b))) := fun ac hA w => by
  have hx' : ac.eval x = a.val := hA.eval hx
  have hy' : ac.eval y = b.val := hA.eval hy
  unfold execOp
  simp only [ho, hx', hy', Sem.run_bind, ruleGuard, Result.andThen_ok]
  rw [show (binOp .neq 27 a.val b.val).run Tryd.prog w = _ from run_neq_struct w _ _ _]
  rw [show (Op.equalIn 10000 27 (.agg a.cells.toArray) (.agg b.cells.toArray)).run Tryd.prog w = _ from ruleEq w 9998 a b]
  rfl
theorem Yv.ruleEql {x y : Operand} {t' : TypeId} {a b : RuleD} (ho : o.op = .binOp .eql 27 x y t') (hx : opd tm x = some (.v a.val)) (hy : opd tm y = some (.v b.val)) : Yv ⟨Tryd.prog, tyT, tyOk, mixed0, n, W, p⟩ tm o (.bool (decide (a = b))) := fun ac hA w => by
  have hx' : ac.eval x = a.val := hA.eval hx
  have hy' : ac.eval y = b.val := hA.eval hy
  unfold execOp
  simp only [ho, hx', hy', Sem.run_bind, ruleGuard, Result.andThen_ok]
  rw [show (binOp .eql 27 a.val b.val).run Tryd.prog w = _ from run_eql_struct w _ _ _]
  rw [show (Op.equalIn 10000 27 (.agg a.cells.toArray) (.agg b.cells.toArray)).run Tryd.prog w = _ from ruleEq w 9998 a b]
  rfl
end
set_option maxHeartbeats 1600000
set_option maxRecDepth 20000
theorem same19_spec (va vb : Value) (x y : ConfD) (h1 : x.rules.length ≤ 1000000) (h2 : y.rules.length ≤ 1000000) : Spec Tryd.prog 18 #[x.val va, y.val vb] (fun W p => Rd va x.rules.length (ruleCells x.rules) W p ∧ Rd vb y.rules.length (ruleCells y.rules) W p) [] fun r L => r = .bool (decide (x = y)) ∧ L = [] := by
  refine Spec.go (vs := [_, _]) (hT := tyOk) (hm := mixed0) Tryd.func18 rfl Tryd.ntmps18 rfl ?_
  rintro W p ⟨ra, rb⟩
  obtain ⟨a, ca, rfl⟩ := ra.is
  obtain ⟨b, cb, rfl⟩ := rb.is
  obtain ⟨l, t, d⟩ := x
  obtain ⟨m, t', d'⟩ := y
  dsimp only at h1 h2 ra rb
  refine Good.on ?_
  refine Good.box (us := (ConfD.mk l t d).cells (.slice a l.length ca)) (fun g => ?_)
  refine Good.on ?_
  refine Good.box (us := (ConfD.mk m t' d').cells (.slice b m.length cb)) (fun g' => ?_)
  refine Good.on ?_
  refine Good.load 1 (v := .int .i64 t) ?_
  refine Good.on ?_
  refine Good.load 0 (v := .int .i64 t') ?_
  refine Good.on ?_
  refine Good.partB (fun ht => ?_) (fun ht => ?_) <;> refine Good.on ?_
  · refine Good.ret1 Tryd.results18 (Res.tmp rfl) ⟨?_, rfl⟩ (fun _ h => h.clear)
    have : t ≠ t' := by simpa using ht
    simp [this]
  have ht : t = t' := by simpa using ht
  subst ht
  refine Good.load 1 (v := .int .i64 d) ?_
  refine Good.on ?_
  refine Good.load 0 (v := .int .i64 d') ?_
  refine Good.on ?_
  refine Good.partB (fun hd => ?_) (fun hd => ?_) <;> refine Good.on ?_
  · refine Good.ret1 Tryd.results18 (Res.tmp rfl) ⟨?_, rfl⟩ (fun _ h => h.clear)
    have : d ≠ d' := by simpa using hd
    simp [this]
  have hd : d = d' := by simpa using hd
  subst hd
  refine Good.load 1 (v := .slice a l.length ca) ?_
  refine Good.on ?_
  refine Good.load 0 (v := .slice b m.length cb) ?_
  refine Good.on ?_
  refine Good.ifB (fun hl => ?_) (fun hl => ?_) <;> refine Good.on ?_
  · refine Good.ret1 Tryd.results18 (Res.tmp rfl) ⟨?_, rfl⟩ (fun _ h => h.clear)
    have : l ≠ m := by intro e; subst e; simp at hl
    simp [this]
  have hlm : l.length = m.length := by simp at hl; omega
  refine Good.loop (ι := Nat) (fun i => [(2, .v (.pointer (some ⟨g, 0, none⟩))), (3, .v (.pointer (some ⟨g', 0, none⟩))), (5, .v (.int .i64 (i : Int)))]) (fun _ => [HP.row g' ((ConfD.mk m t d).cells (.slice b m.length cb)) 24, HP.row g ((ConfD.mk l t d).cells (.slice a l.length ca)) 24])
    (fun i => i ≤ l.length ∧ l.take i = m.take i) (fun i => l.length - i) 0 ⟨by simp, by simp⟩ ⟨rfl, rfl, rfl, trivial⟩ (fun _ h => h) ?_
  rintro i ⟨hi, hti⟩
  refine Good.on ?_
  refine Good.load 1 (v := .slice a l.length ca) ?_
  refine Good.on ?_
  refine Good.ifD (fun h => ?_) (fun h => ?_) <;> refine Good.on ?_
  rotate_left
  · have : i = l.length := by omega
    subst this
    refine Good.ret1 Tryd.results18 (Res.tmp rfl) ⟨?_, rfl⟩ (fun _ h => h.clear)
    have : l = m := by
      rw [List.take_length, hlm, List.take_length] at hti; exact hti
    simp [this]
  have hi' : i < l.length := by omega
  have hr : l[i]? = some l[i] := List.getElem?_eq_getElem hi'
  have hs : m[i]? = some (m[i]'(by omega)) := List.getElem?_eq_getElem (by omega)
  obtain ⟨g0, off, rfl, hc⟩ := ra.pos (by rw [ruleCells_length]; omega)
  obtain ⟨g0', off', rfl, hc'⟩ := rb.pos (by rw [ruleCells_length]; omega)
  refine Good.drawn ?_
  refine Good.hold (fun w => (CellAt ⟨g, 0, none⟩ (.slice (some ⟨g0, off, none⟩) l.length ca) w ∧ CellAt ⟨g', 0, none⟩ (.slice (some ⟨g0', off', none⟩) m.length cb) w) ∧ (∀ j v, l[i].cells[j]? = some v → w.cell? ⟨g0, off + i * 5 + j, none⟩ = some v) ∧ (∀ j v, (m[i]'(by omega)).cells[j]? = some v → w.cell? ⟨g0', off' + i * 5 + j, none⟩ = some v)) (fun w h => ⟨⟨h.cell 1 rfl rfl, h.cell 0 rfl rfl⟩, fun j v hj => ?_, fun j v hj => ?_⟩) ?_
  · have := hc _ w h _ _ (ruleCells_get l i _ hr j v hj)
    rw [← Nat.add_assoc] at this; exact this
  · have := hc' _ w h _ _ (ruleCells_get m i _ hs j v hj)
    rw [← Nat.add_assoc] at this; exact this
  refine Good.dload 1 rfl (fun w h => h.1.1) ?_
  refine Good.dload 6 rfl (fun w h => h.1.2) ?_
  refine Good.dval 3 rfl (Yv.indexAddr rfl rfl rfl rfl rfl rfl (by omega) (by omega)) ?_
  refine Good.dval 8 rfl (Yv.indexAddr rfl rfl rfl rfl rfl rfl (by omega) (by omega)) ?_
  refine Good.dloadRow 4 l[i].cells rfl (fun w h => h.2.1) ?_
  refine Good.dloadRow 9 (m[i]'(by omega)).cells rfl (fun w h => h.2.2) ?_
  refine Good.dval 10 rfl (Yv.ruleNe (a := l[i]) (b := m[i]'(by omega)) rfl rfl rfl) ?_
  refine Good.dend ?_
  refine Good.on ?_
  refine Good.ifB (fun h2 => ?_) (fun h2 => ?_) <;> refine Good.on ?_
  · refine Good.ret1 Tryd.results18 (Res.tmp rfl) ⟨?_, rfl⟩ (fun _ h => h.clear)
    have : l ≠ m := fun e => by subst e; simp at h2
    simp [this]
  · have he : l[i] = m[i]'(by omega) := by simpa using h2
    refine Good.again (i + 1) ⟨⟨by omega, ?_⟩, by omega⟩ ⟨rfl, rfl, ?_, trivial⟩ (fun _ h => h)
    · rw [List.take_succ_eq_append_getElem hi', List.take_succ_eq_append_getElem (by omega), hti, he]
    · show some (Value.int .i64 _) = _
      rw [w64 _ (by omega)]; rfl
end Go.Proofs.YtnfcbpgckomdfaaDoor
