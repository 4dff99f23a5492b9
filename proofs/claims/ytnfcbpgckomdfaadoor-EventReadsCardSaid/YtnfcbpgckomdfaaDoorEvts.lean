/- Merged: Iface Event EvP SplitN ERead Evs EvOf EvLast Plain EvEq Spk22 ReadLaw. -/
import Derived.Test.YtnfcbpgckomdfaaDoorAppG
import Derived.Test.YtnfcbpgckomdfaaDoorRefs
import Derived.Test.YtnfcbpgckomdfaaDoorChRead
import Derived.Test.YtnfcbpgckomdfaaDoorUnqP
namespace Go.Proofs.YtnfcbpgckomdfaaDoor
section
variable {C : Cx} {Q0 : Exit → Act → World → Prop} {K : List Fr} {tm : Tm} {l : List HP} {ops : Array Oper} {o : Oper} {os : List Oper} {d : Tmp} {J : Tm → List HP → Prop}
theorem OpW.callM {f : FuncId} {x : Operand} {e : Ent} {rv : Value} {name : String} {xs : List Operand} {ats : Array TypeId} {ags vs : List Value} {Facts : World → Hl → Prop} {pre fr : List HP} {R : Value → List HP → Prop}
    (S : Spec C.P f vs.toArray Facts pre R) (_hc : CallOk C.P f) (hM : ∀ w, (callMethod rv name ags.toArray).run C.P w = .ok (.enter f vs.toArray) w) (ho : o.op = .call { callee := .invoke x name, args := xs.toArray, argTypes := ats }) (hd : dstOk C.n o.dst = true) (hx : opd tm x = some e) (hv : e.val = rv) (ha : opds tm xs = some ags) (hp : l.Perm (pre ++ fr))
    (hF : ∀ (w : World) (q r : Hl), sepL fr r → q.dis r → Hl.le (q.un r) w → Upd C.W C.p (q.un r) w → Facts w q)
    (k : ∀ v L, R v L → J (tm.put o.dst v) (L ++ fr)) : OpW C o tm l J := fun K Q hK a w hA hS => by
  obtain ⟨h, s, hle, u⟩ := hS.perm hp
  obtain ⟨q, r, d, rfl, s1, s2⟩ := sepL_append _ s
  have hc' := S w q s1 (Hl.le_left hle) (hF w q r s2 d hle u)
  have hx' : a.eval x = rv := by rw [hA.eval hx, hv]
  show o.wp C.P a w K Q
  unfold Oper.wp execOp
  simp only [ho, resolve, invoke, Sem.run_bind, Sem.run_pure, Result.andThen_ok, List.map_toArray, opds_ok hA ha, hx']
  have e1 : ((#[rv] : Array Value) ++ ags.toArray)[0]? = some rv := by simp
  have e2 : ((#[rv] : Array Value) ++ ags.toArray).extract 1 ((#[rv] : Array Value) ++ ags.toArray).size = ags.toArray := by simp
  simp only [e1, e2, hM]
  show Calls _ _ _ _ _
  refine hc'.mono ?_
  rintro e w' ⟨v, L, rfl, hR, hs⟩
  exact hK _ _ (k v L hR) _ _ (hA.put hd v) (Sat.frame d s2 hle u hs)
/-- A method of an interface's value; it reads what it may. -/
theorem Good.invokeK {f : FuncId} {x : Operand} {e : Ent} {rv : Value} {name : String} {xs : List Operand} {ats : Array TypeId} {ags vs : List Value} {F : World → Hl → Prop} {R : Value → List HP → Prop} (S : Spec C.P f vs.toArray F [] R) (st : Stays F) (hF : F C.W C.p) (hc : CallOk C.P f) (hM : ∀ w, (callMethod rv name ags.toArray).run C.P w = .ok (.enter f vs.toArray) w) (kk : ∀ v L, R v L → Good C Q0 (.ops ops os) K ((d, .v v) :: tm) (L ++ l))
    (hg : guardE (dsts ops) tm o.guard = some true := by rfl) (hdst : o.dst = some d := by rfl) (hlt : Nat.blt d C.n = true := by rfl) (ho : o.op = .call { callee := .invoke x name, args := xs.toArray, argTypes := ats } := by rfl) (hx : opd tm x = some e := by rfl) (hv : e.val = rv := by rfl) (ha : opds tm xs = some ags := by rfl) : Good C Q0 (.ops ops (o :: os)) K tm l :=
  Good.op hg (OpW.callM (pre := []) (fr := l) S hc hM ho (dst_some hdst hlt) hx hv ha (List.Perm.refl _) (fun w q r _ _ _ h4 => st C.W w C.p q r hF h4) fun v L h => by rw [put_some hdst]; exact kk v L h)
def structE : TypeDesc → Bool
  | .struct _ => true
  | _ => false
/-- v, ok := x.(T) where x holds a T. -/
theorem Yv.assertYes {t at' : TypeId} {x : Operand} {e : Ent} {v : Value} {i : TI} (ho : o.op = .typeAssert x t at' true) (hx : opd tm x = some e) (hv : e.val = .iface at' v) (hi : C.T.get at' = some i) (hs : structE i.desc = true) : Yv C tm o (.tuple #[v, .bool true]) := fun a hA w => by
  have hx' : a.eval x = .iface at' v := by rw [hA.eval hx, hv]
  have hu := C.ok.under hi w
  cases hd : i.desc <;> simp only [hd, structE] at hs <;> try (cases hs; done)
  rw [hd] at hu
  unfold execOp
  simp only [ho, hx', Instr.typeAssert, Sem.run_bind, hu, Result.andThen_ok, if_true, Sem.run_pure]
/-- v, ok := x.(T) where x holds another one. -/
theorem Yv.assertNo {t at' u : TypeId} {x : Operand} {e : Ent} {v : Value} {i : TI} (ho : o.op = .typeAssert x t at' true) (hx : opd tm x = some e) (hv : e.val = .iface u v) (hne : Nat.beq u at' = false) (hi : C.T.get at' = some i) (hs : structE i.desc = true) : Yv C tm o (.tuple #[i.zero, .bool false]) := fun a hA w => by
  have hx' : a.eval x = .iface u v := by rw [hA.eval hx, hv]
  have hu := C.ok.under hi w
  have hz := C.ok.zeroOf hi w
  have hne' : ¬ u = at' := fun h => by rw [h, Nat.beq_refl] at hne; cases hne
  cases hd : i.desc <;> simp only [hd, structE] at hs <;> try (cases hs; done)
  rw [hd] at hu
  unfold execOp
  simp only [ho, hx', Instr.typeAssert, Sem.run_bind, hu, Result.andThen_ok, if_neg hne', if_true, Sem.run_pure, hz]
end
end Go.Proofs.YtnfcbpgckomdfaaDoor
namespace Go.Proofs.YtnfcbpgckomdfaaDoor
open Go.Lib (strCells)
theorem Spec.forget {P : Program} {f : FuncId} {args : Array Value} {F : World → Hl → Prop} {pre : List HP} {R : Value → List HP → Prop} (S : Spec P f args F pre R) : Spec P f args F pre fun v L => (∃ L', R v L') ∧ L = [] := fun W p s le hF =>
  (S W p s le hF).mono fun _ _ ⟨v, L, he, hR, hs⟩ => ⟨v, [], he, ⟨⟨L, hR⟩, rfl⟩, hs.clear⟩
structure ElemD where
  part : Int
  kind : Int
  time : Int
  text : List UInt8
  late : Bool
  deriving DecidableEq
inductive EvD where
  | elem (e : ElemD)
  | mark (t : Int)
  | fault (p f : Int)
  deriving DecidableEq
def ElemD.cells (e : ElemD) : List Value := [.int .i64 e.part, .int .i64 e.kind, .int .i64 e.time, .string (str e.text), .bool e.late]
structure ElemD.ok (e : ElemD) : Prop where
  part : I64 e.part
  kind : I64 e.kind
  time : I64 e.time
  text : e.text.length ≤ 100000
def EvD.ok : EvD → Prop
  | .elem e => e.ok
  | .mark t => I64 t
  | .fault p f => I64 p ∧ I64 f
def EvD.val : EvD → Value
  | .elem e => .iface 55 (.agg e.cells.toArray)
  | .mark t => .iface 59 (.agg #[.int .i64 t])
  | .fault p f => .iface 64 (.agg #[.int .i64 p, .int .i64 f])
/-- The same in the document's own type. -/
def EvD.plain : EvD → List Value
  | .elem e => [.int .i64 0, .int .i64 e.part, .int .i64 e.kind, .int .i64 e.time, .string (str e.text), .bool e.late, .int .i64 0, .int .i64 0]
  | .mark t => [.int .i64 1, .int .i64 0, .int .i64 0, .int .i64 0, .string (str []), .bool false, .int .i64 t, .int .i64 0]
  | .fault p f => [.int .i64 2, .int .i64 p, .int .i64 0, .int .i64 0, .string (str []), .bool false, .int .i64 0, .int .i64 f]
def elemL : List UInt8 := [101, 108, 101, 109, 101, 110, 116]
def lateL : List UInt8 := [108, 97, 116, 101]
def markL : List UInt8 := [109, 97, 114, 107]
def faultL : List UInt8 := [102, 97, 117, 108, 116]
def evL : EvD → List UInt8
  | .elem e => (if e.late then lateL ++ [32] else elemL ++ [32]) ++ itoaL e.part ++ [32] ++ itoaL e.kind ++ [32] ++ itoaL e.time ++ [32] ++ quoteL e.text
  | .mark t => markL ++ [32] ++ itoaL t
  | .fault p f => faultL ++ [32] ++ itoaL p ++ [32] ++ itoaL f
set_option maxHeartbeats 3200000
set_option maxRecDepth 20000
theorem markLine_spec (t : Int) (ht : I64 t) : Spec Tryd.prog 166 #[.agg #[.int .i64 t]] Env [] fun r L => r = .string (str (evL (.mark t))) ∧ L = [] := by
  refine Spec.go (vs := [_]) (hT := tyOk) (hm := mixed0) Tryd.func166 rfl Tryd.ntmps166 rfl ?_
  intro W p hE
  have hl := itoaL_len ht
  refine Good.on ?_
  refine Good.box (us := [.int .i64 t]) (fun g => ?_)
  refine Good.on ?_
  refine Good.load 0 (v := .int .i64 t) ?_
  refine Good.on ?_
  refine Good.callK [] (itoa_spec t ht) stays_env hE ck80 ?_
  rintro r L ⟨rfl, rfl⟩
  refine Good.on ?_
  refine Good.val (Yv.concat (a := markL ++ [32]) rfl rfl rfl (by simp [markL]; omega)) ?_
  refine Good.on ?_
  refine Good.ret1 Tryd.results166 (Res.tmp rfl) ⟨rfl, rfl⟩ (fun _ h => h.clear)
theorem faultLine_spec (q f : Int) (hq : I64 q) (hf : I64 f) : Spec Tryd.prog 168 #[.agg #[.int .i64 q, .int .i64 f]] Env [] fun r L => r = .string (str (evL (.fault q f))) ∧ L = [] := by
  refine Spec.go (vs := [_]) (hT := tyOk) (hm := mixed0) Tryd.func168 rfl Tryd.ntmps168 rfl ?_
  intro W p hE
  have hl := itoaL_len hq
  have hl2 := itoaL_len hf
  refine Good.on ?_
  refine Good.box (us := [.int .i64 q, .int .i64 f]) (fun g => ?_)
  refine Good.on ?_
  refine Good.hold (fun w => CellAt ⟨g, 0, none⟩ (.int .i64 q) w ∧ CellAt ⟨g, 1, none⟩ (.int .i64 f) w) (fun w h => ⟨h.cell 0 rfl rfl, h.cell 0 rfl rfl⟩) ?_
  refine Good.drawn ?_
  refine Good.dload 1 rfl (fun w h => h.1) ?_
  refine Good.dload 6 rfl (fun w h => h.2) ?_
  refine Good.drawn ?_
  refine Good.doneS 2 rfl (OpW.callK [] (itoa_spec q hq) stays_env hE ck80 rfl rfl rfl rfl ?_)
  rintro v L ⟨rfl, rfl⟩
  refine ⟨fun w h => ⟨h.cell 0 rfl rfl, h.cell 0 rfl rfl⟩, ?_⟩
  refine Good.dval 3 rfl (Yv.concat (a := faultL ++ [32]) rfl rfl rfl (by simp [faultL]; omega)) ?_
  refine Good.dval 4 rfl (Yv.concat (b := [32]) rfl rfl rfl (by simp [faultL]; omega)) ?_
  refine Good.doneS 7 rfl (OpW.callK [] (itoa_spec f hf) stays_env hE ck80 rfl rfl rfl rfl ?_)
  rintro v L ⟨rfl, rfl⟩
  refine ⟨fun w h => ⟨h.cell 0 rfl rfl, h.cell 0 rfl rfl⟩, ?_⟩
  refine Good.dval 8 rfl (Yv.concat rfl rfl rfl (by simp [faultL]; omega)) ?_
  refine Good.drawn ?_
  refine Good.dend ?_
  refine Good.on ?_
  refine Good.ret1 Tryd.results168 (Res.tmp rfl) ⟨rfl, rfl⟩ (fun _ h => h.clear)
theorem elemLine_spec (e : ElemD) (he : e.ok) : Spec Tryd.prog 165 #[.agg e.cells.toArray] Env [] fun r L => r = .string (str (evL (.elem e))) ∧ L = [] := by
  refine Spec.go (vs := [_]) (hT := tyOk) (hm := mixed0) Tryd.func165 rfl Tryd.ntmps165 rfl ?_
  intro W p hE
  have l1 := itoaL_len he.part
  have l2 := itoaL_len he.kind
  have l3 := itoaL_len he.time
  have l4 := quoteL_len e.text
  have l5 := he.text
  refine Good.on ?_
  refine Good.box (us := e.cells) (fun g => ?_)
  refine Good.on ?_
  refine Good.load 0 (v := .bool e.late) ?_
  refine Good.on ?_
  refine Good.ifB (fun hlate => ?_) (fun hlate => ?_) <;> refine Good.on ?_
  all_goals
    refine Good.hold (fun w => (CellAt ⟨g, 0, none⟩ (.int .i64 e.part) w ∧ CellAt ⟨g, 1, none⟩ (.int .i64 e.kind) w) ∧ CellAt ⟨g, 2, none⟩ (.int .i64 e.time) w ∧ CellAt ⟨g, 3, none⟩ (.string (str e.text)) w) (fun w h => ⟨⟨h.cell 0 rfl rfl, h.cell 0 rfl rfl⟩, h.cell 0 rfl rfl, h.cell 0 rfl rfl⟩) ?_
    refine Good.drawn ?_
    refine Good.dload 2 rfl (fun w h => h.1.1) ?_
    refine Good.dload 8 rfl (fun w h => h.1.2) ?_
    refine Good.dload 14 rfl (fun w h => h.2.1) ?_
    refine Good.dload 20 rfl (fun w h => h.2.2) ?_
    refine Good.drawn ?_
    refine Good.doneS 3 rfl (OpW.callK [] (itoa_spec e.part he.part) stays_env hE ck80 rfl rfl rfl rfl ?_)
    rintro v L ⟨rfl, rfl⟩
    refine ⟨fun w h => ⟨⟨h.cell 0 rfl rfl, h.cell 0 rfl rfl⟩, h.cell 0 rfl rfl, h.cell 0 rfl rfl⟩, ?_⟩
  · refine Good.dval 4 rfl (Yv.concat (a := lateL ++ [32]) rfl rfl rfl (by simp [lateL]; omega)) ?_
    refine Good.dval 5 rfl (Yv.concat (b := [32]) rfl rfl rfl (by simp [lateL]; omega)) ?_
    refine Good.doneS 9 rfl (OpW.callK [] (itoa_spec e.kind he.kind) stays_env hE ck80 rfl rfl rfl rfl ?_)
    rintro v L ⟨rfl, rfl⟩
    refine ⟨fun w h => ⟨⟨h.cell 0 rfl rfl, h.cell 0 rfl rfl⟩, h.cell 0 rfl rfl, h.cell 0 rfl rfl⟩, ?_⟩
    refine Good.dval 10 rfl (Yv.concat rfl rfl rfl (by simp [lateL]; omega)) ?_
    refine Good.dval 11 rfl (Yv.concat (b := [32]) rfl rfl rfl (by simp [lateL]; omega)) ?_
    refine Good.doneS 15 rfl (OpW.callK [] (itoa_spec e.time he.time) stays_env hE ck80 rfl rfl rfl rfl ?_)
    rintro v L ⟨rfl, rfl⟩
    refine ⟨fun w h => ⟨⟨h.cell 0 rfl rfl, h.cell 0 rfl rfl⟩, h.cell 0 rfl rfl, h.cell 0 rfl rfl⟩, ?_⟩
    refine Good.dval 16 rfl (Yv.concat rfl rfl rfl (by simp [lateL]; omega)) ?_
    refine Good.dval 17 rfl (Yv.concat (b := [32]) rfl rfl rfl (by simp [lateL]; omega)) ?_
    refine Good.doneS 21 rfl (OpW.callK [] (quote_spec e.text (by omega)).forget stays_env hE ck43 rfl rfl rfl rfl ?_)
    rintro v L ⟨⟨_, rfl, _⟩, rfl⟩
    refine ⟨fun w h => ⟨⟨h.cell 0 rfl rfl, h.cell 0 rfl rfl⟩, h.cell 0 rfl rfl, h.cell 0 rfl rfl⟩, ?_⟩
    refine Good.dval 22 rfl (Yv.concat rfl rfl rfl (by simp [lateL]; omega)) ?_
    refine Good.drawn ?_
    refine Good.dend ?_
    refine Good.on ?_
    refine Good.ret1 Tryd.results165 (Res.tmp rfl) ⟨?_, rfl⟩ (fun _ h => h.clear)
    rw [evL, if_pos hlate]
  · refine Good.dval 4 rfl (Yv.concat (a := elemL ++ [32]) rfl rfl rfl (by simp [elemL]; omega)) ?_
    refine Good.dval 5 rfl (Yv.concat (b := [32]) rfl rfl rfl (by simp [elemL]; omega)) ?_
    refine Good.doneS 9 rfl (OpW.callK [] (itoa_spec e.kind he.kind) stays_env hE ck80 rfl rfl rfl rfl ?_)
    rintro v L ⟨rfl, rfl⟩
    refine ⟨fun w h => ⟨⟨h.cell 0 rfl rfl, h.cell 0 rfl rfl⟩, h.cell 0 rfl rfl, h.cell 0 rfl rfl⟩, ?_⟩
    refine Good.dval 10 rfl (Yv.concat rfl rfl rfl (by simp [elemL]; omega)) ?_
    refine Good.dval 11 rfl (Yv.concat (b := [32]) rfl rfl rfl (by simp [elemL]; omega)) ?_
    refine Good.doneS 15 rfl (OpW.callK [] (itoa_spec e.time he.time) stays_env hE ck80 rfl rfl rfl rfl ?_)
    rintro v L ⟨rfl, rfl⟩
    refine ⟨fun w h => ⟨⟨h.cell 0 rfl rfl, h.cell 0 rfl rfl⟩, h.cell 0 rfl rfl, h.cell 0 rfl rfl⟩, ?_⟩
    refine Good.dval 16 rfl (Yv.concat rfl rfl rfl (by simp [elemL]; omega)) ?_
    refine Good.dval 17 rfl (Yv.concat (b := [32]) rfl rfl rfl (by simp [elemL]; omega)) ?_
    refine Good.doneS 21 rfl (OpW.callK [] (quote_spec e.text (by omega)).forget stays_env hE ck43 rfl rfl rfl rfl ?_)
    rintro v L ⟨⟨_, rfl, _⟩, rfl⟩
    refine ⟨fun w h => ⟨⟨h.cell 0 rfl rfl, h.cell 0 rfl rfl⟩, h.cell 0 rfl rfl, h.cell 0 rfl rfl⟩, ?_⟩
    refine Good.dval 22 rfl (Yv.concat rfl rfl rfl (by simp [elemL]; omega)) ?_
    refine Good.drawn ?_
    refine Good.dend ?_
    refine Good.on ?_
    refine Good.ret1 Tryd.results165 (Res.tmp rfl) ⟨?_, rfl⟩ (fun _ h => h.clear)
    rw [evL, if_neg (by rw [hlate]; decide)]
/-- Which method an event's line is. -/
theorem line_elem (v : Value) (w : World) : (callMethod (.iface 55 v) "Line" #[]).run Tryd.prog w = .ok (.enter 165 #[v]) w := by kernel_rfl
theorem line_mark (v : Value) (w : World) : (callMethod (.iface 59 v) "Line" #[]).run Tryd.prog w = .ok (.enter 166 #[v]) w := by kernel_rfl
theorem line_fault (v : Value) (w : World) : (callMethod (.iface 64 v) "Line" #[]).run Tryd.prog w = .ok (.enter 168 #[v]) w := by kernel_rfl
end Go.Proofs.YtnfcbpgckomdfaaDoor
namespace Go.Proofs.YtnfcbpgckomdfaaDoor
open Go.Lib (strCells)
structure EvP where
  kind : Int
  part : Int
  rk : Int
  rt : Int
  text : List UInt8
  late : Bool
  time : Int
  err : Int
  deriving DecidableEq
def EvP.cells (x : EvP) : List Value := [.int .i64 x.kind, .int .i64 x.part, .int .i64 x.rk, .int .i64 x.rt, .string (str x.text), .bool x.late, .int .i64 x.time, .int .i64 x.err]
def EvP.val (x : EvP) : Value := .agg x.cells.toArray
structure EvP.ok (x : EvP) : Prop where
  kind : I64 x.kind
  part : I64 x.part
  rk : I64 x.rk
  rt : I64 x.rt
  time : I64 x.time
  err : I64 x.err
def EvP.elem (x : EvP) : ElemD := ⟨x.part, x.rk, x.rt, x.text, x.late⟩
def EvP.ev (x : EvP) : EvD := if x.kind = 1 then .mark x.time else if x.kind = 2 then .fault x.part x.err else .elem x.elem
def EvP.tidy (x : EvP) : EvP := if x.kind = 1 then ⟨1, 0, 0, 0, [], false, x.time, 0⟩ else if x.kind = 2 then ⟨2, x.part, 0, 0, [], false, 0, x.err⟩ else ⟨0, x.part, x.rk, x.rt, x.text, x.late, 0, 0⟩
theorem tidy_ev (x : EvP) : x.tidy.ev = x.ev := by
  unfold EvP.tidy
  by_cases h1 : x.kind = 1
  · rw [if_pos h1]; simp [EvP.ev, h1]
  · rw [if_neg h1]
    by_cases h2 : x.kind = 2
    · rw [if_pos h2]; simp [EvP.ev, h2]
    · rw [if_neg h2]; simp [EvP.ev, h1, h2, EvP.elem]
set_option maxHeartbeats 3200000
set_option maxRecDepth 20000
theorem of22_spec (x : EvP) : Spec Tryd.prog 23 #[x.val] noFacts [] fun r L => r = x.ev.val ∧ L = [] := by
  refine Spec.go (vs := [_]) (hT := tyOk) (hm := mixed0) Tryd.func23 rfl Tryd.ntmps23 rfl ?_
  intro W p _
  refine Good.on ?_
  refine Good.box (us := x.cells) (fun g => ?_)
  refine Good.on ?_
  refine Good.load 0 (v := .int .i64 x.kind) ?_
  refine Good.on ?_
  refine Good.ifB (fun h => ?_) (fun h => ?_)
  · have hk : x.kind = 1 := by simpa using h
    refine Good.on ?_
    refine Good.load 0 (v := .int .i64 x.time) ?_
    refine Good.on ?_
    refine Good.build ?_
    refine Good.on ?_
    refine Good.ret1 Tryd.results23 (Res.tmp rfl) ⟨by rw [EvP.ev, if_pos hk]; rfl, rfl⟩ (fun _ h => h.clear)
  have hk1 : ¬ x.kind = 1 := by simpa using h
  refine Good.on ?_
  refine Good.ifB (fun h => ?_) (fun h => ?_)
  · have hk : x.kind = 2 := by simpa using h
    refine Good.on ?_
    refine Good.load 0 (v := .int .i64 x.part) ?_
    refine Good.on ?_
    refine Good.load 0 (v := .int .i64 x.err) ?_
    refine Good.on ?_
    refine Good.build ?_
    refine Good.on ?_
    refine Good.ret1 Tryd.results23 (Res.tmp rfl) ⟨by rw [EvP.ev, if_neg hk1, if_pos hk]; rfl, rfl⟩ (fun _ h => h.clear)
  have hk2 : ¬ x.kind = 2 := by simpa using h
  refine Good.on ?_
  refine Good.load 0 (v := .int .i64 x.part) ?_
  refine Good.on ?_
  refine Good.loadRow 0 ?_
  refine Good.on ?_
  refine Good.load 0 (v := .bool x.late) ?_
  refine Good.on ?_
  refine Good.build ?_
  refine Good.on ?_
  refine Good.ret1 Tryd.results23 (Res.tmp rfl) ⟨by rw [EvP.ev, if_neg hk1, if_neg hk2]; rfl, rfl⟩ (fun _ h => h.clear)
theorem tidy_spec (x : EvP) : Spec Tryd.prog 24 #[x.val] noFacts [] fun r L => r = x.tidy.val ∧ L = [] := by
  refine Spec.go (vs := [_]) (hT := tyOk) (hm := mixed0) Tryd.func24 rfl Tryd.ntmps24 rfl ?_
  intro W p _
  refine Good.on ?_
  refine Good.box (us := x.cells) (fun g => ?_)
  refine Good.on ?_
  refine Good.alloc (us := (EvP.mk 0 0 0 0 [] false 0 0).cells) (fun g2 => ?_)
  refine Good.on ?_
  refine Good.load 1 (v := .int .i64 x.kind) ?_
  refine Good.on ?_
  refine Good.ifB (fun h => ?_) (fun h => ?_)
  · have hk : x.kind = 1 := by simpa using h
    refine Good.on ?_
    refine Good.load 1 (v := .int .i64 x.time) ?_
    refine Good.on ?_
    refine Good.build ?_
    refine Good.on ?_
    refine Good.store 0 ?_
    refine Good.on ?_
    refine Good.ret1 Tryd.results24 (Res.row 0) ⟨by rw [EvP.tidy, if_pos hk]; rfl, rfl⟩ (fun _ h => h.clear)
  have hk1 : ¬ x.kind = 1 := by simpa using h
  refine Good.on ?_
  refine Good.ifB (fun h => ?_) (fun h => ?_)
  · have hk : x.kind = 2 := by simpa using h
    refine Good.on ?_
    refine Good.load 1 (v := .int .i64 x.part) ?_
    refine Good.on ?_
    refine Good.load 1 (v := .int .i64 x.err) ?_
    refine Good.on ?_
    refine Good.build ?_
    refine Good.on ?_
    refine Good.store 0 ?_
    refine Good.on ?_
    refine Good.ret1 Tryd.results24 (Res.row 0) ⟨by rw [EvP.tidy, if_neg hk1, if_pos hk]; rfl, rfl⟩ (fun _ h => h.clear)
  have hk2 : ¬ x.kind = 2 := by simpa using h
  refine Good.on ?_
  refine Good.load 1 (v := .int .i64 x.part) ?_
  refine Good.on ?_
  refine Good.loadRow 1 ?_
  refine Good.on ?_
  refine Good.load 1 (v := .bool x.late) ?_
  refine Good.on ?_
  refine Good.build ?_
  refine Good.on ?_
  refine Good.store 0 ?_
  refine Good.on ?_
  refine Good.ret1 Tryd.results24 (Res.row 0) ⟨by rw [EvP.tidy, if_neg hk1, if_neg hk2]; rfl, rfl⟩ (fun _ h => h.clear)
theorem refLine_spec (x : EvP) (hx : x.ok) (ht : x.text.length ≤ 100000) : Spec Tryd.prog 21 #[x.val] noFacts [] fun r L => r = .string (str (evL x.ev)) ∧ L = [] := by
  refine Spec.go (vs := [_]) (hT := tyOk) (hm := mixed0) Tryd.func21 rfl Tryd.ntmps21 rfl ?_
  intro W p _
  have l1 := itoaL_len hx.part
  have l2 := itoaL_len hx.rk
  have l3 := itoaL_len hx.rt
  have l4 := quoteL_len x.text
  have l6 := itoaL_len hx.time
  have l7 := itoaL_len hx.err
  refine Good.on ?_
  refine Good.box (us := x.cells) (fun g => ?_)
  refine Good.on ?_
  refine Good.load 0 (v := .int .i64 x.kind) ?_
  refine Good.on ?_
  refine Good.ifB (fun h => ?_) (fun h => ?_)
  · have hk : x.kind = 1 := by simpa using h
    refine Good.on ?_
    refine Good.load 0 (v := .int .i64 x.time) ?_
    refine Good.on ?_
    refine Good.call0 (num_spec x.time hx.time) ck54 ?_
    rintro r L ⟨rfl, rfl⟩
    refine Good.on ?_
    refine Good.val (Yv.concat (a := markL ++ [32]) rfl rfl rfl (by simp [markL]; omega)) ?_
    refine Good.on ?_
    refine Good.ret1 Tryd.results21 (Res.tmp rfl) ⟨by rw [EvP.ev, if_pos hk]; rfl, rfl⟩ (fun _ h => h.clear)
  have hk1 : ¬ x.kind = 1 := by simpa using h
  refine Good.on ?_
  refine Good.ifB (fun h => ?_) (fun h => ?_)
  · have hk : x.kind = 2 := by simpa using h
    refine Good.on ?_
    refine Good.hold (fun w => CellAt ⟨g, 1, none⟩ (.int .i64 x.part) w ∧ CellAt ⟨g, 7, none⟩ (.int .i64 x.err) w) (fun w h => ⟨h.cell 0 rfl rfl, h.cell 0 rfl rfl⟩) ?_
    refine Good.drawn ?_
    refine Good.dload 1 rfl (fun w h => h.1) ?_
    refine Good.dload 6 rfl (fun w h => h.2) ?_
    refine Good.drawn ?_
    refine Good.doneS 2 rfl (OpW.call0 (num_spec x.part hx.part) ck54 rfl rfl rfl ?_)
    rintro v L ⟨rfl, rfl⟩
    refine ⟨fun w h => ⟨h.cell 0 rfl rfl, h.cell 0 rfl rfl⟩, ?_⟩
    refine Good.dval 3 rfl (Yv.concat (a := faultL ++ [32]) rfl rfl rfl (by simp [faultL]; omega)) ?_
    refine Good.dval 4 rfl (Yv.concat (b := [32]) rfl rfl rfl (by simp [faultL]; omega)) ?_
    refine Good.doneS 7 rfl (OpW.call0 (num_spec x.err hx.err) ck54 rfl rfl rfl ?_)
    rintro v L ⟨rfl, rfl⟩
    refine ⟨fun w h => ⟨h.cell 0 rfl rfl, h.cell 0 rfl rfl⟩, ?_⟩
    refine Good.dval 8 rfl (Yv.concat rfl rfl rfl (by simp [faultL]; omega)) ?_
    refine Good.drawn ?_
    refine Good.dend ?_
    refine Good.on ?_
    refine Good.ret1 Tryd.results21 (Res.tmp rfl) ⟨by rw [EvP.ev, if_neg hk1, if_pos hk]; rfl, rfl⟩ (fun _ h => h.clear)
  have hk2 : ¬ x.kind = 2 := by simpa using h
  refine Good.on ?_
  refine Good.load 0 (v := .bool x.late) ?_
  refine Good.on ?_
  refine Good.ifB (fun hlate => ?_) (fun hlate => ?_) <;> refine Good.on ?_
  all_goals
    refine Good.hold (fun w => (CellAt ⟨g, 1, none⟩ (.int .i64 x.part) w ∧ CellAt ⟨g, 2, none⟩ (.int .i64 x.rk) w) ∧ CellAt ⟨g, 3, none⟩ (.int .i64 x.rt) w ∧ CellAt ⟨g, 4, none⟩ (.string (str x.text)) w) (fun w h => ⟨⟨h.cell 0 rfl rfl, h.cell 0 rfl rfl⟩, h.cell 0 rfl rfl, h.cell 0 rfl rfl⟩) ?_
    refine Good.drawn ?_
    refine Good.dload 2 rfl (fun w h => h.1.1) ?_
    refine Good.dload 8 rfl (fun w h => h.1.2) ?_
    refine Good.dload 14 rfl (fun w h => h.2.1) ?_
    refine Good.dload 20 rfl (fun w h => h.2.2) ?_
    refine Good.drawn ?_
    refine Good.doneS 3 rfl (OpW.call0 (num_spec x.part hx.part) ck54 rfl rfl rfl ?_)
    rintro v L ⟨rfl, rfl⟩
    refine ⟨fun w h => ⟨⟨h.cell 0 rfl rfl, h.cell 0 rfl rfl⟩, h.cell 0 rfl rfl, h.cell 0 rfl rfl⟩, ?_⟩
  · refine Good.dval 4 rfl (Yv.concat (a := lateL ++ [32]) rfl rfl rfl (by simp [lateL]; omega)) ?_
    refine Good.dval 5 rfl (Yv.concat (b := [32]) rfl rfl rfl (by simp [lateL]; omega)) ?_
    refine Good.doneS 9 rfl (OpW.call0 (num_spec x.rk hx.rk) ck54 rfl rfl rfl ?_)
    rintro v L ⟨rfl, rfl⟩
    refine ⟨fun w h => ⟨⟨h.cell 0 rfl rfl, h.cell 0 rfl rfl⟩, h.cell 0 rfl rfl, h.cell 0 rfl rfl⟩, ?_⟩
    refine Good.dval 10 rfl (Yv.concat rfl rfl rfl (by simp [lateL]; omega)) ?_
    refine Good.dval 11 rfl (Yv.concat (b := [32]) rfl rfl rfl (by simp [lateL]; omega)) ?_
    refine Good.doneS 15 rfl (OpW.call0 (num_spec x.rt hx.rt) ck54 rfl rfl rfl ?_)
    rintro v L ⟨rfl, rfl⟩
    refine ⟨fun w h => ⟨⟨h.cell 0 rfl rfl, h.cell 0 rfl rfl⟩, h.cell 0 rfl rfl, h.cell 0 rfl rfl⟩, ?_⟩
    refine Good.dval 16 rfl (Yv.concat rfl rfl rfl (by simp [lateL]; omega)) ?_
    refine Good.dval 17 rfl (Yv.concat (b := [32]) rfl rfl rfl (by simp [lateL]; omega)) ?_
    refine Good.doneS 21 rfl (OpW.call0 (refQuote_spec x.text (by omega)) ck62 rfl rfl rfl ?_)
    rintro v L ⟨rfl, rfl⟩
    refine ⟨fun w h => ⟨⟨h.cell 0 rfl rfl, h.cell 0 rfl rfl⟩, h.cell 0 rfl rfl, h.cell 0 rfl rfl⟩, ?_⟩
    refine Good.dval 22 rfl (Yv.concat rfl rfl rfl (by simp [lateL]; omega)) ?_
    refine Good.drawn ?_
    refine Good.dend ?_
    refine Good.on ?_
    refine Good.ret1 Tryd.results21 (Res.tmp rfl) ⟨?_, rfl⟩ (fun _ h => h.clear)
    rw [EvP.ev, if_neg hk1, if_neg hk2, evL, if_pos (show x.elem.late = true from hlate)]; rfl
  · refine Good.dval 4 rfl (Yv.concat (a := elemL ++ [32]) rfl rfl rfl (by simp [elemL]; omega)) ?_
    refine Good.dval 5 rfl (Yv.concat (b := [32]) rfl rfl rfl (by simp [elemL]; omega)) ?_
    refine Good.doneS 9 rfl (OpW.call0 (num_spec x.rk hx.rk) ck54 rfl rfl rfl ?_)
    rintro v L ⟨rfl, rfl⟩
    refine ⟨fun w h => ⟨⟨h.cell 0 rfl rfl, h.cell 0 rfl rfl⟩, h.cell 0 rfl rfl, h.cell 0 rfl rfl⟩, ?_⟩
    refine Good.dval 10 rfl (Yv.concat rfl rfl rfl (by simp [elemL]; omega)) ?_
    refine Good.dval 11 rfl (Yv.concat (b := [32]) rfl rfl rfl (by simp [elemL]; omega)) ?_
    refine Good.doneS 15 rfl (OpW.call0 (num_spec x.rt hx.rt) ck54 rfl rfl rfl ?_)
    rintro v L ⟨rfl, rfl⟩
    refine ⟨fun w h => ⟨⟨h.cell 0 rfl rfl, h.cell 0 rfl rfl⟩, h.cell 0 rfl rfl, h.cell 0 rfl rfl⟩, ?_⟩
    refine Good.dval 16 rfl (Yv.concat rfl rfl rfl (by simp [elemL]; omega)) ?_
    refine Good.dval 17 rfl (Yv.concat (b := [32]) rfl rfl rfl (by simp [elemL]; omega)) ?_
    refine Good.doneS 21 rfl (OpW.call0 (refQuote_spec x.text (by omega)) ck62 rfl rfl rfl ?_)
    rintro v L ⟨rfl, rfl⟩
    refine ⟨fun w h => ⟨⟨h.cell 0 rfl rfl, h.cell 0 rfl rfl⟩, h.cell 0 rfl rfl, h.cell 0 rfl rfl⟩, ?_⟩
    refine Good.dval 22 rfl (Yv.concat rfl rfl rfl (by simp [elemL]; omega)) ?_
    refine Good.drawn ?_
    refine Good.dend ?_
    refine Good.on ?_
    refine Good.ret1 Tryd.results21 (Res.tmp rfl) ⟨?_, rfl⟩ (fun _ h => h.clear)
    rw [EvP.ev, if_neg hk1, if_neg hk2, evL, (if_neg (by rw [show x.elem.late = x.late from rfl, hlate]; decide))]; rfl
end Go.Proofs.YtnfcbpgckomdfaaDoor
namespace Go.Proofs.YtnfcbpgckomdfaaDoor
open Go.Lib (strCells)
/-- A text's parts between the bytes c, cut so often at most. -/
def splitNL (c : UInt8) : Nat → List UInt8 → List (List UInt8)
  | 0, bs => [bs]
  | k + 1, bs => if Lib.indexByte bs c < 0 then [bs] else bs.take (Lib.indexByte bs c).toNat :: splitNL c k (bs.drop ((Lib.indexByte bs c).toNat + 1))
theorem splitNL_none (c : UInt8) (k : Nat) (bs : List UInt8) (h : Lib.indexByte bs c < 0) : splitNL c k bs = [bs] := by
  cases k with
  | zero => rfl
  | succ k => rw [splitNL, if_pos h]
theorem splitNL_at (c : UInt8) (k : Nat) (bs : List UInt8) (m : Nat) (h : Lib.indexByte bs c = (m : Int)) : splitNL c (k + 1) bs = bs.take m :: splitNL c k (bs.drop (m + 1)) := by
  rw [splitNL, if_neg (by omega), h]; rfl
theorem splitNL_length (c : UInt8) : ∀ (k : Nat) (bs : List UInt8), (splitNL c k bs).length ≤ k + 1 ∧ 0 < (splitNL c k bs).length
  | 0, _ => ⟨Nat.le_refl _, Nat.one_pos⟩
  | k + 1, bs => by
    unfold splitNL
    split
    · simp
    · have := splitNL_length c k (bs.drop ((Lib.indexByte bs c).toNat + 1))
      simp only [List.length_cons]; omega
theorem splitNL_enough (c : UInt8) : ∀ (k j : Nat) (bs : List UInt8), bs.length ≤ k → bs.length ≤ j → splitNL c k bs = splitNL c j bs
  | k, j, bs, hk, hj => by
    by_cases h : Lib.indexByte bs c < 0
    · rw [splitNL_none c k bs h, splitNL_none c j bs h]
    · have hlt := indexByte_lt bs c
      obtain ⟨m, hm⟩ := Int.eq_ofNat_of_zero_le (Int.not_lt.1 h)
      rw [hm] at hlt
      obtain ⟨k', rfl⟩ : ∃ k', k = k' + 1 := ⟨k - 1, by omega⟩
      obtain ⟨j', rfl⟩ : ∃ j', j = j' + 1 := ⟨j - 1, by omega⟩
      rw [splitNL_at c k' bs m hm, splitNL_at c j' bs m hm, splitNL_enough c k' j' (bs.drop (m + 1)) (by rw [List.length_drop]; omega) (by rw [List.length_drop]; omega)]
termination_by _ _ bs => bs.length
theorem splitNL_mem (c : UInt8) : ∀ (k : Nat) (bs w : List UInt8), w ∈ splitNL c k bs → w.length ≤ bs.length
  | 0, bs, w, h => by simp [splitNL] at h; subst h; exact Nat.le_refl _
  | k + 1, bs, w, h => by
    unfold splitNL at h
    split at h
    · simp at h; subst h; exact Nat.le_refl _
    · simp only [List.mem_cons] at h
      rcases h with rfl | h
      · simp; omega
      · have := splitNL_mem c k _ w h
        rw [List.length_drop] at this; omega
set_option maxHeartbeats 1600000
set_option maxRecDepth 20000
theorem genSplitN_spec (bs : List UInt8) (c : UInt8) (lim : Nat) (hlim : 0 < lim ∧ lim ≤ 1000) (hl : bs.length ≤ 1000000000) : Spec Tryd.prog 57 #[.string (str bs), .string (str [c]), .int .i64 0, .int .i64 (lim : Int)] noFacts [] fun r L => L = [slc 9 1 r (strC (splitNL c (lim - 1) bs))] := by
  refine Spec.go (vs := [_, _, _, _]) (hT := tyOk) (hm := mixed0) Tryd.func57 rfl Tryd.ntmps57 rfl ?_
  intro W p _
  refine Good.on ?_
  refine Good.ifB (fun h => ?_) (fun h => ?_)
  · simp at h; omega
  refine Good.on ?_
  refine Good.ifB (fun h => ?_) (fun h => ?_) <;> refine Good.on ?_
  · rw [str_toList] at h
    rw [show (ByteArray.mk #[]).toList = [] from str_toList []] at h
    simp at h
  refine Good.ifD (fun h => ?_) (fun h => ?_)
  · omega
  refine Good.on ?_
  refine Good.val (Yv.min2 rfl rfl rfl) ?_
  have e2 : IntKind.i64.wrap ((bs.length : Nat) + 1) = ((bs.length + 1 : Nat) : Int) := by rw [w64 _ (by omega)]; rfl
  rw [str_size, e2]
  obtain ⟨n, hn, hnl, hnk⟩ : ∃ n : Nat, (if ((bs.length + 1 : Nat) : Int) < (lim : Int) then ((bs.length + 1 : Nat) : Int) else (lim : Int)) = ((n + 1 : Nat) : Int) ∧ n < lim ∧ splitNL c (lim - 1) bs = splitNL c n bs := by
    by_cases h : ((bs.length + 1 : Nat) : Int) < (lim : Int)
    · exact ⟨bs.length, by rw [if_pos h], by omega, splitNL_enough c _ _ bs (by omega) (Nat.le_refl _)⟩
    · exact ⟨lim - 1, by rw [if_neg h]; omega, by omega, rfl⟩
  rw [hn, hnk]
  refine Good.on ?_
  refine Good.make (n := n + 1) (ie := ti9) (by simp [ti9]; omega) (by omega) (fun g => ?_)
  refine Good.on ?_
  have e3 : IntKind.i64.wrap (((n + 1 : Nat) : Int) - 1) = ((n : Nat) : Int) := by rw [w64 _ (by omega)]; omega
  rw [e3]
  refine Good.mem (l' := [HP.row g (strC [] ++ List.replicate (n + 1) (Value.string (str []))) 9]) (fun w h => by have e := zeroL_str (n + 1); rw [← e]; exact h) ?_
  refine Good.loop (ι := List (List UInt8) × List UInt8) (fun x => [(0, .v (.string (str x.2))), (1, .v (.string (str [c]))), (2, .v (.int .i64 0)), (3, .v (.int .i64 (n : Int))), (9, .v (.slice (some ⟨g, 0, none⟩) (n + 1) (n + 1))), (10, .v (.int .i64 (x.1.length : Int)))])
    (fun x => [HP.row g (strC x.1 ++ List.replicate (n + 1 - x.1.length) (Value.string (str []))) 9]) (fun x => splitNL c n bs = x.1 ++ splitNL c (n - x.1.length) x.2 ∧ x.1.length ≤ n ∧ x.2.length ≤ bs.length) (fun x => n - x.1.length) ([], bs) ⟨by simp, by simp, Nat.le_refl _⟩ ⟨rfl, rfl, rfl, rfl, rfl, rfl, trivial⟩ (fun _ h => h) ?_
  rintro ⟨done, rest⟩ ⟨h1, h2, h3⟩
  dsimp only at h1 h2 h3 ⊢
  obtain ⟨k, hk⟩ : ∃ k, n + 1 - done.length = k + 1 := ⟨n - done.length, by omega⟩
  rw [hk]
  have hnk' : n - done.length = k := by omega
  rw [hnk'] at h1
  have e2 : IntKind.i64.wrap (((done.length : Nat) : Int) + 1) = ((done.length + 1 : Nat) : Int) := by rw [w64 _ (by omega)]; rfl
  refine Good.on ?_
  refine Good.ifD (fun h => ?_) (fun h => ?_) <;> refine Good.on ?_
  · obtain ⟨k', rfl⟩ : ∃ k', k = k' + 1 := ⟨k - 1, by omega⟩
    refine Good.callP [] (index_spec rest c) ck86 ?_
    rintro r L ⟨rfl, rfl⟩
    refine Good.on ?_
    refine Good.ifD (fun hm => ?_) (fun hm => ?_) <;> refine Good.on ?_
    · have e1 := splitNL_none c (k' + 1) rest hm
      refine Good.val (Yv.indexAddr rfl rfl rfl rfl rfl rfl (by omega) (by omega)) ?_
      rw [show ((done.length : Int)).toNat * ti9.size = done.length from by simp [ti9], Nat.zero_add]
      refine Good.on ?_
      refine Good.store 0 ?_ (hs := strC_set done _ (k' + 1))
      refine Good.on ?_
      rw [e2]
      refine Good.val (Yv.sliceSlc 0 (done.length + 1) rfl rfl rfl rfl rfl rfl rfl rfl ⟨_, rfl⟩ (by omega) (by omega)) ?_
      refine Good.on ?_
      rw [if_neg (by omega), Nat.sub_zero, Nat.sub_zero, addr_add, show 0 + 0 * ti9.size = 0 from rfl]
      refine Good.ret1 Tryd.results57 (Res.tmp rfl) (L := [slc 9 1 (.slice (some ⟨g, 0, none⟩) (done.length + 1) (n + 1)) (strC (done ++ [rest]))]) ?_ (fun w h => ?_)
      · rw [h1, e1]
      · refine Sat.slcShut (rest := List.replicate (k' + 1) (Value.string (str []))) (by simp [strC]) (by omega) (by unfold maxLen; omega) (by simp [strC]; omega) ?_
        exact h
    · obtain ⟨m, hm'⟩ := Int.eq_ofNat_of_zero_le (Int.not_lt.1 hm)
      rw [hm']
      have hlt := indexByte_lt rest c
      have e0 : IntKind.i64.wrap ((m : Int) + 0) = (m : Int) := by rw [w64 _ (by omega)]; omega
      have e1 : IntKind.i64.wrap ((m : Int) + ((str [c]).size : Nat)) = ((m + 1 : Nat) : Int) := by rw [show (((str [c]).size : Nat) : Int) = 1 from rfl, w64 _ (by omega)]; rfl
      rw [e0]
      refine Good.val (Yv.sliceStr 0 m rfl rfl rfl rfl rfl rfl rfl ⟨_, rfl⟩ (by omega) (by omega)) ?_
      refine Good.on ?_
      refine Good.val (Yv.indexAddr rfl rfl rfl rfl rfl rfl (by omega) (by omega)) ?_
      rw [show ((done.length : Int)).toNat * ti9.size = done.length from by simp [ti9], Nat.zero_add]
      refine Good.on ?_
      refine Good.store 0 ?_ (hs := strC_set done _ (k' + 1))
      refine Good.on ?_
      rw [e1]
      refine Good.val (Yv.sliceStr (m + 1) rest.length rfl rfl rfl rfl rfl rfl ⟨_, rfl⟩ rfl (by omega) (by omega)) ?_
      refine Good.on ?_
      rw [e2]
      refine Good.again (done ++ [rest.take m], (rest.take rest.length).drop (m + 1)) ⟨⟨?_, ?_, ?_⟩, ?_⟩ ⟨rfl, rfl, rfl, rfl, rfl, ?_, trivial⟩ (fun w h => ?_)
      · dsimp only
        rw [show n - (done ++ [List.take m rest]).length = k' from by simp; omega, h1, splitNL_at c k' rest m hm', List.take_length, List.append_assoc]; rfl
      · dsimp only; simp; omega
      · dsimp only; simp; omega
      · dsimp only; simp; omega
      · show some (Value.int .i64 _) = _
        simp [Ent.val]
      · dsimp only
        rw [show n + 1 - (done ++ [List.take m rest]).length = k' + 1 from by simp; omega]
        exact h
  · have hd : done.length = n := by omega
    obtain rfl : k = 0 := by omega
    refine Good.val (Yv.indexAddr rfl rfl rfl rfl rfl rfl (by omega) (by omega)) ?_
    rw [show ((done.length : Int)).toNat * ti9.size = done.length from by simp [ti9], Nat.zero_add]
    refine Good.on ?_
    refine Good.store 0 ?_ (hs := strC_set done _ 0)
    refine Good.on ?_
    rw [e2]
    refine Good.val (Yv.sliceSlc 0 (done.length + 1) rfl rfl rfl rfl rfl rfl rfl rfl ⟨_, rfl⟩ (by omega) (by omega)) ?_
    refine Good.on ?_
    rw [if_neg (by omega), Nat.sub_zero, Nat.sub_zero, addr_add, show 0 + 0 * ti9.size = 0 from rfl]
    refine Good.ret1 Tryd.results57 (Res.tmp rfl) (L := [slc 9 1 (.slice (some ⟨g, 0, none⟩) (done.length + 1) (n + 1)) (strC (done ++ [rest]))]) ?_ (fun w h => ?_)
    · rw [h1]; rfl
    · refine Sat.slcShut (rest := []) (by simp [strC]) (by omega) (by unfold maxLen; omega) (by simp [strC]; omega) ?_
      simpa using h
theorem splitN_spec (bs : List UInt8) (c : UInt8) (lim : Nat) (hlim : 0 < lim ∧ lim ≤ 1000) (hl : bs.length ≤ 1000000000) : Spec Tryd.prog 61 #[.string (str bs), .string (str [c]), .int .i64 (lim : Int)] noFacts [] fun r L => L = [slc 9 1 r (strC (splitNL c (lim - 1) bs))] := by
  refine Spec.go (vs := [_, _, _]) (hT := tyOk) (hm := mixed0) Tryd.func61 rfl Tryd.ntmps61 rfl ?_
  intro W p _
  refine Good.on ?_
  refine Good.callP [] (genSplitN_spec bs c lim hlim hl) ck57 ?_
  rintro r L rfl
  refine Good.on ?_
  refine Good.ret1 Tryd.results61 (Res.tmp rfl) rfl (fun _ h => h)
end Go.Proofs.YtnfcbpgckomdfaaDoor
namespace Go.Proofs.YtnfcbpgckomdfaaDoor
open Go.Lib (strCells)
theorem rdAt.front' {w : World} {a : Option Addr} {n c m : Nat} {xs ys : List Value} (h : rdAt w (.slice a n c) n (xs ++ ys)) : rdAt w (.slice a m c) m xs := by
  obtain ⟨a', c', he, h1⟩ := h
  cases he
  refine ⟨a, c, rfl, fun j u hj => h1 j u ?_⟩
  rw [List.getElem?_append_left (List.getElem?_eq_some_iff.1 hj).1]; exact hj
theorem numsO_length : ∀ (ws : List (List UInt8)) (ns : List Int), numsO ws = some ns → ns.length = ws.length
  | [], ns, h => by simp [numsO] at h; subst h; rfl
  | w :: ws, ns, h => by
    rw [numsO] at h
    split at h
    · cases h
    · cases hr : numsO ws with
      | none => rw [hr] at h; cases h
      | some r => rw [hr] at h; simp at h; subst h; simp [numsO_length ws r hr]
def readElem (late : Bool) (parts : List (List UInt8)) : Option EvD := match numsO (parts.take 3), unquoteL (parts.getD 3 []) with
  | some ns, some t => some (.elem ⟨ns.getD 0 0, ns.getD 1 0, ns.getD 2 0, t, late⟩)
  | _, _ => none
def readNums (k : Nat) (f : List Int → EvD) (parts : List (List UInt8)) : Option EvD := match numsO parts with
  | some ns => if ns.length = k then some (f ns) else none
  | none => none
def readPs (w : List UInt8) (parts : List (List UInt8)) : Option EvD :=
  if (w = elemL ∨ w = lateL) ∧ parts.length = 4 then readElem (decide (w = lateL)) parts
  else if w = markL then readNums 1 (fun ns => .mark (ns.getD 0 0)) parts
  else if w = faultL then readNums 2 (fun ns => .fault (ns.getD 0 0) (ns.getD 1 0)) parts
  else none
/-- The event that a line tells. -/
def readE (s : List UInt8) : Option EvD := readPs (cutL 32 s).1 (splitNL 32 3 (cutL 32 s).2.1)
def readEV (o : Option EvD) : Value := match o with
  | some e => .tuple #[e.val, .bool true]
  | none => .tuple #[.nilIface, .bool false]
set_option maxHeartbeats 3200000
set_option maxRecDepth 20000
theorem eRead_spec (s : List UInt8) (hl : s.length ≤ 1000000) : Spec Tryd.prog 20 #[.string (str s)] Env [] fun r L => r = readEV (readE s) ∧ L = [] := by
  refine Spec.go (vs := [_]) (hT := tyOk) (hm := mixed0) Tryd.func20 rfl Tryd.ntmps20 rfl ?_
  intro W p hE
  refine Good.on ?_
  refine Good.callP [] (cut_spec s 32 (by omega)) ck60 ?_
  rintro r L ⟨rfl, rfl⟩
  have hcl := cutL_len 32 s
  obtain ⟨w, rest, ok, hcut⟩ : ∃ w rest ok, cutL 32 s = (w, rest, ok) := ⟨_, _, _, rfl⟩
  have hro : readE s = readPs w (splitNL 32 3 rest) := by rw [readE, hcut]
  rw [hcut] at hcl ⊢
  dsimp only at hcl
  simp only [cutV]
  refine Good.on ?_
  refine Good.callP [] (splitN_spec rest 32 4 (by decide) (by omega)) ck61 ?_
  rintro v L rfl
  obtain ⟨ps, hps⟩ : ∃ ps, splitNL 32 3 rest = ps := ⟨_, rfl⟩
  have hpl := splitNL_length 32 3 rest
  have hmem : ∀ x ∈ ps, x.length ≤ 1000000 := fun x hx => by
    have := splitNL_mem 32 3 rest x (by rw [hps]; exact hx)
    omega
  rw [hps] at hro hpl
  rw [show (4 : Nat) - 1 = 3 from rfl, hps]
  refine Good.know (fun w' h => h.slcIs (m := ps.length) 0 rfl (by decide) (strC_length _)) ?_
  rintro ⟨a1, c1, rfl, hc1, hg⟩
  obtain ⟨g1, rfl⟩ := hg (by intro e; have := congrArg List.length e; simp [strC] at this; subst this; simp at hpl)
  refine Good.on ?_
  --TAIL
  refine Good.partB (fun he => ?_) (fun he => ?_) <;> refine Good.on ?_
  · have hw : w = elemL := by simpa [elemL] using he
    refine Good.ifB (fun h4 => ?_) (fun h4 => ?_) <;> refine Good.on ?_
    rotate_left
    · have h4 : ps.length ≠ 4 := by simp at h4; omega
      have hnone : readE s = none := by rw [hro, readPs, if_neg (fun h => h4 h.2), if_neg (by rw [hw]; decide), if_neg (by rw [hw]; decide)]
      refine Good.ifB (fun hx => ?_) (fun hx => ?_) <;> refine Good.on ?_
      · simp [hw, elemL] at hx
      refine Good.ifB (fun hx => ?_) (fun hx => ?_) <;> refine Good.on ?_
      · simp [hw, elemL] at hx
      refine Good.ret2 Tryd.results20 (Res.tmp rfl) (Res.tmp rfl) ⟨by rw [hnone]; rfl, rfl⟩ (fun _ h => h.clear)
    have h4 : ps.length = 4 := by simp at h4; omega
    obtain ⟨p0, p1, p2, p3, rfl⟩ : ∃ a b c d, ps = [a, b, c, d] := by
      match ps, h4 with
      | [a, b, c, d], _ => exact ⟨a, b, c, d, rfl⟩
    have hre : readE s = readElem false [p0, p1, p2, p3] := by rw [hro, readPs, if_pos ⟨by rw [hw]; decide, rfl⟩, hw]; rfl
    refine Good.val (Yv.sliceSlc 0 3 rfl rfl rfl rfl rfl rfl rfl rfl ⟨_, rfl⟩ (by omega) (by simp at hc1; omega)) ?_
    rw [if_neg (by simp at hc1; omega), Nat.sub_zero, Nat.sub_zero, addr_add, show 0 + 0 * ti9.size = 0 from rfl]
    refine Good.on ?_
    refine Good.callR (numbers_spec _ [p0, p1, p2] (by simp) (fun x hx => by have := hmem x (by simp at hx ⊢; rcases hx with h | h | h <;> simp [h]); omega)) ck58 (fun w' h => ⟨stays_env.at hE h, Rd.nil ?_⟩) ?_
    · have h1 := h.slcRd (m := 4) 0 rfl (by decide) rfl
      exact rdAt.front' (xs := strC [p0, p1, p2]) (ys := strC [p3]) h1
    rintro v L hA
    unfold numsA at hA
    have hq3 : p3.length ≤ 1000000 := hmem p3 (by simp)
    cases hns : numsO [p0, p1, p2] with
    | none =>
      rw [hns] at hA
      obtain ⟨rfl, rfl⟩ := hA
      have hnone : readE s = none := by rw [hre, readElem, show [p0, p1, p2, p3].take 3 = [p0, p1, p2] from rfl, hns]
      refine Good.on ?_
      refine Good.val (Yv.indexAddr rfl rfl rfl rfl rfl rfl (by decide) (by simp)) ?_
      refine Good.on ?_
      refine Good.loadC (v := .string (str p3)) (fun w' h => h.slcCell (j := 3) 0 rfl rfl rfl) ?_
      refine Good.on ?_
      refine Good.callK [] (unquote_spec p3 (by omega)).forget stays_env hE ck45 ?_
      rintro v L ⟨⟨_, rfl, _⟩, rfl⟩
      cases hu : unquoteL p3 with
      | none =>
        refine Good.on ?_
        (refine Good.partB (fun h => ?_) (fun h => ?_); rotate_left; exact absurd h (by decide))
        refine Good.on ?_
        refine Good.ret2 Tryd.results20 (Res.tmp rfl) (Res.tmp rfl) ⟨by rw [hnone]; rfl, rfl⟩ (fun _ h => h.clear)
      | some t =>
        refine Good.on ?_
        (refine Good.partB (fun h => ?_) (fun h => ?_); rotate_left; exact absurd h (by decide))
        refine Good.on ?_
        refine Good.ret2 Tryd.results20 (Res.tmp rfl) (Res.tmp rfl) ⟨by rw [hnone]; rfl, rfl⟩ (fun _ h => h.clear)
    | some ns =>
    rw [hns] at hA
    obtain ⟨hn64, v', rfl, rfl⟩ := hA
    have hnl := numsO_length _ _ hns
    obtain ⟨n0, n1, n2, rfl⟩ : ∃ a b c, ns = [a, b, c] := by
      match ns, hnl with
      | [a, b, c], _ => exact ⟨a, b, c, rfl⟩
    refine Good.know (fun w' h => h.slcIs (m := 3) 0 rfl (by decide) (by rfl)) ?_
    rintro ⟨a2, c2, rfl, hc2, hg2⟩
    obtain ⟨g2, rfl⟩ := hg2 (by simp [intsC])
    refine Good.on ?_
    refine Good.val (Yv.indexAddr rfl rfl rfl rfl rfl rfl (by decide) (by simp)) ?_
    refine Good.on ?_
    refine Good.loadC (v := .string (str p3)) (fun w' h => h.slcCell (j := 3) 1 rfl rfl rfl) ?_
    refine Good.on ?_
    refine Good.callK [] (unquote_spec p3 (by omega)).forget stays_env hE ck45 ?_
    rintro v L ⟨⟨_, rfl, _⟩, rfl⟩
    cases hu : unquoteL p3 with
    | none =>
      have hnone : readE s = none := by rw [hre, readElem, show [p0, p1, p2, p3].take 3 = [p0, p1, p2] from rfl, hns, show [p0, p1, p2, p3].getD 3 [] = p3 from rfl, hu]
      refine Good.on ?_
      (refine Good.partB (fun h => ?_) (fun h => ?_); exact absurd h (by decide))
      refine Good.on ?_
      (refine Good.ifB (fun h => ?_) (fun h => ?_); rotate_left; exact absurd h (by decide))
      refine Good.on ?_
      refine Good.ret2 Tryd.results20 (Res.tmp rfl) (Res.tmp rfl) ⟨by rw [hnone]; rfl, rfl⟩ (fun _ h => h.clear)
    | some t =>
    have hsome : readE s = some (.elem ⟨n0, n1, n2, t, false⟩) := by rw [hre, readElem, show [p0, p1, p2, p3].take 3 = [p0, p1, p2] from rfl, hns, show [p0, p1, p2, p3].getD 3 [] = p3 from rfl, hu]; rfl
    refine Good.on ?_
    (refine Good.partB (fun h => ?_) (fun h => ?_); exact absurd h (by decide))
    refine Good.on ?_
    (refine Good.ifB (fun h => ?_) (fun h => ?_); exact absurd h (by decide))
    refine Good.on ?_
    refine Good.hold (fun w' => w'.cell? ⟨g2, 0, none⟩ = some (.int .i64 n0) ∧ w'.cell? ⟨g2, 1, none⟩ = some (.int .i64 n1) ∧ w'.cell? ⟨g2, 2, none⟩ = some (.int .i64 n2)) (fun w' h => ⟨h.slcCell (j := 0) 0 rfl rfl rfl, h.slcCell (j := 1) 0 rfl rfl rfl, h.slcCell (j := 2) 0 rfl rfl rfl⟩) ?_
    refine Good.drawn ?_
    refine Good.dval 1 rfl (Yv.indexAddr rfl rfl rfl rfl rfl rfl (by decide) (by simp)) ?_
    refine Good.dload 2 rfl (fun w h => h.1) ?_
    refine Good.dval 4 rfl (Yv.indexAddr rfl rfl rfl rfl rfl rfl (by decide) (by simp)) ?_
    refine Good.dload 5 rfl (fun w h => h.2.1) ?_
    refine Good.dval 7 rfl (Yv.indexAddr rfl rfl rfl rfl rfl rfl (by decide) (by simp)) ?_
    refine Good.dload 8 rfl (fun w h => h.2.2) ?_
    refine Good.dval 10 rfl (Yv.build rfl rfl) ?_
    refine Good.dval 13 rfl (Yv.build rfl rfl) ?_
    refine Good.drawn ?_
    refine Good.dend ?_
    refine Good.on ?_
    refine Good.ret2 Tryd.results20 (Res.tmp rfl) (Res.tmp rfl) ⟨?_, rfl⟩ (fun _ h => h.clear)
    rw [hsome]; simp [readEV, EvD.val, ElemD.cells, hw, elemL]; rfl
  have hwe : w ≠ elemL := by simpa [elemL] using he
  refine Good.partB (fun hl' => ?_) (fun hl' => ?_) <;> refine Good.on ?_
  · have hw : w = lateL := by simpa [lateL] using hl'
    refine Good.ifB (fun h4 => ?_) (fun h4 => ?_) <;> refine Good.on ?_
    rotate_left
    · have h4 : ps.length ≠ 4 := by simp at h4; omega
      have hnone : readE s = none := by rw [hro, readPs, if_neg (fun h => h4 h.2), if_neg (by rw [hw]; decide), if_neg (by rw [hw]; decide)]
      refine Good.ifB (fun hx => ?_) (fun hx => ?_) <;> refine Good.on ?_
      · simp [hw, lateL] at hx
      refine Good.ifB (fun hx => ?_) (fun hx => ?_) <;> refine Good.on ?_
      · simp [hw, lateL] at hx
      refine Good.ret2 Tryd.results20 (Res.tmp rfl) (Res.tmp rfl) ⟨by rw [hnone]; rfl, rfl⟩ (fun _ h => h.clear)
    have h4 : ps.length = 4 := by simp at h4; omega
    obtain ⟨p0, p1, p2, p3, rfl⟩ : ∃ a b c d, ps = [a, b, c, d] := by
      match ps, h4 with
      | [a, b, c, d], _ => exact ⟨a, b, c, d, rfl⟩
    have hre : readE s = readElem true [p0, p1, p2, p3] := by rw [hro, readPs, if_pos ⟨by rw [hw]; decide, rfl⟩, hw]; rfl
    refine Good.val (Yv.sliceSlc 0 3 rfl rfl rfl rfl rfl rfl rfl rfl ⟨_, rfl⟩ (by omega) (by simp at hc1; omega)) ?_
    rw [if_neg (by simp at hc1; omega), Nat.sub_zero, Nat.sub_zero, addr_add, show 0 + 0 * ti9.size = 0 from rfl]
    refine Good.on ?_
    refine Good.callR (numbers_spec _ [p0, p1, p2] (by simp) (fun x hx => by have := hmem x (by simp at hx ⊢; rcases hx with h | h | h <;> simp [h]); omega)) ck58 (fun w' h => ⟨stays_env.at hE h, Rd.nil ?_⟩) ?_
    · have h1 := h.slcRd (m := 4) 0 rfl (by decide) rfl
      exact rdAt.front' (xs := strC [p0, p1, p2]) (ys := strC [p3]) h1
    rintro v L hA
    unfold numsA at hA
    have hq3 : p3.length ≤ 1000000 := hmem p3 (by simp)
    cases hns : numsO [p0, p1, p2] with
    | none =>
      rw [hns] at hA
      obtain ⟨rfl, rfl⟩ := hA
      have hnone : readE s = none := by rw [hre, readElem, show [p0, p1, p2, p3].take 3 = [p0, p1, p2] from rfl, hns]
      refine Good.on ?_
      refine Good.val (Yv.indexAddr rfl rfl rfl rfl rfl rfl (by decide) (by simp)) ?_
      refine Good.on ?_
      refine Good.loadC (v := .string (str p3)) (fun w' h => h.slcCell (j := 3) 0 rfl rfl rfl) ?_
      refine Good.on ?_
      refine Good.callK [] (unquote_spec p3 (by omega)).forget stays_env hE ck45 ?_
      rintro v L ⟨⟨_, rfl, _⟩, rfl⟩
      cases hu : unquoteL p3 with
      | none =>
        refine Good.on ?_
        (refine Good.partB (fun h => ?_) (fun h => ?_); rotate_left; exact absurd h (by decide))
        refine Good.on ?_
        refine Good.ret2 Tryd.results20 (Res.tmp rfl) (Res.tmp rfl) ⟨by rw [hnone]; rfl, rfl⟩ (fun _ h => h.clear)
      | some t =>
        refine Good.on ?_
        (refine Good.partB (fun h => ?_) (fun h => ?_); rotate_left; exact absurd h (by decide))
        refine Good.on ?_
        refine Good.ret2 Tryd.results20 (Res.tmp rfl) (Res.tmp rfl) ⟨by rw [hnone]; rfl, rfl⟩ (fun _ h => h.clear)
    | some ns =>
    rw [hns] at hA
    obtain ⟨hn64, v', rfl, rfl⟩ := hA
    have hnl := numsO_length _ _ hns
    obtain ⟨n0, n1, n2, rfl⟩ : ∃ a b c, ns = [a, b, c] := by
      match ns, hnl with
      | [a, b, c], _ => exact ⟨a, b, c, rfl⟩
    refine Good.know (fun w' h => h.slcIs (m := 3) 0 rfl (by decide) (by rfl)) ?_
    rintro ⟨a2, c2, rfl, hc2, hg2⟩
    obtain ⟨g2, rfl⟩ := hg2 (by simp [intsC])
    refine Good.on ?_
    refine Good.val (Yv.indexAddr rfl rfl rfl rfl rfl rfl (by decide) (by simp)) ?_
    refine Good.on ?_
    refine Good.loadC (v := .string (str p3)) (fun w' h => h.slcCell (j := 3) 1 rfl rfl rfl) ?_
    refine Good.on ?_
    refine Good.callK [] (unquote_spec p3 (by omega)).forget stays_env hE ck45 ?_
    rintro v L ⟨⟨_, rfl, _⟩, rfl⟩
    cases hu : unquoteL p3 with
    | none =>
      have hnone : readE s = none := by rw [hre, readElem, show [p0, p1, p2, p3].take 3 = [p0, p1, p2] from rfl, hns, show [p0, p1, p2, p3].getD 3 [] = p3 from rfl, hu]
      refine Good.on ?_
      (refine Good.partB (fun h => ?_) (fun h => ?_); exact absurd h (by decide))
      refine Good.on ?_
      (refine Good.ifB (fun h => ?_) (fun h => ?_); rotate_left; exact absurd h (by decide))
      refine Good.on ?_
      refine Good.ret2 Tryd.results20 (Res.tmp rfl) (Res.tmp rfl) ⟨by rw [hnone]; rfl, rfl⟩ (fun _ h => h.clear)
    | some t =>
    have hsome : readE s = some (.elem ⟨n0, n1, n2, t, true⟩) := by rw [hre, readElem, show [p0, p1, p2, p3].take 3 = [p0, p1, p2] from rfl, hns, show [p0, p1, p2, p3].getD 3 [] = p3 from rfl, hu]; rfl
    refine Good.on ?_
    (refine Good.partB (fun h => ?_) (fun h => ?_); exact absurd h (by decide))
    refine Good.on ?_
    (refine Good.ifB (fun h => ?_) (fun h => ?_); exact absurd h (by decide))
    refine Good.on ?_
    refine Good.hold (fun w' => w'.cell? ⟨g2, 0, none⟩ = some (.int .i64 n0) ∧ w'.cell? ⟨g2, 1, none⟩ = some (.int .i64 n1) ∧ w'.cell? ⟨g2, 2, none⟩ = some (.int .i64 n2)) (fun w' h => ⟨h.slcCell (j := 0) 0 rfl rfl rfl, h.slcCell (j := 1) 0 rfl rfl rfl, h.slcCell (j := 2) 0 rfl rfl rfl⟩) ?_
    refine Good.drawn ?_
    refine Good.dval 1 rfl (Yv.indexAddr rfl rfl rfl rfl rfl rfl (by decide) (by simp)) ?_
    refine Good.dload 2 rfl (fun w h => h.1) ?_
    refine Good.dval 4 rfl (Yv.indexAddr rfl rfl rfl rfl rfl rfl (by decide) (by simp)) ?_
    refine Good.dload 5 rfl (fun w h => h.2.1) ?_
    refine Good.dval 7 rfl (Yv.indexAddr rfl rfl rfl rfl rfl rfl (by decide) (by simp)) ?_
    refine Good.dload 8 rfl (fun w h => h.2.2) ?_
    refine Good.dval 10 rfl (Yv.build rfl rfl) ?_
    refine Good.dval 13 rfl (Yv.build rfl rfl) ?_
    refine Good.drawn ?_
    refine Good.dend ?_
    refine Good.on ?_
    refine Good.ret2 Tryd.results20 (Res.tmp rfl) (Res.tmp rfl) ⟨?_, rfl⟩ (fun _ h => h.clear)
    rw [hsome]; simp [readEV, EvD.val, ElemD.cells, hw, lateL]; rfl
  have hwl : w ≠ lateL := by simpa [lateL] using hl'
  have hrr : readE s = if w = markL then readNums 1 (fun ns => .mark (ns.getD 0 0)) ps else if w = faultL then readNums 2 (fun ns => .fault (ns.getD 0 0) (ns.getD 1 0)) ps else none := by
    rw [hro, readPs, if_neg (fun h => by rcases h.1 with h | h; exact hwe h; exact hwl h)]
  refine Good.ifB (fun hm => ?_) (fun hm => ?_) <;> refine Good.on ?_
  · have hw : w = markL := by simpa [markL] using hm
    have hnums : readE s = readNums 1 (fun ns => .mark (ns.getD 0 0)) ps := by rw [hrr, if_pos hw]
    refine Good.callR (numbers_spec _ ps (by omega) (fun x hx => by have := hmem x hx; omega)) ck58 (fun w' h => ⟨stays_env.at hE h, Rd.nil (h.slcRd 0 rfl (by decide) (strC_length _))⟩) ?_
    rintro v L hA
    unfold numsA at hA
    cases hns : numsO ps with
    | none =>
      rw [hns] at hA
      obtain ⟨rfl, rfl⟩ := hA
      have hnone : readE s = none := by rw [hnums, readNums, hns]
      refine Good.on ?_
      (refine Good.partB (fun h => ?_) (fun h => ?_); exact absurd h (by decide))
      refine Good.on ?_
      refine Good.ret2 Tryd.results20 (Res.tmp rfl) (Res.tmp rfl) ⟨by rw [hnone]; rfl, rfl⟩ (fun _ h => h.clear)
    | some ns =>
    rw [hns] at hA
    obtain ⟨hn64, v', rfl, rfl⟩ := hA
    refine Good.know (fun w' h => h.slcIs (m := ns.length) 0 rfl (by decide) (by simp [intsC])) ?_
    rintro ⟨a2, c2, rfl, hc2, hg2⟩
    refine Good.on ?_
    (refine Good.partB (fun h => ?_) (fun h => ?_); rotate_left; exact absurd h (by decide))
    refine Good.on ?_
    refine Good.ifB (fun hk => ?_) (fun hk => ?_) <;> refine Good.on ?_
    rotate_left
    · have hk : ns.length ≠ 1 := by simp at hk; omega
      have hnone : readE s = none := by rw [hnums, readNums, hns]; exact if_neg hk
      refine Good.ret2 Tryd.results20 (Res.tmp rfl) (Res.tmp rfl) ⟨by rw [hnone]; rfl, rfl⟩ (fun _ h => h.clear)
    have hk : ns.length = 1 := by simp at hk; omega
    obtain ⟨n0, rfl⟩ : ∃ n0, ns = [n0] := by
      match ns, hk with
      | [n0], _ => exact ⟨n0, rfl⟩
    obtain ⟨g2, rfl⟩ := hg2 (by simp [intsC])
    have hsome : readE s = some (.mark n0) := by rw [hnums, readNums, hns]; rfl
    refine Good.val (Yv.indexAddr rfl rfl rfl rfl rfl rfl (by decide) (by simp)) ?_
    refine Good.on ?_
    refine Good.loadC (v := .int .i64 n0) (fun w' h => h.slcCell (j := 0) 0 rfl rfl rfl) ?_
    refine Good.on ?_
    refine Good.build ?_
    refine Good.on ?_
    refine Good.ret2 Tryd.results20 (Res.tmp rfl) (Res.tmp rfl) ⟨by rw [hsome]; rfl, rfl⟩ (fun _ h => h.clear)
  have hwm : w ≠ markL := by simpa [markL] using hm
  refine Good.ifB (fun hf => ?_) (fun hf => ?_) <;> refine Good.on ?_
  · have hw : w = faultL := by simpa [faultL] using hf
    have hnums : readE s = readNums 2 (fun ns => .fault (ns.getD 0 0) (ns.getD 1 0)) ps := by rw [hrr, if_neg hwm, if_pos hw]
    refine Good.callR (numbers_spec _ ps (by omega) (fun x hx => by have := hmem x hx; omega)) ck58 (fun w' h => ⟨stays_env.at hE h, Rd.nil (h.slcRd 0 rfl (by decide) (strC_length _))⟩) ?_
    rintro v L hA
    unfold numsA at hA
    cases hns : numsO ps with
    | none =>
      rw [hns] at hA
      obtain ⟨rfl, rfl⟩ := hA
      have hnone : readE s = none := by rw [hnums, readNums, hns]
      refine Good.on ?_
      (refine Good.partB (fun h => ?_) (fun h => ?_); exact absurd h (by decide))
      refine Good.on ?_
      refine Good.ret2 Tryd.results20 (Res.tmp rfl) (Res.tmp rfl) ⟨by rw [hnone]; rfl, rfl⟩ (fun _ h => h.clear)
    | some ns =>
    rw [hns] at hA
    obtain ⟨hn64, v', rfl, rfl⟩ := hA
    refine Good.know (fun w' h => h.slcIs (m := ns.length) 0 rfl (by decide) (by simp [intsC])) ?_
    rintro ⟨a2, c2, rfl, hc2, hg2⟩
    refine Good.on ?_
    (refine Good.partB (fun h => ?_) (fun h => ?_); rotate_left; exact absurd h (by decide))
    refine Good.on ?_
    refine Good.ifB (fun hk => ?_) (fun hk => ?_) <;> refine Good.on ?_
    rotate_left
    · have hk : ns.length ≠ 2 := by simp at hk; omega
      have hnone : readE s = none := by rw [hnums, readNums, hns]; exact if_neg hk
      refine Good.ret2 Tryd.results20 (Res.tmp rfl) (Res.tmp rfl) ⟨by rw [hnone]; rfl, rfl⟩ (fun _ h => h.clear)
    have hk : ns.length = 2 := by simp at hk; omega
    obtain ⟨n0, n1, rfl⟩ : ∃ n0 n1, ns = [n0, n1] := by
      match ns, hk with
      | [n0, n1], _ => exact ⟨n0, n1, rfl⟩
    obtain ⟨g2, rfl⟩ := hg2 (by simp [intsC])
    have hsome : readE s = some (.fault n0 n1) := by rw [hnums, readNums, hns]; rfl
    refine Good.hold (fun w' => w'.cell? ⟨g2, 0, none⟩ = some (.int .i64 n0) ∧ w'.cell? ⟨g2, 1, none⟩ = some (.int .i64 n1)) (fun w' h => ⟨h.slcCell (j := 0) 0 rfl rfl rfl, h.slcCell (j := 1) 0 rfl rfl rfl⟩) ?_
    refine Good.drawn ?_
    refine Good.dval 1 rfl (Yv.indexAddr rfl rfl rfl rfl rfl rfl (by decide) (by simp)) ?_
    refine Good.dload 2 rfl (fun w h => h.1) ?_
    refine Good.dval 4 rfl (Yv.indexAddr rfl rfl rfl rfl rfl rfl (by decide) (by simp)) ?_
    refine Good.dload 5 rfl (fun w h => h.2) ?_
    refine Good.dval 6 rfl (Yv.build rfl rfl) ?_
    refine Good.drawn ?_
    refine Good.dend ?_
    refine Good.on ?_
    refine Good.ret2 Tryd.results20 (Res.tmp rfl) (Res.tmp rfl) ⟨by rw [hsome]; rfl, rfl⟩ (fun _ h => h.clear)
  have hwf : w ≠ faultL := by simpa [faultL] using hf
  refine Good.ret2 Tryd.results20 (Res.tmp rfl) (Res.tmp rfl) ⟨by rw [hrr, if_neg hwm, if_neg hwf]; rfl, rfl⟩ (fun _ h => h.clear)
end Go.Proofs.YtnfcbpgckomdfaaDoor
namespace Go.Proofs.YtnfcbpgckomdfaaDoor
open Go.Lib (strCells)
def evsC (l : List EvD) : List Value := l.map EvD.val
theorem evsC_length (l : List EvD) : (evsC l).length = l.length * 1 := by simp [evsC]
theorem evsC_get (l : List EvD) (i : Nat) (h : i < l.length) : (evsC l)[i]? = some l[i].val := by simp [evsC, h]
theorem EvD.iface (e : EvD) : ∃ t v, e.val = .iface t v := by cases e <;> exact ⟨_, _, rfl⟩
def textL (l : List EvD) : List UInt8 := l.flatMap fun e => evL e ++ [10]
theorem textL_take (l : List EvD) (i : Nat) (hi : i < l.length) : textL (l.take (i + 1)) = textL (l.take i) ++ (evL l[i] ++ [10]) := by
  unfold textL; rw [List.take_succ_eq_append_getElem hi, List.flatMap_append]; simp only [List.flatMap_cons, List.flatMap_nil, List.append_nil]
theorem evL_len {e : EvD} (h : e.ok) : (evL e).length ≤ 1000100 := by
  cases e with
  | mark t => have := itoaL_len (n := t) h; simp [evL, markL]; omega
  | fault p f => have := itoaL_len h.1; have := itoaL_len h.2; simp [evL, faultL]; omega
  | elem e =>
    have l1 := itoaL_len h.part
    have l2 := itoaL_len h.kind
    have l3 := itoaL_len h.time
    have l4 := quoteL_len e.text
    have l5 := h.text
    have h0 : (if e.late = true then lateL ++ [32] else elemL ++ [32]).length ≤ 8 := by cases e.late <;> decide
    rw [evL]
    generalize (if e.late = true then lateL ++ [32] else elemL ++ [32]) = pre at h0 ⊢
    simp only [List.length_append, List.length_singleton]; omega
theorem textL_len : ∀ (l : List EvD), (∀ e ∈ l, e.ok) → (textL l).length ≤ l.length * 1000101
  | [], _ => by simp [textL]
  | e :: l, h => by
    have h1 := evL_len (h e (by simp))
    have h2 := textL_len l (fun m hm => h m (by simp [hm]))
    simp only [textL, List.flatMap_cons, List.length_append, List.length_cons, List.length_nil] at h2 ⊢
    omega
def marksL (l : List EvD) : List Int := l.filterMap fun e => match e with | .mark t => some t | _ => none
def lastL (l : List EvD) : Int := (marksL l).getLastD (-9223372036854775808)
def partL : EvD → Int
  | .elem e => e.part
  | .fault p _ => p
  | .mark _ => -1
set_option maxHeartbeats 3200000
set_option maxRecDepth 20000
theorem text_spec (v : Value) (l : List EvD) (hok : ∀ e ∈ l, e.ok) (hn : l.length ≤ 1000) : Spec Tryd.prog 30 #[v] (fun W p => Env W p ∧ Rd v l.length (evsC l) W p) [] fun r L => r = .string (str (textL l)) ∧ L = [] := by
  refine Spec.go (vs := [_]) (hT := tyOk) (hm := mixed0) Tryd.func30 rfl Tryd.ntmps30 rfl ?_
  rintro W p ⟨hE, rd⟩
  obtain ⟨a, ca, rfl⟩ := rd.is
  refine Good.on ?_
  refine Good.alloc (fun b => ?_)
  refine Good.on ?_
  refine Good.loop (ι := Nat × List UInt8) (fun x => [(3, .v (.pointer (some ⟨b, 0, none⟩))), (6, .v (.slice a l.length ca)), (7, .v (.int .i64 l.length)), (8, .v (.int .i64 (x.1 : Int)))]) (fun x => [bld b x.2])
    (fun x => x.1 ≤ l.length ∧ x.2 = textL (l.take x.1)) (fun x => l.length - x.1) (0, []) ⟨by simp, by simp [textL]⟩ ⟨rfl, rfl, rfl, rfl, trivial⟩ (fun _ h => Sat.bldNew h) ?_
  rintro ⟨i, acc⟩ ⟨hi, hacc⟩
  dsimp only at hi hacc ⊢
  have hal : acc.length ≤ i * 1000101 := by
    have := textL_len (l.take i) (fun e he => hok e (List.mem_of_mem_take he))
    have h2 : (l.take i).length = i := by simp; omega
    rw [hacc]; rw [h2] at this; exact this
  refine Good.on ?_
  refine Good.ifD (fun h => ?_) (fun h => ?_) <;> refine Good.on ?_
  rotate_left
  · have hi' : i = l.length := by omega
    subst hi'
    refine Good.callP [0] (builderString_spec b acc (by omega)) ck56 ?_
    rintro v L ⟨rfl, rfl⟩
    refine Good.on ?_
    refine Good.ret1 Tryd.results30 (Res.tmp rfl) ⟨by rw [hacc, List.take_length], rfl⟩ (fun _ h => h.clear)
  have hi' : i < l.length := by omega
  obtain ⟨e, he⟩ : ∃ e, l[i] = e := ⟨_, rfl⟩
  have heok : e.ok := hok e (by rw [← he]; exact List.getElem_mem hi')
  have hel := evL_len heok
  obtain ⟨g, off, rfl, hc⟩ := rd.pos (by rw [evsC_length]; omega)
  refine Good.val (Yv.indexAddr rfl rfl rfl rfl rfl rfl (by omega) (by omega)) ?_
  rw [show ((i : Int)).toNat * ti38.size = i from by simp [ti38]]
  refine Good.on ?_
  refine Good.loadC (v := e.val) (fun w h => by have := hc _ w h i _ (evsC_get l i hi'); rw [he] at this; exact this) ?_
  cases e with
  | mark t =>
    refine Good.on ?_
    refine Good.invokeK (vs := [.agg #[.int .i64 t]]) (ags := []) (markLine_spec t heok) stays_env hE ck166 (line_mark _) ?_
    rintro r L ⟨rfl, rfl⟩
    refine Good.on ?_
    refine Good.val (Yv.concat (b := [10]) rfl rfl rfl (by simp only [List.length_singleton]; omega)) ?_
    refine Good.on ?_
    refine Good.callP [0] (writeString_spec b acc (evL (.mark t) ++ [10]) (by simp only [List.length_append, List.length_singleton]; omega)) ck55 ?_
    rintro v L ⟨rfl, rfl⟩
    refine Good.on ?_
    refine Good.again (i + 1, acc ++ (evL (.mark t) ++ [10])) ⟨⟨by dsimp only; omega, by dsimp only; rw [textL_take l i hi', he, hacc]⟩, by dsimp only; omega⟩ ⟨rfl, rfl, rfl, ?_, trivial⟩ (fun _ h => h)
    show some (Value.int .i64 _) = _
    rw [w64 _ (by omega)]; rfl
  | fault q f =>
    refine Good.on ?_
    refine Good.invokeK (vs := [.agg #[.int .i64 q, .int .i64 f]]) (ags := []) (faultLine_spec q f heok.1 heok.2) stays_env hE ck168 (line_fault _) ?_
    rintro r L ⟨rfl, rfl⟩
    refine Good.on ?_
    refine Good.val (Yv.concat (b := [10]) rfl rfl rfl (by simp only [List.length_singleton]; omega)) ?_
    refine Good.on ?_
    refine Good.callP [0] (writeString_spec b acc (evL (.fault q f) ++ [10]) (by simp only [List.length_append, List.length_singleton]; omega)) ck55 ?_
    rintro v L ⟨rfl, rfl⟩
    refine Good.on ?_
    refine Good.again (i + 1, acc ++ (evL (.fault q f) ++ [10])) ⟨⟨by dsimp only; omega, by dsimp only; rw [textL_take l i hi', he, hacc]⟩, by dsimp only; omega⟩ ⟨rfl, rfl, rfl, ?_, trivial⟩ (fun _ h => h)
    show some (Value.int .i64 _) = _
    rw [w64 _ (by omega)]; rfl
  | elem d =>
    refine Good.on ?_
    refine Good.invokeK (vs := [.agg d.cells.toArray]) (ags := []) (elemLine_spec d heok) stays_env hE ck165 (line_elem _) ?_
    rintro r L ⟨rfl, rfl⟩
    refine Good.on ?_
    refine Good.val (Yv.concat (b := [10]) rfl rfl rfl (by simp only [List.length_singleton]; omega)) ?_
    refine Good.on ?_
    refine Good.callP [0] (writeString_spec b acc (evL (.elem d) ++ [10]) (by simp only [List.length_append, List.length_singleton]; omega)) ck55 ?_
    rintro v L ⟨rfl, rfl⟩
    refine Good.on ?_
    refine Good.again (i + 1, acc ++ (evL (.elem d) ++ [10])) ⟨⟨by dsimp only; omega, by dsimp only; rw [textL_take l i hi', he, hacc]⟩, by dsimp only; omega⟩ ⟨rfl, rfl, rfl, ?_, trivial⟩ (fun _ h => h)
    show some (Value.int .i64 _) = _
    rw [w64 _ (by omega)]; rfl
end Go.Proofs.YtnfcbpgckomdfaaDoor
namespace Go.Proofs.YtnfcbpgckomdfaaDoor
open Go.Lib (strCells)
/-- The cells of those events that are marks; faults; elements. -/
def markOf : EvD → List Value
  | .mark t => [.int .i64 t]
  | _ => []
def faultOf : EvD → List Value
  | .fault q f => [.int .i64 q, .int .i64 f]
  | _ => []
def elemOf : EvD → List Value
  | .elem d => d.cells
  | _ => []
theorem of_take (f : EvD → List Value) (l : List EvD) (i : Nat) (hi : i < l.length) : (l.take (i + 1)).flatMap f = (l.take i).flatMap f ++ f l[i] := by
  rw [List.take_succ_eq_append_getElem hi, List.flatMap_append]; simp only [List.flatMap_cons, List.flatMap_nil, List.append_nil]
theorem markOf_len : ∀ l : List EvD, (l.flatMap markOf).length ≤ l.length * 1
  | [] => by simp
  | e :: l => by have := markOf_len l; cases e <;> simp [markOf] at this ⊢ <;> omega
theorem faultOf_len : ∀ l : List EvD, (l.flatMap faultOf).length ≤ l.length * 2
  | [] => by simp
  | e :: l => by have := faultOf_len l; cases e <;> simp [faultOf] at this ⊢ <;> omega
theorem elemOf_len : ∀ l : List EvD, (l.flatMap elemOf).length ≤ l.length * 5
  | [] => by simp
  | e :: l => by have := elemOf_len l; cases e <;> simp [elemOf, ElemD.cells] at this ⊢ <;> omega
set_option maxHeartbeats 3200000
set_option maxRecDepth 20000
theorem markOf_spec (v : Value) (l : List EvD) (hn : l.length ≤ 1000) : Spec Tryd.prog 26 #[v] (Rd v l.length (evsC l)) [] fun r L => L = [slc 59 1 r (l.flatMap markOf)] := by
  refine Spec.go (vs := [_]) (hT := tyOk) (hm := mixed0) Tryd.func26 rfl Tryd.ntmps26 rfl ?_
  rintro W p rd
  obtain ⟨a, ca, rfl⟩ := rd.is
  refine Good.on ?_
  refine Good.loop (ι := Nat × Value) (fun x => [(3, .v x.2), (8, .v (.slice a l.length ca)), (9, .v (.int .i64 l.length)), (10, .v (.int .i64 (x.1 : Int)))]) (fun x => [slc 59 1 x.2 ((l.take x.1).flatMap markOf)])
    (fun x => x.1 ≤ l.length) (fun x => l.length - x.1) (0, .slice none 0 0) (by simp) ⟨rfl, rfl, rfl, rfl, trivial⟩ (fun _ h => Sat.slcNil _ _ h) ?_
  rintro ⟨i, v⟩ hi
  dsimp only at hi ⊢
  have hlen := markOf_len (l.take i)
  have htl : (l.take i).length = i := by simp; omega
  rw [htl] at hlen
  refine Good.on ?_
  refine Good.ifD (fun h => ?_) (fun h => ?_) <;> refine Good.on ?_
  rotate_left
  · have hi' : i = l.length := by omega
    subst hi'
    refine Good.ret1 Tryd.results26 (Res.tmp rfl) (by rw [List.take_length]) (fun _ h => h)
  have hi' : i < l.length := by omega
  have htake := of_take markOf l i hi'
  obtain ⟨e, he⟩ : ∃ e, l[i] = e := ⟨_, rfl⟩
  rw [he] at htake
  obtain ⟨g, off, rfl, hc⟩ := rd.pos (by rw [evsC_length]; omega)
  refine Good.val (Yv.indexAddr rfl rfl rfl rfl rfl rfl (by omega) (by omega)) ?_
  rw [show ((i : Int)).toNat * ti38.size = i from by simp [ti38]]
  refine Good.on ?_
  refine Good.loadC (v := e.val) (fun w h => by have := hc _ w h i _ (evsC_get l i hi'); rw [he] at this; exact this) ?_
  cases e with
  | mark t =>
    refine Good.on ?_
    refine Good.val (Yv.assertYes rfl rfl rfl rfl rfl) ?_
    refine Good.on ?_
    refine Good.alloc (us := [.int .i64 0]) (fun g6 => ?_)
    refine Good.on ?_
    refine Good.store 0 ?_
    refine Good.on ?_
    (refine Good.ifB (fun h => ?_) (fun h => ?_); rotate_left; exact absurd h (by decide))
    refine Good.on ?_
    refine Good.loadRow 0 ?_
    refine Good.on ?_
    refine Good.push 1 (fun g' v' => ?_) ?_
    rotate_left
    · generalize (l.take i).flatMap markOf = xs at hlen ⊢
      simp [ti59]; omega
    refine Good.on ?_
    refine Good.again (i + 1, v') ⟨by dsimp only; omega, by dsimp only; omega⟩ ⟨rfl, rfl, rfl, ?_, trivial⟩ (fun w h => ?_)
    · show some (Value.int .i64 _) = _
      rw [w64 _ (by omega)]; rfl
    · dsimp only; rw [htake]; exact h.tail
  | fault q f =>
    refine Good.on ?_
    refine Good.val (Yv.assertNo rfl rfl rfl rfl rfl rfl) ?_
    refine Good.on ?_
    refine Good.alloc (us := [.int .i64 0]) (fun g6 => ?_)
    refine Good.on ?_
    refine Good.store 0 ?_
    refine Good.on ?_
    (refine Good.ifB (fun h => ?_) (fun h => ?_); exact absurd h (by decide))
    refine Good.on ?_
    refine Good.again (i + 1, v) ⟨by dsimp only; omega, by dsimp only; omega⟩ ⟨rfl, rfl, rfl, ?_, trivial⟩ (fun w h => ?_)
    · show some (Value.int .i64 _) = _
      rw [w64 _ (by omega)]; rfl
    · dsimp only; rw [htake]; simpa [markOf] using h.tail
  | elem d =>
    refine Good.on ?_
    refine Good.val (Yv.assertNo rfl rfl rfl rfl rfl rfl) ?_
    refine Good.on ?_
    refine Good.alloc (us := [.int .i64 0]) (fun g6 => ?_)
    refine Good.on ?_
    refine Good.store 0 ?_
    refine Good.on ?_
    (refine Good.ifB (fun h => ?_) (fun h => ?_); exact absurd h (by decide))
    refine Good.on ?_
    refine Good.again (i + 1, v) ⟨by dsimp only; omega, by dsimp only; omega⟩ ⟨rfl, rfl, rfl, ?_, trivial⟩ (fun w h => ?_)
    · show some (Value.int .i64 _) = _
      rw [w64 _ (by omega)]; rfl
    · dsimp only; rw [htake]; simpa [markOf] using h.tail
theorem faultOf_spec (v : Value) (l : List EvD) (hn : l.length ≤ 1000) : Spec Tryd.prog 27 #[v] (Rd v l.length (evsC l)) [] fun r L => L = [slc 64 2 r (l.flatMap faultOf)] := by
  refine Spec.go (vs := [_]) (hT := tyOk) (hm := mixed0) Tryd.func27 rfl Tryd.ntmps27 rfl ?_
  rintro W p rd
  obtain ⟨a, ca, rfl⟩ := rd.is
  refine Good.on ?_
  refine Good.loop (ι := Nat × Value) (fun x => [(3, .v x.2), (8, .v (.slice a l.length ca)), (9, .v (.int .i64 l.length)), (10, .v (.int .i64 (x.1 : Int)))]) (fun x => [slc 64 2 x.2 ((l.take x.1).flatMap faultOf)])
    (fun x => x.1 ≤ l.length) (fun x => l.length - x.1) (0, .slice none 0 0) (by simp) ⟨rfl, rfl, rfl, rfl, trivial⟩ (fun _ h => Sat.slcNil _ _ h) ?_
  rintro ⟨i, v⟩ hi
  dsimp only at hi ⊢
  have hlen := faultOf_len (l.take i)
  have htl : (l.take i).length = i := by simp; omega
  rw [htl] at hlen
  refine Good.on ?_
  refine Good.ifD (fun h => ?_) (fun h => ?_) <;> refine Good.on ?_
  rotate_left
  · have hi' : i = l.length := by omega
    subst hi'
    refine Good.ret1 Tryd.results27 (Res.tmp rfl) (by rw [List.take_length]) (fun _ h => h)
  have hi' : i < l.length := by omega
  have htake := of_take faultOf l i hi'
  obtain ⟨e, he⟩ : ∃ e, l[i] = e := ⟨_, rfl⟩
  rw [he] at htake
  obtain ⟨g, off, rfl, hc⟩ := rd.pos (by rw [evsC_length]; omega)
  refine Good.val (Yv.indexAddr rfl rfl rfl rfl rfl rfl (by omega) (by omega)) ?_
  rw [show ((i : Int)).toNat * ti38.size = i from by simp [ti38]]
  refine Good.on ?_
  refine Good.loadC (v := e.val) (fun w h => by have := hc _ w h i _ (evsC_get l i hi'); rw [he] at this; exact this) ?_
  cases e with
  | mark t =>
    refine Good.on ?_
    refine Good.val (Yv.assertNo rfl rfl rfl rfl rfl rfl) ?_
    refine Good.on ?_
    refine Good.alloc (us := [.int .i64 0, .int .i64 0]) (fun g6 => ?_)
    refine Good.on ?_
    refine Good.store 0 ?_
    refine Good.on ?_
    (refine Good.ifB (fun h => ?_) (fun h => ?_); exact absurd h (by decide))
    refine Good.on ?_
    refine Good.again (i + 1, v) ⟨by dsimp only; omega, by dsimp only; omega⟩ ⟨rfl, rfl, rfl, ?_, trivial⟩ (fun w h => ?_)
    · show some (Value.int .i64 _) = _
      rw [w64 _ (by omega)]; rfl
    · dsimp only; rw [htake]; simpa [faultOf] using h.tail
  | fault q f =>
    refine Good.on ?_
    refine Good.val (Yv.assertYes rfl rfl rfl rfl rfl) ?_
    refine Good.on ?_
    refine Good.alloc (us := [.int .i64 0, .int .i64 0]) (fun g6 => ?_)
    refine Good.on ?_
    refine Good.store 0 ?_
    refine Good.on ?_
    (refine Good.ifB (fun h => ?_) (fun h => ?_); rotate_left; exact absurd h (by decide))
    refine Good.on ?_
    refine Good.loadRow 0 ?_
    refine Good.on ?_
    refine Good.push 1 (fun g' v' => ?_) ?_
    rotate_left
    · generalize (l.take i).flatMap faultOf = xs at hlen ⊢
      simp [ti64]; omega
    refine Good.on ?_
    refine Good.again (i + 1, v') ⟨by dsimp only; omega, by dsimp only; omega⟩ ⟨rfl, rfl, rfl, ?_, trivial⟩ (fun w h => ?_)
    · show some (Value.int .i64 _) = _
      rw [w64 _ (by omega)]; rfl
    · dsimp only; rw [htake]; exact h.tail
  | elem d =>
    refine Good.on ?_
    refine Good.val (Yv.assertNo rfl rfl rfl rfl rfl rfl) ?_
    refine Good.on ?_
    refine Good.alloc (us := [.int .i64 0, .int .i64 0]) (fun g6 => ?_)
    refine Good.on ?_
    refine Good.store 0 ?_
    refine Good.on ?_
    (refine Good.ifB (fun h => ?_) (fun h => ?_); exact absurd h (by decide))
    refine Good.on ?_
    refine Good.again (i + 1, v) ⟨by dsimp only; omega, by dsimp only; omega⟩ ⟨rfl, rfl, rfl, ?_, trivial⟩ (fun w h => ?_)
    · show some (Value.int .i64 _) = _
      rw [w64 _ (by omega)]; rfl
    · dsimp only; rw [htake]; simpa [faultOf] using h.tail
theorem elemOf_spec (v : Value) (l : List EvD) (hn : l.length ≤ 1000) : Spec Tryd.prog 25 #[v] (Rd v l.length (evsC l)) [] fun r L => L = [slc 55 5 r (l.flatMap elemOf)] := by
  refine Spec.go (vs := [_]) (hT := tyOk) (hm := mixed0) Tryd.func25 rfl Tryd.ntmps25 rfl ?_
  rintro W p rd
  obtain ⟨a, ca, rfl⟩ := rd.is
  refine Good.on ?_
  refine Good.loop (ι := Nat × Value) (fun x => [(3, .v x.2), (8, .v (.slice a l.length ca)), (9, .v (.int .i64 l.length)), (10, .v (.int .i64 (x.1 : Int)))]) (fun x => [slc 55 5 x.2 ((l.take x.1).flatMap elemOf)])
    (fun x => x.1 ≤ l.length) (fun x => l.length - x.1) (0, .slice none 0 0) (by simp) ⟨rfl, rfl, rfl, rfl, trivial⟩ (fun _ h => Sat.slcNil _ _ h) ?_
  rintro ⟨i, v⟩ hi
  dsimp only at hi ⊢
  have hlen := elemOf_len (l.take i)
  have htl : (l.take i).length = i := by simp; omega
  rw [htl] at hlen
  refine Good.on ?_
  refine Good.ifD (fun h => ?_) (fun h => ?_) <;> refine Good.on ?_
  rotate_left
  · have hi' : i = l.length := by omega
    subst hi'
    refine Good.ret1 Tryd.results25 (Res.tmp rfl) (by rw [List.take_length]) (fun _ h => h)
  have hi' : i < l.length := by omega
  have htake := of_take elemOf l i hi'
  obtain ⟨e, he⟩ : ∃ e, l[i] = e := ⟨_, rfl⟩
  rw [he] at htake
  obtain ⟨g, off, rfl, hc⟩ := rd.pos (by rw [evsC_length]; omega)
  refine Good.val (Yv.indexAddr rfl rfl rfl rfl rfl rfl (by omega) (by omega)) ?_
  rw [show ((i : Int)).toNat * ti38.size = i from by simp [ti38]]
  refine Good.on ?_
  refine Good.loadC (v := e.val) (fun w h => by have := hc _ w h i _ (evsC_get l i hi'); rw [he] at this; exact this) ?_
  cases e with
  | mark t =>
    refine Good.on ?_
    refine Good.val (Yv.assertNo rfl rfl rfl rfl rfl rfl) ?_
    refine Good.on ?_
    refine Good.alloc (us := (ElemD.mk 0 0 0 [] false).cells) (fun g6 => ?_)
    refine Good.on ?_
    refine Good.store 0 ?_
    refine Good.on ?_
    (refine Good.ifB (fun h => ?_) (fun h => ?_); exact absurd h (by decide))
    refine Good.on ?_
    refine Good.again (i + 1, v) ⟨by dsimp only; omega, by dsimp only; omega⟩ ⟨rfl, rfl, rfl, ?_, trivial⟩ (fun w h => ?_)
    · show some (Value.int .i64 _) = _
      rw [w64 _ (by omega)]; rfl
    · dsimp only; rw [htake]; simpa [elemOf] using h.tail
  | fault q f =>
    refine Good.on ?_
    refine Good.val (Yv.assertNo rfl rfl rfl rfl rfl rfl) ?_
    refine Good.on ?_
    refine Good.alloc (us := (ElemD.mk 0 0 0 [] false).cells) (fun g6 => ?_)
    refine Good.on ?_
    refine Good.store 0 ?_
    refine Good.on ?_
    (refine Good.ifB (fun h => ?_) (fun h => ?_); exact absurd h (by decide))
    refine Good.on ?_
    refine Good.again (i + 1, v) ⟨by dsimp only; omega, by dsimp only; omega⟩ ⟨rfl, rfl, rfl, ?_, trivial⟩ (fun w h => ?_)
    · show some (Value.int .i64 _) = _
      rw [w64 _ (by omega)]; rfl
    · dsimp only; rw [htake]; simpa [elemOf] using h.tail
  | elem d =>
    refine Good.on ?_
    refine Good.val (Yv.assertYes rfl rfl rfl rfl rfl) ?_
    refine Good.on ?_
    refine Good.alloc (us := (ElemD.mk 0 0 0 [] false).cells) (fun g6 => ?_)
    refine Good.on ?_
    refine Good.store 0 ?_
    refine Good.on ?_
    (refine Good.ifB (fun h => ?_) (fun h => ?_); rotate_left; exact absurd h (by decide))
    refine Good.on ?_
    refine Good.loadRow 0 ?_
    refine Good.on ?_
    refine Good.push 1 (fun g' v' => ?_) ?_
    rotate_left
    · generalize (l.take i).flatMap elemOf = xs at hlen ⊢
      simp [ti55]; omega
    refine Good.on ?_
    refine Good.again (i + 1, v') ⟨by dsimp only; omega, by dsimp only; omega⟩ ⟨rfl, rfl, rfl, ?_, trivial⟩ (fun w h => ?_)
    · show some (Value.int .i64 _) = _
      rw [w64 _ (by omega)]; rfl
    · dsimp only; rw [htake]; exact h.tail
end Go.Proofs.YtnfcbpgckomdfaaDoor
namespace Go.Proofs.YtnfcbpgckomdfaaDoor
open Go.Lib (strCells)
theorem marks_cells (l : List EvD) : l.flatMap markOf = intsC (marksL l) := by
  induction l with
  | nil => rfl
  | cons e l ih =>
    rw [List.flatMap_cons, ih]
    cases e <;> rfl
/-- An event in the document's own type. -/
def plainP : EvD → EvP
  | .elem e => ⟨0, e.part, e.kind, e.time, e.text, e.late, 0, 0⟩
  | .mark t => ⟨1, 0, 0, 0, [], false, t, 0⟩
  | .fault q f => ⟨2, q, 0, 0, [], false, 0, f⟩
theorem plainP_ev (e : EvD) : (plainP e).ev = e := by cases e <;> rfl
theorem getLastD_at (l : List Int) (d : Int) (h : 0 < l.length) : l[l.length - 1]? = some (l.getLastD d) := by
  cases l with
  | nil => simp at h
  | cons x l => simp [List.getLastD_eq_getLast?, List.getLast?_eq_getElem?]
set_option maxHeartbeats 3200000
set_option maxRecDepth 20000
theorem last_spec (v : Value) (l : List EvD) (hn : l.length ≤ 1000) : Spec Tryd.prog 28 #[v] (Rd v l.length (evsC l)) [] fun r L => r = .int .i64 (lastL l) ∧ L = [] := by
  refine Spec.go (vs := [_]) (hT := tyOk) (hm := mixed0) Tryd.func28 rfl Tryd.ntmps28 rfl ?_
  rintro W p rd
  refine Good.on ?_
  refine Good.callK [] (markOf_spec v l hn) (stays_rd _ _ _) rd ck26 ?_
  rintro u L rfl
  have hml := markOf_len l
  rw [marks_cells] at hml ⊢
  obtain ⟨ms, hms⟩ : ∃ ms, marksL l = ms := ⟨_, rfl⟩
  have hlast : lastL l = ms.getLastD (-9223372036854775808) := by rw [lastL, hms]
  rw [hms] at hml ⊢
  have hil : (intsC ms).length = ms.length := by simp [intsC]
  rw [hil] at hml
  refine Good.know (fun w' h => h.slcIs (m := ms.length) 0 rfl (by decide) (by simp [intsC])) ?_
  rintro ⟨a, c, rfl, hc, hg⟩
  refine Good.on ?_
  refine Good.ifB (fun h0 => ?_) (fun h0 => ?_) <;> refine Good.on ?_
  · have : ms = [] := by simpa using h0
    subst this
    refine Good.ret1 Tryd.results28 (Res.tmp rfl) ⟨by rw [hlast]; rfl, rfl⟩ (fun _ h => h.clear)
  have hp : 0 < ms.length := by
    cases ms with
    | nil => simp at h0
    | cons x y => simp
  obtain ⟨g, rfl⟩ := hg (by intro e; have := congrArg List.length e; rw [hil] at this; simp at this; subst this; simp at hp)
  rw [show IntKind.i64.wrap ((ms.length : Int) - 1) = ((ms.length - 1 : Nat) : Int) from by rw [w64 _ (by omega)]; omega]
  refine Good.val (Yv.indexAddr rfl rfl rfl rfl rfl rfl (by omega) (by omega)) ?_
  rw [show (((ms.length - 1 : Nat) : Int)).toNat * ti59.size = ms.length - 1 from by simp [ti59], Nat.zero_add]
  refine Good.on ?_
  refine Good.loadC (ad := ⟨g, ms.length - 1, none⟩) (v := .int .i64 (ms.getLastD (-9223372036854775808))) (fun w' h => h.slcCell (j := ms.length - 1) 0 rfl rfl (by unfold intsC; rw [List.getElem?_map, getLastD_at ms _ hp]; rfl)) ?_
  refine Good.on ?_
  refine Good.ret1 Tryd.results28 (Res.tmp rfl) ⟨by rw [hlast], rfl⟩ (fun _ h => h.clear)
theorem part_spec (e : EvD) : Spec Tryd.prog 29 #[e.val] noFacts [] fun r L => r = .int .i64 (partL e) ∧ L = [] := by
  refine Spec.go (vs := [_]) (hT := tyOk) (hm := mixed0) Tryd.func29 rfl Tryd.ntmps29 rfl ?_
  intro W p _
  cases e with
  | elem d =>
    refine Good.on ?_
    refine Good.val (Yv.assertYes rfl rfl rfl rfl rfl) ?_
    refine Good.on ?_
    (refine Good.ifB (fun h => ?_) (fun h => ?_); rotate_left; exact absurd h (by decide))
    refine Good.on ?_
    refine Good.alloc (us := (ElemD.mk 0 0 0 [] false).cells) (fun g => ?_)
    refine Good.on ?_
    refine Good.store 0 ?_
    refine Good.on ?_
    refine Good.load 0 (v := .int .i64 d.part) ?_
    refine Good.on ?_
    refine Good.ret1 Tryd.results29 (Res.tmp rfl) ⟨rfl, rfl⟩ (fun _ h => h.clear)
  | fault q f =>
    refine Good.on ?_
    refine Good.val (Yv.assertNo rfl rfl rfl rfl rfl rfl) ?_
    refine Good.on ?_
    (refine Good.ifB (fun h => ?_) (fun h => ?_); exact absurd h (by decide))
    refine Good.on ?_
    refine Good.val (Yv.assertYes rfl rfl rfl rfl rfl) ?_
    refine Good.on ?_
    (refine Good.ifB (fun h => ?_) (fun h => ?_); rotate_left; exact absurd h (by decide))
    refine Good.on ?_
    refine Good.alloc (us := [.int .i64 0, .int .i64 0]) (fun g => ?_)
    refine Good.on ?_
    refine Good.store 0 ?_
    refine Good.on ?_
    refine Good.load 0 (v := .int .i64 q) ?_
    refine Good.on ?_
    refine Good.ret1 Tryd.results29 (Res.tmp rfl) ⟨rfl, rfl⟩ (fun _ h => h.clear)
  | mark t =>
    refine Good.on ?_
    refine Good.val (Yv.assertNo rfl rfl rfl rfl rfl rfl) ?_
    refine Good.on ?_
    (refine Good.ifB (fun h => ?_) (fun h => ?_); exact absurd h (by decide))
    refine Good.on ?_
    refine Good.val (Yv.assertNo rfl rfl rfl rfl rfl rfl) ?_
    refine Good.on ?_
    (refine Good.ifB (fun h => ?_) (fun h => ?_); exact absurd h (by decide))
    refine Good.on ?_
    refine Good.ret1 Tryd.results29 (Res.tmp rfl) ⟨rfl, rfl⟩ (fun _ h => h.clear)
end Go.Proofs.YtnfcbpgckomdfaaDoor
namespace Go.Proofs.YtnfcbpgckomdfaaDoor
open Go.Lib (strCells)
def plainC (l : List EvD) : List Value := l.flatMap fun e => (plainP e).cells
theorem plainC_len (l : List EvD) : (plainC l).length = l.length * 8 := by
  induction l with
  | nil => rfl
  | cons e l ih => simp [plainC, EvP.cells] at ih ⊢; omega
theorem plainC_take (l : List EvD) (i : Nat) (hi : i < l.length) : plainC (l.take (i + 1)) = plainC (l.take i) ++ (plainP l[i]).cells := of_take (fun e => (plainP e).cells) l i hi
set_option maxHeartbeats 3200000
set_option maxRecDepth 20000
theorem plain_spec (v : Value) (l : List EvD) (hn : l.length ≤ 1000) : Spec Tryd.prog 22 #[v] (Rd v l.length (evsC l)) [] fun r L => L = [slc 45 8 r (plainC l)] := by
  refine Spec.go (vs := [_]) (hT := tyOk) (hm := mixed0) Tryd.func22 rfl Tryd.ntmps22 rfl ?_
  rintro W p rd
  obtain ⟨a, ca, rfl⟩ := rd.is
  refine Good.on ?_
  refine Good.loop (ι := Nat × Value) (fun x => [(3, .v x.2), (10, .v (.slice a l.length ca)), (11, .v (.int .i64 l.length)), (12, .v (.int .i64 (x.1 : Int)))]) (fun x => [slc 45 8 x.2 (plainC (l.take x.1))])
    (fun x => x.1 ≤ l.length) (fun x => l.length - x.1) (0, .slice none 0 0) (by simp) ⟨rfl, rfl, rfl, rfl, trivial⟩ (fun _ h => Sat.slcNil _ _ h) ?_
  rintro ⟨i, v⟩ hi
  dsimp only at hi ⊢
  have hlen := plainC_len (l.take i)
  have htl : (l.take i).length = i := by simp; omega
  rw [htl] at hlen
  refine Good.on ?_
  refine Good.ifD (fun h => ?_) (fun h => ?_) <;> refine Good.on ?_
  rotate_left
  · have hi' : i = l.length := by omega
    subst hi'
    refine Good.ret1 Tryd.results22 (Res.tmp rfl) (by rw [List.take_length]) (fun _ h => h)
  have hi' : i < l.length := by omega
  have htake := plainC_take l i hi'
  obtain ⟨e, he⟩ : ∃ e, l[i] = e := ⟨_, rfl⟩
  rw [he] at htake
  obtain ⟨g, off, rfl, hc⟩ := rd.pos (by rw [evsC_length]; omega)
  refine Good.val (Yv.indexAddr rfl rfl rfl rfl rfl rfl (by omega) (by omega)) ?_
  rw [show ((i : Int)).toNat * ti38.size = i from by simp [ti38]]
  refine Good.on ?_
  refine Good.loadC (v := e.val) (fun w h => by have := hc _ w h i _ (evsC_get l i hi'); rw [he] at this; exact this) ?_
  cases e with
  | mark t =>
    refine Good.on ?_
    refine Good.val (Yv.assertYes rfl rfl rfl rfl rfl) ?_
    refine Good.on ?_
    (refine Good.ifB (fun h => ?_) (fun h => ?_); rotate_left; exact absurd h (by decide))
    refine Good.on ?_
    refine Good.alloc (us := [.int .i64 0]) (fun g6 => ?_)
    refine Good.on ?_
    refine Good.store 0 ?_
    refine Good.on ?_
    refine Good.load 0 (v := .int .i64 t) ?_
    refine Good.on ?_
    refine Good.build ?_
    refine Good.on ?_
    refine Good.push 1 (fun g' v' => ?_) ?_
    rotate_left
    · generalize plainC (l.take i) = xs at hlen ⊢
      simp [ti45]; omega
    refine Good.on ?_
    refine Good.again (i + 1, v') ⟨by dsimp only; omega, by dsimp only; omega⟩ ⟨rfl, rfl, rfl, ?_, trivial⟩ (fun w h => ?_)
    · show some (Value.int .i64 _) = _
      rw [w64 _ (by omega)]; rfl
    · dsimp only; rw [htake]; exact h.tail
  | fault q f =>
    refine Good.on ?_
    refine Good.val (Yv.assertNo rfl rfl rfl rfl rfl rfl) ?_
    refine Good.on ?_
    (refine Good.ifB (fun h => ?_) (fun h => ?_); exact absurd h (by decide))
    refine Good.on ?_
    refine Good.val (Yv.assertYes rfl rfl rfl rfl rfl) ?_
    refine Good.on ?_
    (refine Good.ifB (fun h => ?_) (fun h => ?_); rotate_left; exact absurd h (by decide))
    refine Good.on ?_
    refine Good.alloc (us := [.int .i64 0, .int .i64 0]) (fun g6 => ?_)
    refine Good.on ?_
    refine Good.store 0 ?_
    refine Good.on ?_
    refine Good.load 0 (v := .int .i64 q) ?_
    refine Good.on ?_
    refine Good.load 0 (v := .int .i64 f) ?_
    refine Good.on ?_
    refine Good.build ?_
    refine Good.on ?_
    refine Good.push 1 (fun g' v' => ?_) ?_
    rotate_left
    · generalize plainC (l.take i) = xs at hlen ⊢
      simp [ti45]; omega
    refine Good.on ?_
    refine Good.again (i + 1, v') ⟨by dsimp only; omega, by dsimp only; omega⟩ ⟨rfl, rfl, rfl, ?_, trivial⟩ (fun w h => ?_)
    · show some (Value.int .i64 _) = _
      rw [w64 _ (by omega)]; rfl
    · dsimp only; rw [htake]; exact h.tail
  | elem d =>
    refine Good.on ?_
    refine Good.val (Yv.assertNo rfl rfl rfl rfl rfl rfl) ?_
    refine Good.on ?_
    (refine Good.ifB (fun h => ?_) (fun h => ?_); exact absurd h (by decide))
    refine Good.on ?_
    refine Good.val (Yv.assertNo rfl rfl rfl rfl rfl rfl) ?_
    refine Good.on ?_
    (refine Good.ifB (fun h => ?_) (fun h => ?_); exact absurd h (by decide))
    refine Good.on ?_
    refine Good.val (Yv.assertYes rfl rfl rfl rfl rfl) ?_
    refine Good.on ?_
    (refine Good.ifB (fun h => ?_) (fun h => ?_); rotate_left; exact absurd h (by decide))
    refine Good.on ?_
    refine Good.alloc (us := (ElemD.mk 0 0 0 [] false).cells) (fun g6 => ?_)
    refine Good.on ?_
    refine Good.store 0 ?_
    refine Good.on ?_
    refine Good.load 0 (v := .int .i64 d.part) ?_
    refine Good.on ?_
    refine Good.loadRow 0 ?_
    refine Good.on ?_
    refine Good.load 0 (v := .bool d.late) ?_
    refine Good.on ?_
    refine Good.build ?_
    refine Good.on ?_
    refine Good.push 1 (fun g' v' => ?_) ?_
    rotate_left
    · generalize plainC (l.take i) = xs at hlen ⊢
      simp [ti45]; omega
    refine Good.on ?_
    refine Good.again (i + 1, v') ⟨by dsimp only; omega, by dsimp only; omega⟩ ⟨rfl, rfl, rfl, ?_, trivial⟩ (fun w h => ?_)
    · show some (Value.int .i64 _) = _
      rw [w64 _ (by omega)]; rfl
    · dsimp only; rw [htake]; exact h.tail
end Go.Proofs.YtnfcbpgckomdfaaDoor
namespace Go.Proofs.YtnfcbpgckomdfaaDoor
open Go.Lib (strCells)
theorem run_equalIn_iface {P : Program} (w : World) (d : Nat) {ti tx : TypeId} {ms : Array (String × TypeId)} (hi : P.underlying ti = some (.interface ms)) (hc : (P.info? tx).map (·.comparable) = some true) (a b : Value) {r : Bool} (h : (Op.equalIn d tx a b).run P w = .ok r w) :
    (Op.equalIn (d + 1) ti (.iface tx a) (.iface tx b)).run P w = .ok r w := by
  cases hq : P.info? tx with
  | none => rw [hq] at hc; cases hc
  | some j =>
    rw [hq] at hc
    have hj : j.comparable = true := by simpa using hc
    simp [Op.equalIn, run_underlying hi, typeInfo, hq, hj, h]
theorem eqInt (w : World) (d : Nat) (x y : Int) : (Op.equalIn (d + 1) 3 (.int .i64 x) (.int .i64 y)).run Tryd.prog w = .ok (x == y) w := run_equalIn_int w d _ _ .i64 x y tk3.under
theorem eqErrno (w : World) (d : Nat) (x y : Int) : (Op.equalIn (d + 1) 62 (.int .i64 x) (.int .i64 y)).run Tryd.prog w = .ok (x == y) w := run_equalIn_int w d _ _ .i64 x y tk62.under
theorem eqBool (w : World) (d : Nat) (x y : Bool) : (Op.equalIn (d + 1) 4 (.bool x) (.bool y)).run Tryd.prog w = .ok (x == y) w := run_equalIn_bool w d _ x y tk4.under
theorem eqStr (w : World) (d : Nat) (x y : ByteArray) : (Op.equalIn (d + 1) 9 (.string x) (.string y)).run Tryd.prog w = .ok (x.toList == y.toList) w := run_equalIn_string w d _ x y tk9.under
theorem st59 : Tryd.prog.underlying 59 = some (.struct (Tryd.prog.fieldsOf 59)) := by
  unfold Program.fieldsOf; rw [tk59.under]; rfl
theorem fl59 : (Tryd.prog.fieldsOf 59).toList = [{ name := "At", type := 3, offset := 0, embedded := false, tag := "", pkgPath := "", byteOffset := 0 }] := by
  unfold Program.fieldsOf; rw [tk59.under]; rfl
theorem st64 : Tryd.prog.underlying 64 = some (.struct (Tryd.prog.fieldsOf 64)) := by
  unfold Program.fieldsOf; rw [tk64.under]; rfl
theorem fl64 : (Tryd.prog.fieldsOf 64).toList = [{ name := "Part", type := 3, offset := 0, embedded := false, tag := "", pkgPath := "", byteOffset := 0 }, { name := "Err", type := 62, offset := 1, embedded := false, tag := "", pkgPath := "", byteOffset := 8 }] := by
  unfold Program.fieldsOf; rw [tk64.under]; rfl
theorem st43 : Tryd.prog.underlying 43 = some (.struct (Tryd.prog.fieldsOf 43)) := by
  unfold Program.fieldsOf; rw [tk43.under]; rfl
theorem fl43 : (Tryd.prog.fieldsOf 43).toList = [{ name := "Kind", type := 3, offset := 0, embedded := false, tag := "", pkgPath := "", byteOffset := 0 }, { name := "Time", type := 3, offset := 1, embedded := false, tag := "", pkgPath := "", byteOffset := 8 }, { name := "Text", type := 9, offset := 2, embedded := false, tag := "", pkgPath := "", byteOffset := 16 }] := by
  unfold Program.fieldsOf; rw [tk43.under]; rfl
theorem st55 : Tryd.prog.underlying 55 = some (.struct (Tryd.prog.fieldsOf 55)) := by
  unfold Program.fieldsOf; rw [tk55.under]; rfl
theorem fl55 : ∃ a b c : Field, (Tryd.prog.fieldsOf 55).toList = [a, b, c] ∧ (a.name ≠ "_" ∧ a.type = 3 ∧ a.offset = 0) ∧ (b.name ≠ "_" ∧ b.type = 43 ∧ b.offset = 1) ∧ (c.name ≠ "_" ∧ c.type = 4 ∧ c.offset = 4) := by
  unfold Program.fieldsOf; rw [tk55.under]
  exact ⟨_, _, _, rfl, ⟨by decide, rfl, rfl⟩, ⟨by decide, rfl, rfl⟩, ⟨by decide, rfl, rfl⟩⟩
theorem markEq (w : World) (d : Nat) (t : Int) : (Op.equalIn (d + 2) 59 (.agg #[.int .i64 t]) (.agg #[.int .i64 t])).run Tryd.prog w = .ok true w := by
  rw [run_equalIn_struct w (d + 1) _ _ _ st59 (by kernel_rfl), fl59]
  have q0 : (part 3 #[Value.int .i64 t] 0).run Tryd.prog w = .ok (.int .i64 t) w := run_part_plain w (by kernel_rfl) rfl
  simp only [Op.eqFields, Sem.run_bind, Sem.run_ite, q0, eqInt, Result.andThen_ok, Sem.run_pure]
  simp
theorem faultEq (w : World) (d : Nat) (q f : Int) : (Op.equalIn (d + 2) 64 (.agg #[.int .i64 q, .int .i64 f]) (.agg #[.int .i64 q, .int .i64 f])).run Tryd.prog w = .ok true w := by
  rw [run_equalIn_struct w (d + 1) _ _ _ st64 (by kernel_rfl), fl64]
  have q0 : (part 3 #[Value.int .i64 q, Value.int .i64 f] 0).run Tryd.prog w = .ok (.int .i64 q) w := run_part_plain w (by kernel_rfl) rfl
  have q1 : (part 62 #[Value.int .i64 q, Value.int .i64 f] 1).run Tryd.prog w = .ok (.int .i64 f) w := run_part_plain w (by kernel_rfl) rfl
  simp only [Op.eqFields, Sem.run_bind, Sem.run_ite, q0, q1, eqInt, eqErrno, Result.andThen_ok, Sem.run_pure]
  simp
theorem recSelf (w : World) (d : Nat) (k t : Int) (s : ByteArray) : (Op.equalIn (d + 2) 43 (.agg #[.int .i64 k, .int .i64 t, .string s]) (.agg #[.int .i64 k, .int .i64 t, .string s])).run Tryd.prog w = .ok true w := by
  rw [run_equalIn_struct w (d + 1) _ _ _ st43 (by kernel_rfl), fl43]
  have q0 : (part 3 #[Value.int .i64 k, Value.int .i64 t, Value.string s] 0).run Tryd.prog w = .ok (.int .i64 k) w := run_part_plain w (by kernel_rfl) rfl
  have q1 : (part 3 #[Value.int .i64 k, Value.int .i64 t, Value.string s] 1).run Tryd.prog w = .ok (.int .i64 t) w := run_part_plain w (by kernel_rfl) rfl
  have q2 : (part 9 #[Value.int .i64 k, Value.int .i64 t, Value.string s] 2).run Tryd.prog w = .ok (.string s) w := run_part_plain w (by kernel_rfl) rfl
  simp only [Op.eqFields, Sem.run_bind, Sem.run_ite, q0, q1, q2, eqInt, eqStr, Result.andThen_ok, Sem.run_pure]
  simp
theorem elemSelf (w : World) (d : Nat) (e : ElemD) : (Op.equalIn (d + 3) 55 (.agg e.cells.toArray) (.agg e.cells.toArray)).run Tryd.prog w = .ok true w := by
  obtain ⟨fa, fb, fc, hfl, ⟨a1, a2, a3⟩, ⟨b1, b2, b3⟩, ⟨c1, c2, c3⟩⟩ := fl55
  rw [run_equalIn_struct w (d + 2) _ _ _ st55 (by kernel_rfl), hfl]
  obtain ⟨p, k, t, s, l⟩ := e
  have q0 : (part 3 (ElemD.mk p k t s l).cells.toArray 0).run Tryd.prog w = .ok (.int .i64 p) w := run_part_plain w (by kernel_rfl) rfl
  have q2 : (part 4 (ElemD.mk p k t s l).cells.toArray 4).run Tryd.prog w = .ok (.bool l) w := run_part_plain w (by kernel_rfl) rfl
  have hs := tyOk.sizeOf (t := 43) (i := ti43) rfl w
  have q1 : (part 43 (ElemD.mk p k t s l).cells.toArray 1).run Tryd.prog w = .ok (.agg #[.int .i64 k, .int .i64 t, .string (str s)]) w := by
    unfold part isAgg
    simp only [Sem.run_bind, run_underlying tk43.under, Result.andThen_ok]
    simp only [ti43, Sem.run_pure, Result.andThen_ok, if_true, Sem.run_bind]
    rw [show (sizeOf 43).run Tryd.prog w = .ok 3 w from hs]
    rfl
  simp only [Op.eqFields, Sem.run_bind, Sem.run_ite, a1, a2, a3, b1, b2, b3, c1, c2, c3, q0, q1, q2, eqInt, eqBool, recSelf, Result.andThen_ok, Sem.run_pure, not_false_eq_true, if_true, ne_eq]
  simp
/-- An event is itself. -/
theorem evSelf (w : World) (d : Nat) (e : EvD) : (Op.equalIn (d + 4) 38 e.val e.val).run Tryd.prog w = .ok true w := by
  have hu := tk38.under
  cases e with
  | mark t => exact run_equalIn_iface w (d + 3) hu (by kernel_rfl) _ _ (markEq w (d + 1) t)
  | fault q f => exact run_equalIn_iface w (d + 3) hu (by kernel_rfl) _ _ (faultEq w (d + 1) q f)
  | elem x => exact run_equalIn_iface w (d + 3) hu (by kernel_rfl) _ _ (elemSelf w d x)
end Go.Proofs.YtnfcbpgckomdfaaDoor
namespace Go.Proofs.YtnfcbpgckomdfaaDoor
open Go.Lib (strCells)
section
variable {W : World} {p : Hl} {tm : Tm} {n : Nat} {o : Oper}
theorem Yv.evSelf {x y : Operand} {ex ey : Ent} {t' : TypeId} {e : EvD} (ho : o.op = .binOp .eql 38 x y t') (hx : opd tm x = some ex) (hxv : ex.val = e.val) (hy : opd tm y = some ey) (hyv : ey.val = e.val) : Yv ⟨Tryd.prog, tyT, tyOk, mixed0, n, W, p⟩ tm o (.bool true) := fun ac hA w => by
  have hx' : ac.eval x = e.val := by rw [hA.eval hx, hxv]
  have hy' : ac.eval y = e.val := by rw [hA.eval hy, hyv]
  have h := Go.Proofs.YtnfcbpgckomdfaaDoor.evSelf w 9996 e
  obtain ⟨t, v, hev⟩ := e.iface
  rw [hev] at hx' hy' h
  have hg : eqGuard .eql 38 x y (.iface t v) (.iface t v) = Pure.pure () := by unfold eqGuard; rfl
  unfold execOp
  simp only [ho, hx', hy', hg, binOp, Sem.run_bind, Sem.run_pure, Result.andThen_ok]
  simp [Op.equal, Op.maxDepth, h]
end
theorem rdNil22 (w : World) : rdAt w (.slice none 0 0) 0 (evsC []) := ⟨none, 0, rfl, fun j u h => by simp [evsC] at h⟩
def spkE : EvD := .elem ⟨0, 1, 7, [97], true⟩
theorem spkE_read : readE [108, 97, 116, 101, 32, 48, 32, 49, 32, 55, 32, 34, 97, 34] = some spkE := by decide +kernel
theorem spkE_text : textL [.mark 5] = [109, 97, 114, 107, 32, 53, 10] := by decide +kernel
set_option maxHeartbeats 3200000
set_option maxRecDepth 20000
theorem speaks22_spec : Spec Tryd.prog 19 #[] Env [] fun x L => x = .bool true ∧ L = [] := by
  refine Spec.go (vs := []) (hT := tyOk) (hm := mixed0) Tryd.func19 rfl Tryd.ntmps19 rfl ?_
  rintro W p hE
  refine Good.on ?_
  refine Good.callK [] (eRead_spec [108, 97, 116, 101, 32, 48, 32, 49, 32, 55, 32, 34, 97, 34] (by decide)) stays_env hE ck20 ?_
  rintro r L ⟨rfl, rfl⟩
  rw [spkE_read]
  refine Good.on ?_
  (refine Good.partB (fun h => ?_) (fun h => ?_); rotate_left; exact absurd h (by decide))
  refine Good.on ?_
  refine Good.build ?_
  refine Good.on ?_
  refine Good.build ?_
  refine Good.on ?_
  refine Good.val (Yv.evSelf (e := spkE) rfl rfl rfl rfl rfl) ?_
  refine Good.on ?_
  (refine Good.partB (fun h => ?_) (fun h => ?_); rotate_left; exact absurd h (by decide))
  refine Good.on ?_
  refine Good.build ?_
  refine Good.on ?_
  refine Good.op rfl (OpW.lit rfl rfl rfl fun g => ?_)
  refine Good.mem (l' := [slc 38 1 (.slice (some ⟨g, 0, none⟩) 1 1) (evsC [.mark 5])]) (fun w h => Sat.rowSlc rfl (by unfold maxLen; omega) h) ?_
  refine Good.on ?_
  refine Good.callR (text_spec _ [.mark 5] (by simp [EvD.ok, I64]) (by simp)) ck30 (fun w h => ⟨stays_env.at hE h, Rd.nil (h.slcRd 0 rfl (by decide) rfl)⟩) ?_
  rintro r L ⟨rfl, rfl⟩
  rw [spkE_text]
  refine Good.on ?_
  refine Good.partB (fun _ => ?_) (fun h => ?_)
  rotate_left
  · simp at h
  refine Good.on ?_
  refine Good.callR (last_spec (.slice none 0 0) [] (by simp)) ck28 (fun w h => Rd.nil (rdNil22 w)) ?_
  rintro r L ⟨rfl, rfl⟩
  refine Good.on ?_
  refine Good.ret1 Tryd.results19 (Res.tmp rfl) ⟨?_, rfl⟩ (fun _ h => h.clear)
  rfl
end Go.Proofs.YtnfcbpgckomdfaaDoor
namespace Go.Proofs.YtnfcbpgckomdfaaDoor
theorem index_at (c : UInt8) : ∀ (bs : List UInt8) (m : Nat), Lib.indexByte bs c = (m : Int) → bs = bs.take m ++ c :: bs.drop (m + 1)
  | [], m, h => by simp [Lib.indexByte] at h
  | b :: bs, m, h => by
    unfold Lib.indexByte at h
    split at h
    · rename_i hb
      have he : b = c := by simpa using hb
      obtain rfl : m = 0 := by omega
      subst he; rfl
    · split at h
      · omega
      · rename_i hn
        have hn' : Lib.indexByte bs c ≠ -1 := by simpa using hn
        have := Lib.indexByte_ge bs c
        obtain ⟨k, rfl⟩ : ∃ k, m = k + 1 := ⟨m - 1, by omega⟩
        have ih := index_at c bs k (by omega)
        show b :: bs = (b :: bs.take k) ++ c :: bs.drop (k + 1)
        rw [List.cons_append, ← ih]
def joinL (c : UInt8) : List (List UInt8) → List UInt8
  | [] => []
  | [p] => p
  | p :: ps => p ++ c :: joinL c ps
theorem joinL_cons (c : UInt8) (p : List UInt8) {ps : List (List UInt8)} (h : 0 < ps.length) : joinL c (p :: ps) = p ++ c :: joinL c ps := by
  cases ps with
  | nil => simp at h
  | cons q qs => rfl
theorem splitNL_join (c : UInt8) : ∀ (k : Nat) (bs : List UInt8), joinL c (splitNL c k bs) = bs
  | 0, _ => rfl
  | k + 1, bs => by
    by_cases h : Lib.indexByte bs c < 0
    · rw [splitNL_none c (k + 1) bs h]; rfl
    · obtain ⟨m, hm⟩ := Int.eq_ofNat_of_zero_le (Int.not_lt.1 h)
      rw [splitNL_at c k bs m hm, joinL_cons c _ (splitNL_length c k _).2, splitNL_join c k]
      exact (index_at c bs m hm).symm
theorem cutL_is {c : UInt8} {bs w rest : List UInt8} {ok : Bool} (h : cutL c bs = (w, rest, ok)) : (ok = true ∧ bs = w ++ c :: rest) ∨ (ok = false ∧ rest = []) := by
  unfold cutL at h
  split at h
  · cases h; exact .inr ⟨rfl, rfl⟩
  · rename_i hn
    obtain ⟨m, hm⟩ := Int.eq_ofNat_of_zero_le (Int.not_lt.1 hn)
    rw [hm] at h
    cases h
    exact .inl ⟨rfl, index_at c bs m hm⟩
theorem posI_64 {bs : List UInt8} {n : Int} (h : posI bs = some n) : I64 n := by
  unfold posI at h
  split at h
  · split at h
    · simp at h; subst h; exact ⟨by omega, by omega⟩
    · cases h
  · cases h
theorem negI_64 {bs : List UInt8} {n : Int} (h : negI bs = some n) : I64 n := by
  unfold negI at h
  split at h
  · split at h
    · simp at h; subst h; exact ⟨by omega, by omega⟩
    · cases h
  · cases h
theorem piL_64 {bs : List UInt8} {n : Int} (h : piL bs = some n) : I64 n := by
  cases bs with
  | nil => cases h
  | cons c r =>
    rw [piL] at h
    split at h
    · exact posI_64 h
    split at h
    · exact negI_64 h
    · exact posI_64 h
theorem numW_is {w : List UInt8} {n : Int} (h : numW w = some n) : w = itoaL n ∧ I64 n := by
  unfold numW at h
  split at h
  · rename_i m hm
    split at h
    · rename_i e; simp at h; subst h; exact ⟨e.symm, piL_64 hm⟩
    · cases h
  · cases h
theorem numsO_is : ∀ (ws : List (List UInt8)) (ns : List Int), numsO ws = some ns → ws = ns.map itoaL ∧ ∀ n ∈ ns, I64 n
  | [], ns, h => by simp [numsO] at h; subst h; simp
  | w :: ws, ns, h => by
    rw [numsO] at h
    split at h
    · cases h
    · rename_i n hn
      cases hr : numsO ws with
      | none => rw [hr] at h; cases h
      | some r =>
        rw [hr] at h; simp at h; subst h
        obtain ⟨h1, h2⟩ := numsO_is ws r hr
        obtain ⟨h3, h4⟩ := numW_is hn
        refine ⟨by rw [List.map_cons, ← h1, ← h3], fun m hm => ?_⟩
        rw [List.mem_cons] at hm
        rcases hm with rfl | hm
        · exact h4
        · exact h2 m hm
theorem quoteN_ge : ∀ (k : Nat) (t : List UInt8), t.length ≤ k → t.length ≤ 4 * (quoteN k t).length
  | 0, t, h => by omega
  | k + 1, t, h => by
    by_cases h0 : t = []
    · subst h0; simp
    rw [quoteN, if_neg h0]
    have h1 := oneQ_len t h0
    have h2 := dec_bounds t h0
    have ih := quoteN_ge k (t.drop (dec t).2) (by rw [List.length_drop]; omega)
    rw [List.length_drop] at ih
    rw [List.length_append]; omega
theorem numsO_nil1 : numsO [[]] = none := rfl
theorem read_is {s : List UInt8} {e : EvD} (hl : s.length ≤ 10000) (h : readE s = some e) : evL e = s ∧ e.ok := by
  obtain ⟨w, rest, ok, hcut⟩ : ∃ w rest ok, cutL 32 s = (w, rest, ok) := ⟨_, _, _, rfl⟩
  rw [readE, hcut] at h
  have hj := splitNL_join 32 3 rest
  dsimp only at h
  rcases cutL_is hcut with ⟨_, hs⟩ | ⟨_, hr⟩
  · generalize splitNL 32 3 rest = ps at h hj
    unfold readPs at h
    split at h
    · rename_i hw
      obtain ⟨p0, p1, p2, p3, rfl⟩ : ∃ a b c d, ps = [a, b, c, d] := by
        match ps, hw.2 with
        | [a, b, c, d], _ => exact ⟨a, b, c, d, rfl⟩
      unfold readElem at h
      split at h
      · rename_i ns t hns hu
        obtain ⟨h1, h2⟩ := numsO_is _ _ hns
        have hnl := numsO_length _ _ hns
        obtain ⟨n0, n1, n2, rfl⟩ : ∃ a b c, ns = [a, b, c] := by
          match ns, hnl with
          | [a, b, c], _ => exact ⟨a, b, c, rfl⟩
        have h1' : p0 = itoaL n0 ∧ p1 = itoaL n1 ∧ p2 = itoaL n2 := by simpa using h1
        have hq : quoteL t = p3 := unquote_is hu
        simp at h
        subst h
        have hrest : rest = itoaL n0 ++ 32 :: (itoaL n1 ++ 32 :: (itoaL n2 ++ 32 :: quoteL t)) := by
          rw [← hj, hq, ← h1'.1, ← h1'.2.1, ← h1'.2.2]; rfl
        have htl : t.length ≤ 40000 := by
          have := quoteN_ge t.length t (Nat.le_refl _)
          have hlen : (quoteL t).length = (quoteN t.length t).length + 2 := by simp [quoteL]
          have hrl : (quoteL t).length ≤ rest.length := by rw [hrest]; simp; omega
          have hsl : rest.length ≤ s.length := by rw [hs]; simp; omega
          omega
        refine ⟨?_, ⟨h2 n0 (by simp), h2 n1 (by simp), h2 n2 (by simp), by show t.length ≤ _; omega⟩⟩
        rw [hs, hrest, evL]
        rcases hw.1 with rfl | rfl
        · rw [if_neg (show ¬ decide (elemL = lateL) = true by decide)]; simp
        · rw [if_pos (show decide (lateL = lateL) = true by decide)]; simp
      · cases h
    · split at h
      · rename_i hw
        unfold readNums at h
        split at h
        · rename_i ns hns
          split at h
          · rename_i hk
            obtain ⟨n0, rfl⟩ := List.length_eq_one_iff.1 hk
            obtain ⟨h1, h2⟩ := numsO_is _ _ hns
            simp at h; subst h
            subst h1
            have hrest : rest = itoaL n0 := by rw [← hj]; rfl
            refine ⟨by rw [hs, hrest, hw, evL]; simp, h2 n0 (by simp)⟩
          · cases h
        · cases h
      · split at h
        · rename_i hw
          unfold readNums at h
          split at h
          · rename_i ns hns
            split at h
            · rename_i hk
              obtain ⟨n0, n1, rfl⟩ : ∃ a b, ns = [a, b] := by
                match ns, hk with
                | [a, b], _ => exact ⟨a, b, rfl⟩
              obtain ⟨h1, h2⟩ := numsO_is _ _ hns
              simp at h; subst h
              subst h1
              have hrest : rest = itoaL n0 ++ 32 :: itoaL n1 := by rw [← hj]; rfl
              refine ⟨by rw [hs, hrest, hw, evL]; simp, h2 n0 (by simp), h2 n1 (by simp)⟩
            · cases h
          · cases h
        · cases h
  · subst hr
    rw [show splitNL 32 3 [] = [[]] from rfl] at h
    unfold readPs at h
    rw [if_neg (fun h => by have := h.2; simp at this)] at h
    unfold readNums at h
    rw [numsO_nil1] at h
    simp at h
end Go.Proofs.YtnfcbpgckomdfaaDoor
