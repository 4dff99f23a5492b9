/- A configuration in words. -/
import Derived.Test.YtnfcbpgckomdfaaDoorCfgR
namespace Go.Proofs.YtnfcbpgckomdfaaDoor
open Go.Lib (strCells)
def ruleCells (l : List RuleD) : List Value := l.flatMap RuleD.cells
theorem ruleCells_length (l : List RuleD) : (ruleCells l).length = l.length * 5 := by
  induction l with
  | nil => rfl
  | cons r l ih => simp [ruleCells, RuleD.cells] at ih ⊢; omega
theorem ruleCells_snoc (l : List RuleD) (r : RuleD) : ruleCells (l ++ [r]) = ruleCells l ++ r.cells := by simp [ruleCells]
theorem ruleCells_one : ∀ l : List RuleD, oneL (ruleCells l) = true
  | [] => rfl
  | r :: l => by simp only [ruleCells, List.flatMap_cons]; simp only [RuleD.cells, List.cons_append, List.nil_append, oneL]; exact ruleCells_one l
theorem ruleCells_get (l : List RuleD) (i : Nat) (r : RuleD) (hr : l[i]? = some r) (j : Nat) (v : Value) (hv : r.cells[j]? = some v) : (ruleCells l)[i * 5 + j]? = some v := by
  induction l generalizing i with
  | nil => simp at hr
  | cons x l ih =>
    have hlen : x.cells.length = 5 := rfl
    have hj : j < 5 := by have := (List.getElem?_eq_some_iff.1 hv).1; simpa [RuleD.cells] using this
    cases i with
    | zero =>
      simp at hr; subst hr
      simp only [ruleCells, List.flatMap_cons, Nat.zero_mul, Nat.zero_add]
      rw [List.getElem?_append_left (by omega)]; exact hv
    | succ i =>
      simp only [ruleCells, List.flatMap_cons] at ih ⊢
      rw [List.getElem?_append_right (by omega), hlen, show (i + 1) * 5 + j - 5 = i * 5 + j from by omega]
      exact ih i (by simpa using hr)
structure ConfD where
  rules : List RuleD
  timeout : Int
  drift : Int
  deriving DecidableEq
structure ConfD.ok (c : ConfD) : Prop where
  rules : ∀ r ∈ c.rules, r.ok
  timeout : I64 c.timeout
  drift : I64 c.drift
/-- A configuration's cells, its rules being in the slice v. -/
def ConfD.cells (v : Value) (c : ConfD) : List Value := [v, .int .i64 c.timeout, .int .i64 c.drift]
def ConfD.val (v : Value) (c : ConfD) : Value := .agg (c.cells v).toArray
def sourceL : List UInt8 := [115, 111, 117, 114, 99, 101]
def headL (c : ConfD) : List UInt8 := sourceL ++ [32] ++ itoaL c.timeout ++ [32] ++ itoaL c.drift ++ [10]
def rulesL (l : List RuleD) : List UInt8 := l.flatMap ruleL
def printL (c : ConfD) : List UInt8 := headL c ++ rulesL c.rules
theorem ruleL_len {r : RuleD} (hr : r.ok) : (ruleL r).length ≤ 60 := by
  have lb := itoaL_len hr.bound
  have ls := itoaL_len hr.sign
  have lp := itoaL_len hr.percent
  have lw := itoaL_len hr.window
  unfold ruleL
  split
  · simp [boundedL]; omega
  split
  · simp [markedL]; omega
  split
  · simp [percentL]; omega
  · simp
theorem rulesL_len : ∀ (l : List RuleD), (∀ r ∈ l, r.ok) → (rulesL l).length ≤ l.length * 60
  | [], _ => by simp [rulesL]
  | r :: l, h => by
    have h1 := ruleL_len (h r (by simp))
    have h2 := rulesL_len l (fun m hm => h m (by simp [hm]))
    simp only [rulesL, List.flatMap_cons, List.length_append, List.length_cons] at h2 ⊢
    omega
theorem rulesL_take (l : List RuleD) (i : Nat) (hi : i < l.length) : rulesL (l.take (i + 1)) = rulesL (l.take i) ++ ruleL l[i] := by
  unfold rulesL; rw [List.take_succ_eq_append_getElem hi, List.flatMap_append]; simp only [List.flatMap_cons, List.flatMap_nil, List.append_nil]
theorem headL_len {c : ConfD} (h : c.ok) : (headL c).length ≤ 60 := by
  have lt := itoaL_len h.timeout
  have ld := itoaL_len h.drift
  simp [headL, sourceL]; omega
set_option maxHeartbeats 1600000
set_option maxRecDepth 20000
theorem refPrint_spec (v : Value) (c : ConfD) (hc : c.ok) (hn : c.rules.length ≤ 100000) : Spec Tryd.prog 15 #[c.val v] (Rd v c.rules.length (ruleCells c.rules)) [] fun x L => x = .string (str (printL c)) ∧ L = [] := by
  refine Spec.go (vs := [_]) (hT := tyOk) (hm := mixed0) Tryd.func15 rfl Tryd.ntmps15 rfl ?_
  rintro W p rd
  obtain ⟨a, ca, rfl⟩ := rd.is
  have lt := itoaL_len hc.timeout
  have ld := itoaL_len hc.drift
  have lh := headL_len hc
  refine Good.on ?_
  refine Good.box (us := c.cells _) (fun g => ?_)
  refine Good.on ?_
  refine Good.hold (fun w => CellAt ⟨g, 1, none⟩ (.int .i64 c.timeout) w ∧ CellAt ⟨g, 2, none⟩ (.int .i64 c.drift) w) (fun w h => ⟨h.cell 0 rfl rfl, h.cell 0 rfl rfl⟩) ?_
  refine Good.drawn ?_
  refine Good.dload 1 rfl (fun w h => h.1) ?_
  refine Good.dload 6 rfl (fun w h => h.2) ?_
  refine Good.doneS 2 rfl (OpW.call0 (num_spec c.timeout hc.timeout) ck54 rfl rfl rfl ?_)
  rintro v L ⟨rfl, rfl⟩
  refine ⟨fun w h => ⟨h.cell 0 rfl rfl, h.cell 0 rfl rfl⟩, ?_⟩
  refine Good.dval 3 rfl (Yv.concat (a := sourceL ++ [32]) rfl rfl rfl (by simp [sourceL]; omega)) ?_
  refine Good.dval 4 rfl (Yv.concat (b := [32]) rfl rfl rfl (by simp [sourceL]; omega)) ?_
  refine Good.doneS 7 rfl (OpW.call0 (num_spec c.drift hc.drift) ck54 rfl rfl rfl ?_)
  rintro v L ⟨rfl, rfl⟩
  refine ⟨fun w h => ⟨h.cell 0 rfl rfl, h.cell 0 rfl rfl⟩, ?_⟩
  refine Good.dval 8 rfl (Yv.concat rfl rfl rfl (by simp [sourceL]; omega)) ?_
  refine Good.dval 9 rfl (Yv.concat (b := [10]) rfl rfl rfl (by simp [sourceL]; omega)) ?_
  refine Good.drawn ?_
  refine Good.dend ?_
  rw [show sourceL ++ [32] ++ itoaL c.timeout ++ [32] ++ itoaL c.drift ++ [10] = headL c from rfl]
  refine Good.on ?_
  refine Good.loop (ι := Nat × List UInt8) (fun x => [(1, .v (.pointer (some ⟨g, 0, none⟩))), (3, .v (.string (str x.2))), (4, .v (.int .i64 (x.1 : Int)))]) (fun _ => [HP.row g (c.cells (.slice a c.rules.length ca)) 24])
    (fun x => x.1 ≤ c.rules.length ∧ x.2 = headL c ++ rulesL (c.rules.take x.1)) (fun x => c.rules.length - x.1) (0, headL c) ⟨by simp, by simp [rulesL]⟩ ⟨rfl, rfl, rfl, trivial⟩ (fun _ h => h) ?_
  rintro ⟨i, acc⟩ ⟨hi, hacc⟩
  dsimp only at hi hacc ⊢
  have l2 := rulesL_len (c.rules.take i) (fun n h => hc.rules n (List.mem_of_mem_take h))
  have l3 : (c.rules.take i).length ≤ i := by simp; omega
  have l4 : acc.length = (headL c).length + (rulesL (c.rules.take i)).length := by rw [hacc, List.length_append]
  refine Good.on ?_
  refine Good.load 0 (v := .slice a c.rules.length ca) ?_
  refine Good.on ?_
  refine Good.ifD (fun h => ?_) (fun h => ?_) <;> refine Good.on ?_
  · have hi' : i < c.rules.length := by omega
    have hri : c.rules[i]? = some c.rules[i] := List.getElem?_eq_getElem hi'
    obtain ⟨g0, off, rfl, hcell⟩ := rd.pos (by rw [ruleCells_length]; omega)
    refine Good.load 0 (v := .slice (some ⟨g0, off, none⟩) c.rules.length ca) ?_
    refine Good.on ?_
    refine Good.val (Yv.indexAddr rfl rfl rfl rfl rfl rfl (by omega) (by omega)) ?_
    refine Good.on ?_
    refine Good.loadRd c.rules[i].cells (fun w h j v hj => ?_) ?_
    · have := hcell _ w h _ _ (ruleCells_get c.rules i _ hri j v hj)
      rw [← Nat.add_assoc] at this; exact this
    refine Good.on ?_
    have hok := hc.rules _ (List.getElem_mem hi')
    refine Good.call0 (refRule_spec c.rules[i] hok) ck12 ?_
    rintro v L ⟨rfl, rfl⟩
    have l5 := ruleL_len hok
    refine Good.on ?_
    refine Good.val (Yv.concat (a := acc) (b := ruleL c.rules[i]) rfl rfl rfl (by omega)) ?_
    refine Good.on ?_
    refine Good.again (i + 1, acc ++ ruleL c.rules[i]) ⟨⟨by dsimp only; omega, ?_⟩, by dsimp only; omega⟩ ⟨rfl, rfl, ?_, trivial⟩ (fun _ h => h)
    · dsimp only; rw [rulesL_take _ i hi', hacc, List.append_assoc]
    · show some (Value.int .i64 _) = _
      rw [w64 _ (by omega)]; rfl
  · have hi' : i = c.rules.length := by omega
    subst hi'
    refine Good.ret1 Tryd.results15 (Res.tmp rfl) ⟨?_, rfl⟩ (fun _ h => h.clear)
    rw [hacc, List.take_length, printL]
theorem cfgPrint_spec (v : Value) (c : ConfD) (hc : c.ok) (hn : c.rules.length ≤ 100000) : Spec Tryd.prog 14 #[c.val v] (fun W p => Env W p ∧ Rd v c.rules.length (ruleCells c.rules) W p) [] fun x L => x = .string (str (printL c)) ∧ L = [] := by
  refine Spec.go (vs := [_]) (hT := tyOk) (hm := mixed0) Tryd.func14 rfl Tryd.ntmps14 rfl ?_
  rintro W p ⟨hE, rd⟩
  obtain ⟨a, ca, rfl⟩ := rd.is
  have lh := headL_len hc
  refine Good.on ?_
  refine Good.box (us := c.cells _) (fun g => ?_)
  refine Good.on ?_
  refine Good.alloc (fun b => ?_)
  refine Good.mem (l' := [bld b [], HP.row g (c.cells (.slice a c.rules.length ca)) 24]) (fun w h => Sat.bldNew h) ?_
  refine Good.on ?_
  refine Good.load 1 (v := .int .i64 c.timeout) ?_
  refine Good.on ?_
  refine Good.load 1 (v := .int .i64 c.drift) ?_
  refine Good.on ?_
  refine Good.op rfl (OpW.lit rfl rfl rfl fun g' => ?_)
  refine Good.mem (l' := [slc 3 1 (.slice (some ⟨g', 0, none⟩) 2 2) (intsC [c.timeout, c.drift]), bld b [], HP.row g (c.cells (.slice a c.rules.length ca)) 24]) (fun w h => (Sat.rowSlc rfl (by unfold maxLen; omega) h)) ?_
  refine Good.on ?_
  refine Good.callR (line_spec sourceL _ [c.timeout, c.drift] (by decide) (by simp) (by simp; exact ⟨hc.timeout, hc.drift⟩)) ck53 (fun w h => ⟨stays_env.at hE h, Rd.nil (h.slcRd 0 rfl (by decide) rfl)⟩) ?_
  rintro v L ⟨rfl, rfl⟩
  rw [show lineL sourceL [c.timeout, c.drift] = headL c from by simp [lineL, numsL, headL]]
  refine Good.on ?_
  refine Good.callP [1] (writeString_spec b [] (headL c) (by simp; omega)) ck55 ?_
  rintro v L ⟨rfl, rfl⟩
  refine Good.on ?_
  refine Good.load 2 (v := .slice a c.rules.length ca) ?_
  refine Good.on ?_
  refine Good.loop (ι := Nat × List UInt8) (fun x => [(3, .v (.pointer (some ⟨b, 0, none⟩))), (14, .v (.slice a c.rules.length ca)), (15, .v (.int .i64 c.rules.length)), (16, .v (.int .i64 (x.1 : Int)))]) (fun x => [bld b x.2])
    (fun x => x.1 ≤ c.rules.length ∧ x.2 = headL c ++ rulesL (c.rules.take x.1)) (fun x => c.rules.length - x.1) (0, headL c) ⟨by simp, by simp [rulesL]⟩ ⟨rfl, rfl, rfl, rfl, trivial⟩ (fun _ h => h.second.second) ?_
  rintro ⟨i, acc⟩ ⟨hi, hacc⟩
  dsimp only at hi hacc ⊢
  have l2 := rulesL_len (c.rules.take i) (fun n h => hc.rules n (List.mem_of_mem_take h))
  have l3 : (c.rules.take i).length ≤ i := by simp; omega
  have l4 : acc.length = (headL c).length + (rulesL (c.rules.take i)).length := by rw [hacc, List.length_append]
  refine Good.on ?_
  refine Good.ifD (fun h => ?_) (fun h => ?_) <;> refine Good.on ?_
  · have hi' : i < c.rules.length := by omega
    have hri : c.rules[i]? = some c.rules[i] := List.getElem?_eq_getElem hi'
    obtain ⟨g0, off, rfl, hcell⟩ := rd.pos (by rw [ruleCells_length]; omega)
    refine Good.val (Yv.indexAddr rfl rfl rfl rfl rfl rfl (by omega) (by omega)) ?_
    refine Good.on ?_
    refine Good.loadRd c.rules[i].cells (fun w h j v hj => ?_) ?_
    · have := hcell _ w h _ _ (ruleCells_get c.rules i _ hri j v hj)
      rw [← Nat.add_assoc] at this; exact this
    refine Good.on ?_
    refine Good.alloc (fun g1 => ?_)
    refine Good.on ?_
    refine Good.store 0 ?_
    refine Good.on ?_
    refine Good.loadRow 0 ?_
    refine Good.on ?_
    have hok := hc.rules _ (List.getElem_mem hi')
    refine Good.callK [] (cfgRule_spec c.rules[i] hok) stays_env hE ck11 ?_
    rintro v L ⟨rfl, rfl⟩
    have l5 := ruleL_len hok
    refine Good.on ?_
    refine Good.callP [1] (writeString_spec b acc (ruleL c.rules[i]) (by omega)) ck55 ?_
    rintro v L ⟨rfl, rfl⟩
    refine Good.on ?_
    refine Good.again (i + 1, acc ++ ruleL c.rules[i]) ⟨⟨by dsimp only; omega, ?_⟩, by dsimp only; omega⟩ ⟨rfl, rfl, rfl, ?_, trivial⟩ (fun _ h => h.second)
    · dsimp only; rw [rulesL_take _ i hi', hacc, List.append_assoc]
    · show some (Value.int .i64 _) = _
      rw [w64 _ (by omega)]; rfl
  · have hi' : i = c.rules.length := by omega
    subst hi'
    refine Good.callP [0] (builderString_spec b acc (by omega)) ck56 ?_
    rintro v L ⟨rfl, rfl⟩
    refine Good.on ?_
    refine Good.ret1 Tryd.results14 (Res.tmp rfl) ⟨?_, rfl⟩ (fun _ h => h.clear)
    rw [hacc, List.take_length, printL]
end Go.Proofs.YtnfcbpgckomdfaaDoor
