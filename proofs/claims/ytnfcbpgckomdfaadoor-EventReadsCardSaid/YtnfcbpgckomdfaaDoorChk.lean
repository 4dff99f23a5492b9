/- gen.Check, config.Check. -/
import Derived.Test.YtnfcbpgckomdfaaDoorCfgs
namespace Go.Proofs.YtnfcbpgckomdfaaDoor
open Go.Lib (strCells)
def rchkB (r : RuleD) : Bool :=
  if r.kind = 0 then decide (r.bound ≥ 0)
  else if r.kind = 1 then decide (r.sign ≥ 0) && decide (r.sign ≤ 1114111)
  else decide (r.percent ≥ 0) && decide (r.percent ≤ 100) && decide (r.window ≥ 1) && decide (r.window ≤ 4096)
/-- What is wrong with a rule. -/
def rchkL (r : RuleD) : Int := if r.kind = 0 ∨ r.kind = 1 ∨ r.kind = 2 then (if rchkB r then 0 else 7) else 3
def rulesChk : List RuleD → Int
  | [] => 0
  | r :: l => if rchkL r ≠ 0 then rchkL r else rulesChk l
def chkL (c : ConfD) : Int := if c.rules.length = 0 ∨ 4096 < c.rules.length then 6 else if c.timeout < 1 ∨ c.drift < 0 then 7 else rulesChk c.rules
set_option maxHeartbeats 1600000
set_option maxRecDepth 20000
theorem genCheck_spec (r : RuleD) : Spec Tryd.prog 79 #[r.val] noFacts [] fun x L => x = .int .i64 (rchkL r) ∧ L = [] := by
  refine Spec.go (vs := [_]) (hT := tyOk) (hm := mixed0) Tryd.func79 rfl Tryd.ntmps79 rfl ?_
  intro W p _
  refine Good.on ?_
  refine Good.box (us := r.cells) (fun g => ?_)
  refine Good.on ?_
  refine Good.load 0 (v := .int .i64 r.kind) ?_
  refine Good.on ?_
  have fin : ∀ b : Bool, (r.kind = 0 ∨ r.kind = 1 ∨ r.kind = 2) → rchkB r = b → Value.int .i64 (if b then 0 else 7) = .int .i64 (rchkL r) := fun b hk hb => by rw [rchkL, if_pos hk, hb]
  refine Good.ifB (fun h => ?_) (fun h => ?_)
  · have hk : r.kind = 0 := by simpa using h
    refine Good.on ?_
    refine Good.load 0 (v := .int .i64 r.bound) ?_
    refine Good.on ?_
    refine Good.ifB (fun hb => ?_) (fun hb => ?_) <;> refine Good.on ?_
    · have hb : ¬ r.bound ≥ 0 := by simpa using hb
      refine Good.ret1 Tryd.results79 (Res.tmp rfl) ⟨fin false (.inl hk) (by simp [rchkB, hk, hb]), rfl⟩ (fun _ h => h.clear)
    · have hb : r.bound ≥ 0 := by simpa using hb
      refine Good.ret1 Tryd.results79 (Res.tmp rfl) ⟨fin true (.inl hk) (by simp [rchkB, hk, hb]), rfl⟩ (fun _ h => h.clear)
  refine Good.on ?_
  refine Good.ifB (fun h1 => ?_) (fun h1 => ?_)
  · have hk : r.kind = 1 := by simpa using h1
    refine Good.on ?_
    refine Good.load 0 (v := .int .i64 r.sign) ?_
    refine Good.on ?_
    refine Good.partD (fun ha => ?_) (fun ha => ?_) <;> refine Good.on ?_
    · refine Good.load 0 (v := .int .i64 r.sign) ?_
      refine Good.on ?_
      refine Good.ifB (fun hb => ?_) (fun hb => ?_) <;> refine Good.on ?_
      · have hb : ¬ r.sign ≤ 1114111 := by simpa using hb
        refine Good.ret1 Tryd.results79 (Res.tmp rfl) ⟨fin false (.inr (.inl hk)) (by simp [rchkB, hk, hb]), rfl⟩ (fun _ h => h.clear)
      · have hb : r.sign ≤ 1114111 := by simpa using hb
        refine Good.ret1 Tryd.results79 (Res.tmp rfl) ⟨fin true (.inr (.inl hk)) (by simp [rchkB, hk, ha, hb]), rfl⟩ (fun _ h => h.clear)
    · refine Good.ret1 Tryd.results79 (Res.tmp rfl) ⟨fin false (.inr (.inl hk)) (by simp [rchkB, hk, ha]), rfl⟩ (fun _ h => h.clear)
  refine Good.on ?_
  refine Good.ifB (fun h2 => ?_) (fun h2 => ?_)
  · have hk : r.kind = 2 := by simpa using h2
    have d1 : ¬ r.kind = 0 := by omega
    have d2 : ¬ r.kind = 1 := by omega
    refine Good.on ?_
    refine Good.load 0 (v := .int .i64 r.percent) ?_
    refine Good.on ?_
    refine Good.partD (fun ha => ?_) (fun ha => ?_) <;> refine Good.on ?_
    rotate_left
    · refine Good.ret1 Tryd.results79 (Res.tmp rfl) ⟨fin false (.inr (.inr hk)) (by simp [rchkB, d1, d2, ha]), rfl⟩ (fun _ h => h.clear)
    refine Good.load 0 (v := .int .i64 r.percent) ?_
    refine Good.on ?_
    refine Good.partD (fun hb => ?_) (fun hb => ?_) <;> refine Good.on ?_
    rotate_left
    · refine Good.ret1 Tryd.results79 (Res.tmp rfl) ⟨fin false (.inr (.inr hk)) (by simp [rchkB, d1, d2, hb]), rfl⟩ (fun _ h => h.clear)
    refine Good.load 0 (v := .int .i64 r.window) ?_
    refine Good.on ?_
    refine Good.partD (fun hc => ?_) (fun hc => ?_) <;> refine Good.on ?_
    rotate_left
    · refine Good.ret1 Tryd.results79 (Res.tmp rfl) ⟨fin false (.inr (.inr hk)) (by simp [rchkB, d1, d2, hc]), rfl⟩ (fun _ h => h.clear)
    refine Good.load 0 (v := .int .i64 r.window) ?_
    refine Good.on ?_
    refine Good.ifB (fun hd => ?_) (fun hd => ?_) <;> refine Good.on ?_
    · have hd : ¬ r.window ≤ 4096 := by simpa using hd
      refine Good.ret1 Tryd.results79 (Res.tmp rfl) ⟨fin false (.inr (.inr hk)) (by simp [rchkB, d1, d2, hd]), rfl⟩ (fun _ h => h.clear)
    · have hd : r.window ≤ 4096 := by simpa using hd
      refine Good.ret1 Tryd.results79 (Res.tmp rfl) ⟨fin true (.inr (.inr hk)) (by simp [rchkB, d1, d2, ha, hb, hc, hd]), rfl⟩ (fun _ h => h.clear)
  · refine Good.on ?_
    refine Good.ret1 Tryd.results79 (Res.tmp rfl) ⟨?_, rfl⟩ (fun _ h => h.clear)
    simp at h h1 h2
    rw [rchkL, if_neg (by omega)]
theorem cfgCheck_spec (v : Value) (c : ConfD) (hn : c.rules.length ≤ 1000000) : Spec Tryd.prog 47 #[c.val v] (Rd v c.rules.length (ruleCells c.rules)) [] fun x L => x = .int .i64 (chkL c) ∧ L = [] := by
  refine Spec.go (vs := [_]) (hT := tyOk) (hm := mixed0) Tryd.func47 rfl Tryd.ntmps47 rfl ?_
  rintro W p rd
  obtain ⟨a, ca, rfl⟩ := rd.is
  refine Good.on ?_
  refine Good.box (us := c.cells _) (fun g => ?_)
  refine Good.on ?_
  refine Good.load 0 (v := .slice a c.rules.length ca) ?_
  refine Good.on ?_
  refine Good.partB (fun h0 => ?_) (fun h0 => ?_) <;> refine Good.on ?_
  · have : c.rules.length = 0 := by simpa using h0
    refine Good.ret1 Tryd.results47 (Res.tmp rfl) ⟨by rw [chkL, if_pos (.inl this)], rfl⟩ (fun _ h => h.clear)
  have h0 : c.rules.length ≠ 0 := by simpa using h0
  refine Good.load 0 (v := .slice a c.rules.length ca) ?_
  refine Good.on ?_
  refine Good.ifD (fun h1 => ?_) (fun h1 => ?_) <;> refine Good.on ?_
  · refine Good.ret1 Tryd.results47 (Res.tmp rfl) ⟨by rw [chkL, if_pos (.inr (by omega))], rfl⟩ (fun _ h => h.clear)
  have hA : chkL c = if c.timeout < 1 ∨ c.drift < 0 then 7 else rulesChk c.rules := by rw [chkL, if_neg (by omega)]
  refine Good.load 0 (v := .int .i64 c.timeout) ?_
  refine Good.on ?_
  refine Good.partD (fun h2 => ?_) (fun h2 => ?_) <;> refine Good.on ?_
  · refine Good.ret1 Tryd.results47 (Res.tmp rfl) ⟨by rw [hA, if_pos (.inl h2)], rfl⟩ (fun _ h => h.clear)
  refine Good.load 0 (v := .int .i64 c.drift) ?_
  refine Good.on ?_
  refine Good.ifD (fun h3 => ?_) (fun h3 => ?_) <;> refine Good.on ?_
  · refine Good.ret1 Tryd.results47 (Res.tmp rfl) ⟨by rw [hA, if_pos (.inr h3)], rfl⟩ (fun _ h => h.clear)
  rw [if_neg (by omega)] at hA
  refine Good.load 0 (v := .slice a c.rules.length ca) ?_
  refine Good.on ?_
  refine Good.loop (ι := Nat) (fun i => [(27, .v (.slice a c.rules.length ca)), (28, .v (.int .i64 c.rules.length)), (29, .v (.int .i64 (i : Int)))]) (fun _ => [])
    (fun i => i ≤ c.rules.length ∧ rulesChk (c.rules.drop i) = rulesChk c.rules) (fun i => c.rules.length - i) 0 ⟨by simp, rfl⟩ ⟨rfl, rfl, rfl, trivial⟩ (fun _ h => h.clear) ?_
  rintro i ⟨hi, he⟩
  refine Good.on ?_
  refine Good.ifD (fun h => ?_) (fun h => ?_) <;> refine Good.on ?_
  rotate_left
  · have hd : c.rules.drop i = [] := List.drop_eq_nil_of_le (by omega)
    rw [hd, rulesChk] at he
    refine Good.ret1 Tryd.results47 (Res.tmp rfl) ⟨by rw [hA, ← he], rfl⟩ (fun _ h => h.clear)
  have hi' : i < c.rules.length := by omega
  have hri : c.rules[i]? = some c.rules[i] := List.getElem?_eq_getElem hi'
  have hd : c.rules.drop i = c.rules[i] :: c.rules.drop (i + 1) := List.drop_eq_getElem_cons hi'
  rw [hd, rulesChk] at he
  obtain ⟨g0, off, rfl, hcell⟩ := rd.pos (by rw [ruleCells_length]; omega)
  refine Good.val (Yv.indexAddr rfl rfl rfl rfl rfl rfl (by omega) (by omega)) ?_
  refine Good.on ?_
  refine Good.loadRd c.rules[i].cells (fun w h j v hj => ?_) ?_
  · have := hcell _ w h _ _ (ruleCells_get c.rules i _ hri j v hj)
    rw [← Nat.add_assoc] at this; exact this
  refine Good.on ?_
  refine Good.alloc (fun g1 => ?_)
  refine Good.on ?_
  refine Good.store 0 ?_
  refine Good.on ?_
  refine Good.loadRow 0 ?_
  refine Good.on ?_
  refine Good.call0 (genCheck_spec c.rules[i]) ck79 ?_
  rintro v L ⟨rfl, rfl⟩
  refine Good.on ?_
  refine Good.ifB (fun h5 => ?_) (fun h5 => ?_) <;> refine Good.on ?_
  · have h5 : rchkL c.rules[i] ≠ 0 := by simpa using h5
    rw [if_pos h5] at he
    refine Good.ret1 Tryd.results47 (Res.tmp rfl) ⟨by rw [hA, ← he], rfl⟩ (fun _ h => h.clear)
  · have h5 : rchkL c.rules[i] = 0 := by simpa using h5
    rw [if_neg (by simpa using h5)] at he
    refine Good.again (i + 1) ⟨⟨by omega, he⟩, by omega⟩ ⟨rfl, rfl, ?_, trivial⟩ (fun _ h => h.clear)
    show some (Value.int .i64 _) = _
    rw [w64 _ (by omega)]; rfl
end Go.Proofs.YtnfcbpgckomdfaaDoor
