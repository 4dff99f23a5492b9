/- A rule in words, as the document has it. -/
import Derived.Test.YtnfcbpgckomdfaaDoorNum
import Derived.Laws.StructEq
import Derived.ChangeKeysEq
namespace Go.Proofs.YtnfcbpgckomdfaaDoor
open Go.Lib (strCells)
structure RuleD where
  kind : Int
  bound : Int
  percent : Int
  window : Int
  sign : Int
  deriving DecidableEq
def RuleD.cells (r : RuleD) : List Value := [.int .i64 r.kind, .int .i64 r.bound, .int .i64 r.percent, .int .i64 r.window, .int .i64 r.sign]
def RuleD.val (r : RuleD) : Value := .agg r.cells.toArray
structure RuleD.ok (r : RuleD) : Prop where
  kind : I64 r.kind
  bound : I64 r.bound
  percent : I64 r.percent
  window : I64 r.window
  sign : I64 r.sign
def boundedL : List UInt8 := [98, 111, 117, 110, 100, 101, 100]
def markedL : List UInt8 := [109, 97, 114, 107, 101, 100]
def percentL : List UInt8 := [112, 101, 114, 99, 101, 110, 116]
/-- A rule's line. -/
def ruleL (r : RuleD) : List UInt8 :=
  if r.kind = 0 then boundedL ++ [32] ++ itoaL r.bound ++ [10]
  else if r.kind = 1 then markedL ++ [32] ++ itoaL r.sign ++ [10]
  else if r.kind = 2 then percentL ++ [32] ++ itoaL r.percent ++ [32] ++ itoaL r.window ++ [10]
  else []
def onlyB (r : RuleD) : Bool :=
  if r.kind = 0 then (r.sign == 0) && (r.percent == 0) && (r.window == 0)
  else if r.kind = 1 then (r.bound == 0) && (r.percent == 0) && (r.window == 0)
  else if r.kind = 2 then (r.bound == 0) && (r.sign == 0)
  else false
set_option maxHeartbeats 1600000
set_option maxRecDepth 20000
theorem refRule_spec (r : RuleD) (hr : r.ok) : Spec Tryd.prog 12 #[r.val] noFacts [] fun x L => x = .string (str (ruleL r)) ∧ L = [] := by
  refine Spec.go (vs := [_]) (hT := tyOk) (hm := mixed0) Tryd.func12 rfl Tryd.ntmps12 rfl ?_
  intro W p _
  refine Good.on ?_
  refine Good.box (us := r.cells) (fun g => ?_)
  refine Good.on ?_
  refine Good.load 0 (v := .int .i64 r.kind) ?_
  refine Good.on ?_
  have lb := itoaL_len hr.bound
  have ls := itoaL_len hr.sign
  have lp := itoaL_len hr.percent
  have lw := itoaL_len hr.window
  refine Good.ifB (fun h => ?_) (fun h => ?_)
  · refine Good.on ?_
    refine Good.load 0 (v := .int .i64 r.bound) ?_
    refine Good.on ?_
    refine Good.call0 (num_spec r.bound hr.bound) ck54 ?_
    rintro v L ⟨rfl, rfl⟩
    refine Good.on ?_
    refine Good.val (Yv.concat (a := boundedL ++ [32]) rfl rfl rfl (by simp [boundedL]; omega)) ?_
    refine Good.on ?_
    refine Good.val (Yv.concat (b := [10]) rfl rfl rfl (by simp [boundedL]; omega)) ?_
    refine Good.on ?_
    refine Good.ret1 Tryd.results12 (Res.tmp rfl) ⟨?_, rfl⟩ (fun _ h => h.clear)
    rw [ruleL, if_pos (by simpa using h)]
  refine Good.on ?_
  refine Good.ifB (fun h1 => ?_) (fun h1 => ?_)
  · refine Good.on ?_
    refine Good.load 0 (v := .int .i64 r.sign) ?_
    refine Good.on ?_
    refine Good.call0 (num_spec r.sign hr.sign) ck54 ?_
    rintro v L ⟨rfl, rfl⟩
    refine Good.on ?_
    refine Good.val (Yv.concat (a := markedL ++ [32]) rfl rfl rfl (by simp [markedL]; omega)) ?_
    refine Good.on ?_
    refine Good.val (Yv.concat (b := [10]) rfl rfl rfl (by simp [markedL]; omega)) ?_
    refine Good.on ?_
    refine Good.ret1 Tryd.results12 (Res.tmp rfl) ⟨?_, rfl⟩ (fun _ h => h.clear)
    rw [ruleL, if_neg (by simpa using h), if_pos (by simpa using h1)]
  refine Good.on ?_
  refine Good.ifB (fun h2 => ?_) (fun h2 => ?_)
  · refine Good.on ?_
    refine Good.hold (fun w => CellAt ⟨g, 2, none⟩ (.int .i64 r.percent) w ∧ CellAt ⟨g, 3, none⟩ (.int .i64 r.window) w) (fun w h => ⟨h.cell 0 rfl rfl, h.cell 0 rfl rfl⟩) ?_
    refine Good.drawn ?_
    refine Good.dload 1 rfl (fun w h => h.1) ?_
    refine Good.dload 6 rfl (fun w h => h.2) ?_
    refine Good.drawn ?_
    refine Good.doneS 2 rfl (OpW.call0 (num_spec r.percent hr.percent) ck54 rfl rfl rfl ?_)
    rintro v L ⟨rfl, rfl⟩
    refine ⟨fun w h => ⟨h.cell 0 rfl rfl, h.cell 0 rfl rfl⟩, ?_⟩
    refine Good.dval 3 rfl (Yv.concat (a := percentL ++ [32]) rfl rfl rfl (by simp [percentL]; omega)) ?_
    refine Good.dval 4 rfl (Yv.concat (b := [32]) rfl rfl rfl (by simp [percentL]; omega)) ?_
    refine Good.doneS 7 rfl (OpW.call0 (num_spec r.window hr.window) ck54 rfl rfl rfl ?_)
    rintro v L ⟨rfl, rfl⟩
    refine ⟨fun w h => ⟨h.cell 0 rfl rfl, h.cell 0 rfl rfl⟩, ?_⟩
    refine Good.dval 8 rfl (Yv.concat rfl rfl rfl (by simp [percentL]; omega)) ?_
    refine Good.dval 9 rfl (Yv.concat (b := [10]) rfl rfl rfl (by simp [percentL]; omega)) ?_
    refine Good.drawn ?_
    refine Good.dend ?_
    refine Good.on ?_
    refine Good.ret1 Tryd.results12 (Res.tmp rfl) ⟨?_, rfl⟩ (fun _ h => h.clear)
    rw [ruleL, if_neg (by simpa using h), if_neg (by simpa using h1), if_pos (by simpa using h2)]
  · refine Good.on ?_
    refine Good.ret1 Tryd.results12 (Res.tmp rfl) ⟨?_, rfl⟩ (fun _ h => h.clear)
    rw [ruleL, if_neg (by simpa using h), if_neg (by simpa using h1), if_neg (by simpa using h2)]; rfl
theorem only_spec (r : RuleD) : Spec Tryd.prog 13 #[r.val] noFacts [] fun x L => x = .bool (onlyB r) ∧ L = [] := by
  refine Spec.go (vs := [_]) (hT := tyOk) (hm := mixed0) Tryd.func13 rfl Tryd.ntmps13 rfl ?_
  intro W p _
  refine Good.on ?_
  refine Good.box (us := r.cells) (fun g => ?_)
  refine Good.on ?_
  refine Good.load 0 (v := .int .i64 r.kind) ?_
  refine Good.on ?_
  refine Good.ifB (fun h => ?_) (fun h => ?_)
  · refine Good.on ?_
    refine Good.load 0 (v := .int .i64 r.sign) ?_
    refine Good.on ?_
    refine Good.partB (fun ha => ?_) (fun ha => ?_) <;> refine Good.on ?_
    · refine Good.load 0 (v := .int .i64 r.percent) ?_
      refine Good.on ?_
      refine Good.partB (fun hb => ?_) (fun hb => ?_) <;> refine Good.on ?_
      · refine Good.load 0 (v := .int .i64 r.window) ?_
        refine Good.on ?_
        refine Good.ret1 Tryd.results13 (Res.tmp rfl) ⟨?_, rfl⟩ (fun _ h => h.clear)
        simp at h ha hb; simp [onlyB, h, ha, hb]
      · refine Good.ret1 Tryd.results13 (Res.tmp rfl) ⟨?_, rfl⟩ (fun _ h => h.clear)
        simp at h ha hb; simp [onlyB, h, ha, hb]
    · refine Good.ret1 Tryd.results13 (Res.tmp rfl) ⟨?_, rfl⟩ (fun _ h => h.clear)
      simp at h ha; simp [onlyB, h, ha]
  refine Good.on ?_
  refine Good.ifB (fun h1 => ?_) (fun h1 => ?_)
  · refine Good.on ?_
    refine Good.load 0 (v := .int .i64 r.bound) ?_
    refine Good.on ?_
    refine Good.partB (fun ha => ?_) (fun ha => ?_) <;> refine Good.on ?_
    · refine Good.load 0 (v := .int .i64 r.percent) ?_
      refine Good.on ?_
      refine Good.partB (fun hb => ?_) (fun hb => ?_) <;> refine Good.on ?_
      · refine Good.load 0 (v := .int .i64 r.window) ?_
        refine Good.on ?_
        refine Good.ret1 Tryd.results13 (Res.tmp rfl) ⟨?_, rfl⟩ (fun _ h => h.clear)
        simp at h1 ha hb; simp [onlyB, h1, ha, hb]
      · refine Good.ret1 Tryd.results13 (Res.tmp rfl) ⟨?_, rfl⟩ (fun _ h => h.clear)
        simp at h1 ha hb; simp [onlyB, h1, ha, hb]
    · refine Good.ret1 Tryd.results13 (Res.tmp rfl) ⟨?_, rfl⟩ (fun _ h => h.clear)
      simp at h1 ha; simp [onlyB, h1, ha]
  refine Good.on ?_
  refine Good.ifB (fun h2 => ?_) (fun h2 => ?_)
  · refine Good.on ?_
    refine Good.load 0 (v := .int .i64 r.bound) ?_
    refine Good.on ?_
    refine Good.partB (fun ha => ?_) (fun ha => ?_) <;> refine Good.on ?_
    · refine Good.load 0 (v := .int .i64 r.sign) ?_
      refine Good.on ?_
      refine Good.ret1 Tryd.results13 (Res.tmp rfl) ⟨?_, rfl⟩ (fun _ h => h.clear)
      simp at h2 ha; simp [onlyB, h2, ha]
    · refine Good.ret1 Tryd.results13 (Res.tmp rfl) ⟨?_, rfl⟩ (fun _ h => h.clear)
      simp at h2 ha; simp [onlyB, h2, ha]
  · refine Good.on ?_
    refine Good.ret1 Tryd.results13 (Res.tmp rfl) ⟨?_, rfl⟩ (fun _ h => h.clear)
    simp at h h1 h2; simp [onlyB, h, h1, h2]
end Go.Proofs.YtnfcbpgckomdfaaDoor
