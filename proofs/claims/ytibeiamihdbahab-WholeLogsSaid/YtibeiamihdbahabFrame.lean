/- Package frame: what its calls do. -/
import Derived.Test.YtibeiamihdbahabCrc
import Derived.Test.YtibeiamihdbahabVarGet
namespace Go.Proofs.Ytibeiamihdbahab
/-- A record. -/
structure Rec where
  kind : Int
  time : Int
  text : List UInt8
deriving DecidableEq
def Rec.cells (r : Rec) : List Value := [.int .i64 r.kind, .int .i64 r.time, .string (str r.text)]
def Rec.ok (r : Rec) : Prop := (-9223372036854775808 ≤ r.kind ∧ r.kind ≤ 9223372036854775807) ∧ (-9223372036854775808 ≤ r.time ∧ r.time ≤ 9223372036854775807)
abbrev Rec.val (r : Rec) : Value := .agg #[.int .i64 r.kind, .int .i64 r.time, .string (str r.text)]
def Rec.zero : Rec := ⟨0, 0, []⟩
def kindB (k : Int) : Bool := k == 1 || k == 2
set_option maxHeartbeats 800000
set_option maxRecDepth 10000
theorem frameKind_spec (k : Int) : Spec Try.prog 13 #[.int .i64 k] noFacts [] fun r L => r = .bool (kindB k) ∧ L = [] := by
  refine Spec.go (vs := [_]) (hT := tyOk) (hm := mixed0) Try.func13 rfl Try.ntmps13 rfl ?_
  intro W p _
  refine Good.on ?_
  refine Good.partB (fun h => ?_) (fun h => ?_) <;> refine Good.on ?_
  · refine Good.ret1 Try.results13 (Res.tmp rfl) ⟨?_, rfl⟩ (fun _ h => h)
    rw [kindB, h]; rfl
  · refine Good.ret1 Try.results13 (Res.tmp rfl) ⟨?_, rfl⟩ (fun _ h => h)
    rw [kindB, h]; rfl
def toB (ns : List Int) : List UInt8 := ns.map fun n => UInt8.ofNat n.toNat
/-- A record's body; its bytes. -/
def bodyL (r : Rec) : List UInt8 := toB (IntKind.u8.wrap r.kind :: putL (fold r.time)) ++ r.text
def encB (r : Rec) : List UInt8 := toB (putL (bodyL r).length) ++ sealL (bodyL r)
def encode (r : Rec) : List UInt8 × Int := if kindB r.kind then (if (bodyL r).length ≤ 65536 then (encB r, 0) else ([], 4)) else ([], 3)
def encV (x : List UInt8 × Int) : Value := .tuple #[.string (str x.1), .int .i64 x.2]
def CellIs (ad : Addr) (v : Value) (w : World) : Prop := w.cell? ad = some v
theorem frameEncode_spec (r : Rec) (hr : r.ok) (hl : r.text.length ≤ 70368744177664) : Spec Try.prog 5 #[r.val] noFacts [] fun x L => x = encV (encode r) ∧ L = [] := by
  refine Spec.go (vs := [_]) (hT := tyOk) (hm := mixed0) Try.func5 rfl Try.ntmps5 rfl ?_
  intro W p _
  refine Good.on ?_
  refine Good.box (us := r.cells) (fun g => ?_)
  refine Good.on ?_
  refine Good.load 0 (v := .int .i64 r.kind) ?_
  refine Good.on ?_
  refine Good.call0 (frameKind_spec r.kind) ck13 ?_
  rintro v1 L ⟨rfl, rfl⟩
  refine Good.on ?_
  refine Good.ifB (fun h => ?_) (fun h => ?_) <;> refine Good.on ?_
  · refine Good.ret2 Try.results5 (Res.tmp rfl) (Res.tmp rfl) ⟨?_, rfl⟩ (fun _ h => h.tail)
    rw [encode, if_neg (by simpa using h)]; rfl
  · have hk : kindB r.kind = true := by simpa using h
    refine Good.hold (fun w => CellIs ⟨g, 0, none⟩ (.int .i64 r.kind) w ∧ CellIs ⟨g, 1, none⟩ (.int .i64 r.time) w ∧ CellIs ⟨g, 2, none⟩ (.string (str r.text)) w) (fun w h => ⟨h.cell 0 rfl rfl, h.cell 0 rfl rfl, h.cell 0 rfl rfl⟩) ?_
    refine Good.drawn ?_
    refine Good.dload 1 rfl (fun w h => h.1) ?_
    refine Good.dload 5 rfl (fun w h => h.2.1) ?_
    refine Good.dload 9 rfl (fun w h => h.2.2) ?_
    refine Good.drawn ?_
    refine Good.doneS 3 rfl (OpW.lit rfl rfl rfl fun g' => ⟨fun w h => ⟨h.cell 1 rfl rfl, h.cell 1 rfl rfl, h.cell 1 rfl rfl⟩, ?_⟩)
    refine Good.mem (l' := [slc 5 1 (.slice (some ⟨g', 0, none⟩) 1 1) (bytesC [IntKind.u8.wrap r.kind]), HP.row g r.cells 27]) (fun w h => Sat.rowSlc rfl (by unfold maxLen; omega) h) ?_ (fun w h => ⟨h.cell 1 rfl rfl, h.cell 1 rfl rfl, h.cell 1 rfl rfl⟩)
    refine Good.doneS 6 rfl (OpW.call1 0 (varintPutInt_spec _ [IntKind.u8.wrap r.kind] r.time hr.2 (by simp)) ck14 rfl rfl rfl rfl ?_)
    rintro v2 L rfl
    refine ⟨fun w h => ⟨h.cell 1 rfl rfl, h.cell 1 rfl rfl, h.cell 1 rfl rfl⟩, ?_⟩
    refine Good.doneS 7 rfl (OpW.bytesStr 0 (ns := IntKind.u8.wrap r.kind :: putL (fold r.time)) rfl rfl rfl rfl rfl rfl rfl rfl rfl rfl rfl ⟨fun w h => ⟨h.cell 1 rfl rfl, h.cell 1 rfl rfl, h.cell 1 rfl rfl⟩, ?_⟩)
    have hp10 := putL_len10 (fold_lt hr.2)
    have hbl : (bodyL r).length ≤ 70368744177664 + 11 := by
      simp only [bodyL, toB, List.length_append, List.length_map, List.length_cons]; omega
    refine Good.dval 10 rfl (Yv.concat (a := toB (IntKind.u8.wrap r.kind :: putL (fold r.time))) (b := r.text) rfl rfl rfl (by simp only [toB, List.length_map, List.length_cons]; omega)) ?_
    refine Good.drawn ?_
    refine Good.dend ?_
    refine Good.on ?_
    rw [show toB (IntKind.u8.wrap r.kind :: putL (fold r.time)) ++ r.text = bodyL r from rfl, str_size]
    refine Good.ifD (fun h6 => ?_) (fun h6 => ?_) <;> refine Good.on ?_
    · refine Good.ret2 Try.results5 (Res.tmp rfl) (Res.tmp rfl) ⟨?_, rfl⟩ (fun _ h => h.tail.tail)
      rw [encode, if_pos hk, if_neg (by omega)]; rfl
    · have hb6 : (bodyL r).length ≤ 65536 := by omega
      have hlen : IntKind.u64.wrap ((bodyL r).length : Int) = ((bodyL r).length : Int) := wrapU rfl _ (by simp [IntKind.bits]; omega)
      refine Good.drawn ?_
      rw [str_size, hlen]
      refine Good.mem (l' := [slc 5 1 (.slice none 0 0) (bytesC [])]) (fun w h => Sat.slcNil _ _ h.tail.tail) ?_
      refine Good.done 3 rfl (OpW.call1 0 (varintPut_spec _ [] (bodyL r).length (by omega) (by simp)) ck15 rfl rfl rfl rfl ?_)
      rintro v3 L rfl
      refine Good.hold (fun w => BytesAt Try.prog v3 (str (toB (putL (bodyL r).length))) w) (fun w h => h.bytes 0 rfl) ?_
      refine Good.dbytes 4 rfl (fun w h => h) ?_
      refine Good.doneS 5 rfl (OpW.call0 crcNew_spec ck16 rfl rfl rfl ?_)
      rintro v4 L ⟨g4, rfl, rfl⟩
      refine ⟨fun w h => h.bytes 1 rfl, ?_⟩
      refine Good.doneS 7 rfl (OpW.call1 0 (crcSeal_spec g4 (bodyL r) (by omega)) ck17 rfl rfl rfl rfl ?_)
      rintro v5 L ⟨rfl, rfl⟩
      refine ⟨fun w h => h.bytes 1 rfl, ?_⟩
      have hput := putL_len10 (show (bodyL r).length < 18446744073709551616 by omega)
      refine Good.dval 8 rfl (Yv.concat (a := toB (putL (bodyL r).length)) (b := sealL (bodyL r)) rfl rfl rfl (by rw [sealL_length]; simp only [toB, List.length_map]; omega)) ?_
      refine Good.drawn ?_
      refine Good.dend ?_
      refine Good.on ?_
      refine Good.ret2 Try.results5 (Res.tmp rfl) (Res.tmp rfl) ⟨?_, rfl⟩ (fun _ h => h.tail.tail)
      rw [encode, if_pos hk, if_pos hb6]; rfl
end Go.Proofs.Ytibeiamihdbahab
